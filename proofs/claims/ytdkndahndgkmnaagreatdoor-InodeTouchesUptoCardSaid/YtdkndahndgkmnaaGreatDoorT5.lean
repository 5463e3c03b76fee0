/-
  A text written in parts, in one view or in several ones: what holds between two parts.
  Every operation of layer 27 gives the same in a view and in the model; the state behind a view; the beginning.
  The state and the model in which the statements of layer 27 begin: start.
  The statements' operations of layer 27, one after the other: after.
  The names that an operation of layer 27 reads: they are few and short.
  The law InodeFrame.
  The contracts of pdqsort at replevin/object.Name, for windows of less than 50 elements.
  Pivots: median of three, choosePivot. (replevin/object.Name)
  Reversal, sifting down. (replevin/object.Name)
  Sorting by a heap. (replevin/object.Name)
  Partitions. (replevin/object.Name)
  Insertion that gives up. (replevin/object.Name)
  pdqsort, whole. (replevin/object.Name)
  The contract of slices.SortFunc at replevin/object.Name, for at most 200 elements.
  Why an action is not the same in two runs: what package depend computes. No program in sight.
  Actions of runs in memory.
  Runs of actions as the statements of layer 50 make them.
  The contract of object.Sort at two names.
  Names put in order, each once: object.Sort, names; lists of names that are compared.
  Which names an operation of layer 27 reads and writes, exactly; lists of names in order.
  Which names an operation of layer 27 reads and writes, operation by operation.
  The names that the model of layer 27 expects: one more name; names compared with what a view has read; touched where it makes or sets.
  The names that the model of layer 27 expects of an operation that makes, or sets.
  The names that the model of layer 27 expects of an operation that sets, or reads.
  The names that the model of layer 27 expects of an operation that reads.
  Conditions: those that each theorem states.
-/
import Derived.Test.YtdkndahndgkmnaaGreatDoorT4
import Derived.Test.YtdkndahndgkmnaaGreatDoorT2
import Derived.Test.YtdkndahndgkmnaaGreatDoorT3
set_option maxRecDepth 10000
namespace Go.Proofs.YtdkndahndgkmnaaGreatDoor
open Go.RowKit Go.Proofs.Tryz
theorem nodup_sub {α:Type} [DecidableEq α]:∀(l m:List α),l.Nodup→(∀x ∈ l,x ∈ m)→l.length≤m.length
 | [],m,_,_=>Nat.zero_le _
 | a::l,m,hn,hs=>by
  have ha:a ∈ m:=hs a (by simp)
  have h1:=nodup_sub l (m.erase a) (List.nodup_cons.1 hn).2 fun x hx=>(List.mem_erase_of_ne (fun e=>(List.nodup_cons.1 hn).1 (by rw [e] at hx;exact hx))).2 (hs x (by simp [hx]))
  rw [List.length_erase_of_mem ha] at h1
  have:0<m.length:=List.length_pos_of_mem ha
  simp only [List.length_cons];omega
theorem WX {es:Al} {cs:List Ch} (h:∀c ∈ cs,c.abs=false) (n:Nm):vget (applyE es (vwr cs)) [] n=vget es cs n:=by
 unfold vget
 split
 ·rfl
 ·show ((getO n (applyE es (vwr cs))).getD ⟨#[]⟩,(getO n (applyE es (vwr cs))).isSome)=_
  rw [Wo]
  cases hc:vcall cs n with
  | none=>rfl
  | some c=>
   have:=h c (XX hc).2
   simp [this]
theorem FOK.after {es:Al} {cs:List Ch} {bi:Bi} {w:ByteArray} (h:FOK es cs bi w) (ha:∀c ∈ cs,c.abs=false):FOK (applyE es (vwr cs)) [] bi w:=by
 refine ⟨?_,h.le,fun k hk=>?_,fun j hj=>?_⟩
 ·obtain ⟨nd,h1,h2,h3,h4⟩:=h.nd
  exact ⟨nd,h1,h2,h3,by rw [WX ha];exact h4⟩
 ·unfold fb
  rw [WX ha]
  exact h.b k hk
 ·rw [WX ha]
  exact h.e j hj
def NmP (bi:Bi) (f t:Nat) (n:Nm):Prop:=n=nnm bi∨∃j:Nat,f / 64≤j∧j * 64<t∧n=bnm bi (j:Int)
theorem nmp_len {bi:Bi} {f t:Nat} {cs:List Ch} (ht:t≤f+400) (h:∀c ∈ cs,NmP bi f t c.nm):(lastL cs).length≤12:=by
 have h1:((lastL cs).map (·.1)).length≤(nnm bi::(List.range' (f / 64) 8).map fun j:Nat=>bnm bi (j:Int)).length:=by
  refine nodup_sub _ _ (Yp cs) fun x hx=>?_
  obtain ⟨p,hp,rfl⟩:=List.mem_map.1 hx
  have h3:=(UD (lastL cs) (Yp cs) p.1 p.2).2 hp
  obtain ⟨c,_,h4⟩:=(Xk p.1 cs).1 p.2 h3
  obtain ⟨h5,h6⟩:=XX h4
  rcases h c h6 with h7|⟨j,j1,j2,h7⟩
  ·rw [←h5,h7];simp
  ·rw [←h5,h7]
   refine List.mem_cons_of_mem _ (List.mem_map.2 ⟨j,List.mem_range'_1.2 ⟨j1,by omega⟩,rfl⟩)
 simp only [List.length_map,List.length_cons,List.length_range'] at h1
 omega
theorem wfold_mem {es:Al} {bi:Bi} {f:Nat} {s:ByteArray}:∀(l:List Pp) (q:List (Nm×Ch)×List Ch),(∀p ∈ l,p.fr<p.to∧p.to≤64)→∀c ∈ (wfold es bi f s q l).2,c ∈ q.2∨∃p ∈ l,c.nm=bnm bi (p.bl:Int)∧c.val.size=64∧c.abs=false
 | [],_,_,c,hc=>.inl hc
 | p::l,q,hl,c,hc=>by
  rcases wfold_mem l (wstep es bi f s q p) (fun r hr=>hl r (by simp [hr])) c hc with h|⟨r,hr,h⟩
  ·have hst:(wstep es bi f s q p).2=q.2++[⟨bnm bi p.bl,⟨(wnew es q.2 bi f s p).toArray⟩,false⟩]:=rfl
   rw [hst] at h
   rcases List.mem_append.1 h with h|h
   ·exact .inl h
   ·rw [List.mem_singleton.1 h]
    have h1:=hl p (by simp)
    refine .inr ⟨p,by simp,rfl,?_,rfl⟩
    show (List.toArray _).size=64
    rw [List.size_toArray,WB (by omega)]
  ·exact .inr ⟨r,by simp [hr],h⟩
def wP (F:Nat) (t:ByteArray) (a:Nat):ByteArray:=if a=0 then ⟨#[]⟩ else zer F++t.extract 0 a
theorem ext0 (t:ByteArray) (a b:Nat):(t.extract a b).data.toList=(t.data.toList.drop a).take (b - a):=by
 rw [ByteArray.data_extract,Array.toList_extract,List.extract_eq_take_drop]
theorem wP_size {F:Nat} {t:ByteArray} {a:Nat} (h:a≤t.size):(wP F t a).size=if a=0 then 0 else F+a:=by
 unfold wP
 split
 ·rfl
 ·rw [ByteArray.size_append,Yd,ByteArray.size_extract];omega
theorem wP_getD {F:Nat} {t:ByteArray} {a:Nat} (h:a≤t.size) (k:Nat):(wP F t a).data.toList.getD k 0=if F≤k∧k<F+a then t.data.toList.getD (k - F) 0 else 0:=by
 have hs:t.data.toList.length=t.size:=by simp
 unfold wP
 split
 ·rw [if_neg (by omega)];rfl
 ·have hz:(zer F).data.toList=List.replicate F 0:=rfl
  rw [app_data,ext0,hz,Y3,List.length_replicate,List.drop_zero,Nat.sub_zero]
  by_cases h1:k<F
  ·rw [if_pos h1,Xa,if_neg (by omega)]
  ·rw [if_neg h1]
   by_cases h2:k<F+a
   ·rw [if_pos ⟨by omega,h2⟩,Yq _ _ _ _ (by omega)]
   ·rw [if_neg (by omega),WF _ _ _ (by simp;omega)]
structure PtX where
 i:Nat
 a:Nat
 s:Nat
 v:Nat
 es:Al
 rs:List (Nm×Ch)
 cs:List Ch
structure PtI (F:Nat) (t:ByteArray) (pl:Nat) (q:PtX):Prop where
 hi:q.i≤min pl 10+1
 ha:q.a≤t.size
 he:q.i≤min pl 10∨q.a=t.size
 f:FOK q.es q.cs (XF 0) (wP F t q.a)
 c:∀c ∈ q.cs,FitC c∧NmP (XF 0) F (F+t.size) c.nm
 l:q.cs.length≤500 * q.i
 el:q.es.length≤12+12 * q.i
theorem es27_len:es27.length≤12:=by
 have h1:=VY [] (vwr (cs27 4))
 rw [Wm] at h1
 have:=cs27_len
 show (applyE [] (vwr (cs27 4))).length≤12
 simp only [List.length_nil] at h1;omega
theorem PtI.init {F:Nat} {t:ByteArray} {pl s v:Nat}:PtI F t pl ⟨0,0,s,v,es27,[],[]⟩:=
 ⟨Nat.zero_le _,Nat.zero_le _,.inl (Nat.zero_le _),(by show FOK es27 [] (XF 0) (wP F t 0);rw [wP,if_pos rfl];exact fok0 (by omega)),(fun c hc=>by cases hc),Nat.zero_le _,es27_len⟩
section
variable {F:Nat} {t:ByteArray} {pl:Nat} {q:PtX}
theorem PtI.write (h:PtI F t pl q) (ht:t.size≤400) (hF:F+t.size≤4096) {n:Nat} (hn:q.a+n≤t.size) (hi:q.i≤min pl 10) (hl:q.i<min pl 10∨q.a+n=t.size) :
  PtI F t pl ⟨q.i+1,q.a+n,q.s,q.v,q.es,(iwQ q.es q.rs q.cs (XF 0) (F+q.a) (t.extract q.a (q.a+n))).1,(iwQ q.es q.rs q.cs (XF 0) (F+q.a) (t.extract q.a (q.a+n))).2++iwN q.es q.cs (XF 0) (F+q.a) (t.extract q.a (q.a+n))⟩:=by
 have hb:=UQ 0 (by omega)
 have hs:t.data.toList.length=t.size:=by simp
 have hx:(t.extract q.a (q.a+n)).size=n:=by rw [ByteArray.size_extract];omega
 have hlen:=wfold_pts q.es (XF 0) (F+q.a) (t.extract q.a (q.a+n)) q.rs q.cs
 have hmn:min (t.extract q.a (q.a+n)).size (4096 - (F+q.a))=n:=by rw [hx];omega
 have hq:=h.l
 have hel:=h.el
 refine ⟨?_,?_,?_,?_,fun c hc=>?_,?_,?_⟩
 ·show q.i+1≤_;omega
 ·exact hn
 ·show q.i+1≤min pl 10∨q.a+n=t.size
  rcases hl with h1|h1
  ·left;omega
  ·right;exact h1
 ·have h1:=wP_size (F:=F) h.ha
  have h2:=wP_size (F:=F) hn
  refine h.f.write hb (by omega) q.rs ?_ fun k hk=>?_
  ·rw [hmn,h1,h2]
   by_cases h0:n=0
   ·subst h0;rw [if_pos rfl];rfl
   ·rw [if_neg h0,if_neg (by omega)]
    split<;>omega
  ·rw [hmn,wP_getD hn,wP_getD h.ha,ext0,show q.a+n - q.a=n by omega]
   by_cases h3:F+q.a≤k∧k<F+q.a+n
   ·rw [if_pos (by omega),if_pos h3,Yq _ _ _ _ (by omega),WE]
    congr 1;omega
   ·rw [if_neg h3]
    by_cases h4:F≤k∧k<F+q.a
    ·rw [if_pos (by omega),if_pos h4]
    ·rw [if_neg (by omega),if_neg h4]
 ·have hmk:=XD 0
  rcases List.mem_append.1 hc with hc|hc
  ·rw [iwQ,hmn] at hc
   have hpt:∀p ∈ pts (F+q.a) (F+q.a+n),F+q.a≤p.bl * 64+p.fr∧p.fr<p.to∧p.to≤64∧p.bl * 64+p.to≤F+q.a+n:=Xy (F+q.a+n - (F+q.a)) _ _ (Nat.le_refl _)
   rcases wfold_mem _ _ (fun p hp=>⟨(hpt p hp).2.1,(hpt p hp).2.2.1⟩) c hc with hc|⟨p,hp,e1,e2,e3⟩
   ·exact h.c c hc
   ·have h5:=hpt p hp
    refine ⟨⟨by rw [e1];exact YJ hb (by omega),by omega,e3,by rw [e1];show (Zg 0).size≤_;omega,by rw [e1];exact Nat.zero_le _⟩,.inr ⟨p.bl,by omega,by omega,e1⟩⟩
  ·unfold iwN at hc
   split at hc
   ·rw [List.mem_singleton.1 hc]
    exact ⟨Wg (Zx hb) (Nat.le_trans (Zw _) (by omega)) rfl (by show (Zg 0).size≤_;omega) (Nat.zero_le _),.inl rfl⟩
   ·cases hc
 ·show ((iwQ _ _ _ _ _ _).2++_).length≤500 * (q.i+1)
  rw [hx] at hlen;omega
 ·show q.es.length≤12+12 * (q.i+1);omega
theorem PtI.after (h:PtI F t pl q) (ht:t.size≤400) (s v:Nat) (hel:q.es.length≤12 * q.i):PtI F t pl ⟨q.i,q.a,s,v,applyE q.es (vwr q.cs),[],[]⟩:=by
 have hl:=nmp_len (bi:=XF 0) (f:=F) (t:=F+t.size) (by omega) (fun c hc=>(h.c c hc).2)
 refine ⟨h.hi,h.ha,h.he,h.f.after (fun c hc=>(h.c c hc).1.abs),(fun c hc=>by cases hc),Nat.zero_le _,?_⟩
 have h1:=VY q.es (vwr q.cs)
 rw [Wm] at h1
 show (applyE q.es (vwr q.cs)).length≤12+12 * q.i
 omega
end
variable {es:Al}
section
open VQ
section
variable {bs:List Bi} {fs:List Fq} {m:List (ByteArray×Int)} {k:Nat}
theorem op_both (h:R7 es [] bs fs m k) (hk:k≤500) (o:Op7) (r:Nat):((qOp bs o).run es []).1=mDoR bs fs m o∧R7 es ((qOp bs o).run es []).2.2 (mDoB bs m o) (mDoF bs fs o r) (mDoM bs m o) (k+1)∧Gd7 ((qOp bs o).run es []).2.2:=by
 have hl:=Nat.mod_lt o.k.toNat (show 0<6 by decide)
 unfold qOp mDoR mDoB mDoF mDoM
 generalize o.k.toNat % 6=j at *
 rcases (show j=0∨j=1∨j=2∨j=3∨j=4∨j=5 by omega) with rfl|rfl|rfl|rfl|rfl|rfl
 ·simp (decide:=true) only [if_true,if_false,run_bind,run]
  obtain ⟨g1,g2⟩:=read7 h hk o.w o.f o.c
  rw [g1,g2]
  exact ⟨rfl,h.succ,XO⟩
 ·simp (decide:=true) only [if_true,if_false,run_bind,run]
  obtain ⟨g1,g2,g3⟩:=write7 h hk o.w o.f o.t
  rw [g1]
  exact ⟨rfl,g2.succ,g3⟩
 ·simp (decide:=true) only [if_true,if_false,run_bind,run]
  obtain ⟨g1,g2,g3⟩:=resize7 h hk o.w o.c
  rw [g1]
  exact ⟨rfl,g2.succ,g3⟩
 ·simp (decide:=true) only [if_true,if_false,run_bind,run]
  obtain ⟨g1,g2,g3⟩:=set7 h hk o.w o.n
  rw [g1]
  exact ⟨rfl,g2.succ,g3⟩
 ·simp (decide:=true) only [if_true,if_false,run_bind,run]
  obtain ⟨g1,g2⟩:=read7 h hk o.w 0 4096
  rw [g1,g2]
  exact ⟨rfl,h.succ,XO⟩
 ·simp (decide:=true) only [if_true,if_false,run_bind,run]
  obtain ⟨g1,g2,g3⟩:=make7 h hk (show o.w.toNat % 3<3 by omega) o.n r
  rw [g1]
  exact ⟨rfl,g2,g3⟩
theorem vget_afterD (hs:Srt es) {cs:List Ch} (h:Gd7 cs) (n:Nm):vget (applyD es (vwr cs)) [] n=vget es cs n:=by
 unfold vget
 split
 ·rfl
 ·show ((getO n (applyD es (vwr cs))).getD ⟨#[]⟩,(getO n (applyD es (vwr cs))).isSome)=_
  rw [getO_afterD hs]
  cases hc:vcall cs n with
  | none=>rfl
  | some c=>
   dsimp only
   by_cases ha:c.abs=true
   ·rw [if_pos ha,(h.1 c (XX hc).2).1.2.2 ha,ha];rfl
   ·rw [if_neg ha,show c.abs=false by simpa using ha];rfl
theorem Gd7.fit {cs:List Ch} (h:Gd7 cs):(lastL cs).length≤200∧∀c ∈ cs,FitD c:=by
 refine ⟨Nat.le_trans (VC cs) (by have:=h.2;omega),fun c hc=>?_⟩
 obtain ⟨⟨a1,a2,a3⟩,a4,a5⟩:=h.1 c hc
 exact ⟨a1,a2,by omega,by omega⟩
theorem Gd7.len {cs:List Ch} (h:Gd7 cs):(applyD es (vwr cs)).length≤es.length+70:=by
 have h1:=applyD_len es (vwr cs)
 rw [Wm] at h1
 have:=VC cs
 have:=h.2
 omega
theorem R7.doh (h:R7 es [] bs fs m k) (hk:k≤500) (h0:0<bs.length) {q:Mq} (hq:q.OK bs.length fs.length):DoH q bs fs m:=by
 refine ⟨by have:=h.len;omega,h.lf,hq,h0,fun x hx=>?_,h.bsz,fun j hj=>⟨(h.ct j hj).1.1,by have:=(h.ct j hj).1.2;omega⟩⟩
 obtain ⟨i,hi,rfl⟩:=List.mem_iff_getElem.1 hx
 have hb:i<bs.length:=by rw [←h.lf];exact hi
 have hf:=h.fl i bs[i] fs[i] (List.getElem?_eq_getElem hb) (List.getElem?_eq_getElem hi)
 by_cases hkd:fs[i].nd.kd=1
 ·exact (hf.f hkd).2.le
 ·rw [hf.z hkd];exact Nat.zero_le _
theorem mDoB_len (o:Op7):bs.length≤(mDoB bs m o).length:=by
 unfold mDoB
 split
 ·unfold mMake
  split
  ·exact Nat.le_refl _
  ·split
   ·exact Nat.le_refl _
   ·simp
 ·exact Nat.le_refl _
end
theorem r7_nil:R7 [] [] [] [] [] 0:=by
 refine ⟨Nat.le_refl _,rfl,List.nodup_nil,(fun b hb=>by cases hb),fun j hj=>⟨⟨Int.le_refl 0,Int.le_refl 0⟩,?_⟩,(fun i b x h=>by cases h),fun b _=>⟨by rw [Xn],fun n=>Xn _⟩,fun n=>by rw [Xn];exact Nat.zero_le _⟩
 rw [madeE,if_pos (YO j),Xn]
 rfl
def F0 (i:Nat) (fs:List Fq):Prop:=∃rs:List Nat,rs.length=i∧fs=(List.range i).map fun j=>⟨nd27 j,⟨#[]⟩,rs.getD j 0,[]⟩
theorem f0_nil:F0 0 []:=⟨[],rfl,rfl⟩
theorem f0_succ {i:Nat} {fs:List Fq} (h:F0 i fs) (r:Nat):F0 (i+1) (fs++[⟨nd27 i,⟨#[]⟩,r,[]⟩]):=by
 obtain ⟨rs,h1,h2⟩:=h
 refine ⟨rs++[r],by simp [h1],?_⟩
 rw [List.range_succ,List.map_append,h2]
 congr 1
 ·refine List.map_congr_left fun j hj=>?_
  have hj:=List.mem_range.1 hj
  rw [Y3,if_pos (by omega)]
 ·show [(⟨nd27 i,⟨#[]⟩,r,[]⟩:Fq)]=[⟨nd27 i,⟨#[]⟩,(rs++[r]).getD i 0,[]⟩]
  rw [Y3,if_neg (by omega),h1,Nat.sub_self]
  rfl
theorem f0_len {i:Nat} {fs:List Fq} (h:F0 i fs):fs.length=i:=by
 obtain ⟨rs,h1,h2⟩:=h
 rw [h2];simp
theorem r7_start:∀(i:Nat),i≤4→∀fs,F0 i fs→R7 [] (cs27 i) (YI i) fs (ms27 i) i
 | 0,_,fs,h=>by
  have:=f0_len h
  rw [List.length_eq_zero_iff.1 this]
  exact r7_nil
 | i+1,hi,fs,h=>by
  obtain ⟨rs,h1,h2⟩:=h
  have hF:F0 i ((List.range i).map fun j=>⟨nd27 j,⟨#[]⟩,rs.getD j 0,[]⟩):=⟨rs.take i,by rw [List.length_take];omega,List.map_congr_left fun j hj=>by
   have hj:=List.mem_range.1 hj
   rw [Yq _ _ _ _ hj]⟩
  have ih:=r7_start i (by omega) _ hF
  obtain ⟨d0,d1,d2⟩:=nd27_ok (i:=i) (by omega)
  have hM:=ih.make (by omega) (j:=i % 2) (by omega) d1 d2 (rs.getD i 0)
  rw [(ns27_ok (i:=i) (by omega)).2.2] at hM
  have e1:fs=((List.range i).map fun j=>⟨nd27 j,⟨#[]⟩,rs.getD j 0,[]⟩)++[(⟨nd27 i,⟨#[]⟩,rs.getD i 0,[]⟩:Fq)]:=by
   rw [h2,List.range_succ,List.map_append];rfl
  have e3:YI i++[⟨Zg (i % 2),((i / 2:Nat):Int)⟩]=YI (i+1):=by simp only [YI,List.range_succ,List.map_append,List.map_cons,List.map_nil];rfl
  rw [←e1,e3] at hM
  exact hM
theorem r7_begin {fs:List Fq} (h:F0 4 fs):R7 es27 [] (YI 4) fs (ms27 4) 4:=
 (r7_start 4 (Nat.le_refl _) fs h).cg fun n=>WX (fun c hc=>(cs27_fit 4 (Nat.le_refl _) c hc).abs) n
theorem srt_es27:Srt es27:=by
 unfold es27
 have:∀(l:List Ch) (es:Al),Srt es→Srt (applyE es l):=by
  intro l
  induction l with
  | nil=>intro es h;exact h
  | cons c l ih=>intro es h;exact ih _ (srt_ins _ _ _ h)
 exact this _ _ List.Pairwise.nil
end
section
open VQ
abbrev MoR (bm:Nat) (o1:Option Addr×Nat) (o2:Option Addr×Nat) (rm:Nat) (bs:List Bi) (fs:List Fq) (m:List (ByteArray×Int)):List HP:=
 [Pt bm (.cells #[.slice o1.1 bs.length o1.2,.slice o2.1 fs.length o2.2,.map (some rm)] 62),Row 68 2 o1.1 bs.length o1.2 (bs.flatMap bcf),Row 73 9 o2.1 fs.length o2.2 (fs.flatMap flq),CM rm m fs]
def Mo1 (bm:Nat) (bs:List Bi) (fs:List Fq) (m:List (ByteArray×Int)):HP:=fun h=>∃q:(Option Addr×Nat)×(Option Addr×Nat)×Nat,Sep (MoR bm q.1 q.2.1 q.2.2 bs fs m) h
set_option maxHeartbeats 2000000 in
theorem make1_ok (bm:Nat) (bs:List Bi) (fs:List Fq) (m:List (ByteArray×Int)) (who:ByteArray) (nd:Ino) (v:Int) (h1:ichk nd=0) (h2:nd.sz=0) (hv:(mget who m).getD 0=v) (hv0:0≤v) (hv1:v≤1000000) (_hl:bs.length≤1000) (_hlf:fs.length≤1000) :
  Enters 97∧Spec prog 97 #[.pointer (some ⟨bm,0,none⟩),.string who,nd.v] [] [Mo1 bm bs fs m]
   ⟨Nat,fun _=>.tuple #[Bi.v ⟨who,v⟩,.int .i64 0],fun _=>True,fun _=>[],fun r=>[Mo1 bm (bs++[⟨who,v⟩]) (fs++[⟨nd,⟨#[]⟩,r,[]⟩]) (mset who (v+1) m)]⟩:=by
 have n1:=Xp nd
 rw [h1] at n1
 obtain ⟨a1,a2,a3,a4,a5,a6,a7⟩:=nd
 dsimp only at h2
 subst h2
 simp only [Ino.v] at n1 ⊢
 have hg:∀o,mget who m=o→(o.map ziv).getD (.int .i64 0) = .int .i64 v:=fun o ho=>by
  rw [ho] at hv
  cases o with
  | none=>rw [←hv];rfl
  | some x=>rw [←hv];rfl
 have hg':=hg _ rfl
 have w1:IntKind.i64.wrap (v+1)=v+1:=wrapi (by omega) (by omega)
 refine ZM [_,_,_] func97 ntmps97 fun G w hp=>?_
 refine Z6 (X:=(Option Addr×Nat)×(Option Addr×Nat)×Nat) (Lx:=fun q=>MoR bm q.1 q.2.1 q.2.2 bs fs m) (p:=fun _=>True) (r:=Mo1 bm bs fs m) .here (fun h hh=>by obtain ⟨q,hq⟩:=hh;exact ⟨q,trivial,hq⟩) (fun q _=>?_)
 obtain ⟨⟨ob,cb⟩,⟨of,cf⟩,rm⟩:=q
 dsimp only
 refine Z6 (X:=Unit) (Lx:=fun _=>[Mp Yl ziv rm m,fun h=>Sep (fs.map BlF) h]) (p:=fun _=>True) (r:=CM rm m fs) (by repeat (first|exact Sel.here|apply Sel.there)) (fun h hh=>⟨(),trivial,cm_two.1 hh⟩) (fun _ _=>?_)
 repeat' (first|refine ZE ?_|refine ZD ?_|refine ZF ?_|refine ZS ?_|refine ZV ?_|refine ZR (fun b=>?_)|refine ZB ?_|refine ZT ?_|refine Zf ?_|refine Zm (fun b=>?_)|refine ZU ?_|refine ZC (n1) (fun _ _=>?_)|refine l_mgetQ key_ln who _ rfl ?_|rw [hg']|rw [w1]|refine l_mset (V:=ziv) key_ln who (v+1) ?_|refine r_app1 (fun o' cap'=>?_)|refine r_mkm (K:=ziv) (kt:=3) (et:=4) key_zi blv (fun r=>?_)|refine ZA 8 [Row 68 _ _ _ _ _] [(0,0),(1,0),(2,0),(3,0),(4,0),(5,0),(6,1),(7,4),(8,0),(9,0)] [10] ?_|refine ZA 9 [Row 73 _ _ _ _ _] [(0,0),(1,0),(2,0),(3,0),(4,0),(5,0),(6,4),(7,0),(8,1),(9,4),(10,0),(11,0)] [12] ?_|fail)
 rename_i o1 c1
 obtain ⟨nb,hnb⟩:∃nb,(⟨who,v⟩:Bi)=nb:=⟨_,rfl⟩
 obtain ⟨nf,hnf⟩:∃nf,(⟨⟨a1,a2,a3,a4,0,a6,a7⟩,⟨#[]⟩,r,[]⟩:Fq)=nf:=⟨_,rfl⟩
 have l1:(bs++[nb]).length=bs.length+1:=by simp
 have l2:(fs++[nf]).length=fs.length+1:=by simp
 refine k_say (P:=Row 68 2 o1 (bs.length+1) c1 (bs.flatMap bcf++bcf (⟨who,v⟩:Bi))) (P':=Row 68 2 o1 (bs++[nb]).length c1 ((bs++[nb]).flatMap bcf)) (by rw [l1,hnb,List.flatMap_append];simp) ?_
 refine k_say (P:=Row 73 9 o' (fs.length+1) cap' (fs.flatMap flq++flq (⟨⟨a1,a2,a3,a4,0,a6,a7⟩,⟨#[]⟩,r,[]⟩:Fq))) (P':=Row 73 9 o' (fs++[nf]).length cap' ((fs++[nf]).flatMap flq)) (by rw [l2,hnf,List.flatMap_append];simp) ?_
 refine Zs (r:=CM rm (mset who (v+1) m) (fs++[nf])) (Lx:=[Mp Yl ziv rm (mset who (v+1) m),Mp ziv blv r [],fun h=>Sep (fs.map BlF) h]) (fun h hh=>(cm_mid (pre:=fs) (post:=[]) (e:=nf)).2 (by rw [←hnf,List.append_nil];exact hh)) ?_
 refine k_say (P:=Pt bm (.cells #[.slice o1 (bs.length+1) c1,.slice o' (fs.length+1) cap',.map (some rm)] 62)) (P':=Pt bm (.cells #[.slice o1 (bs++[nb]).length c1,.slice o' (fs++[nf]).length cap',.map (some rm)] 62)) (by rw [l1,l2]) ?_
 refine Zs (r:=Mo1 bm (bs++[nb]) (fs++[nf]) (mset who (v+1) m)) (Lx:=MoR bm (o1,c1) (o',cap') rm (bs++[nb]) (fs++[nf]) (mset who (v+1) m)) (fun h hh=>⟨((o1,c1),(o',cap'),rm),hh⟩) ?_
 subst hnb
 subst hnf
 exact ZK r rfl trivial
theorem mo1_new {bm rm:Nat} (h:H) (hh:Sep [Pt bm (.cells #[.slice none 0 0,.slice none 0 0,.map (some rm)] 62),Mp Yl ziv rm []] h):Mo1 bm [] [] [] h:=by
 obtain ⟨h1,h2,d,s1,s2,hx,hr⟩:=hh
 refine ⟨((none,0),(none,0),rm),h1,h2,d,s1,s2,hx,emp,h2,(fun _=>.inl rfl),(fun _ _ e=>by cases e),Sub.refl _,Yj _ _ _,emp,h2,(fun _=>.inl rfl),(fun _ _ e=>by cases e),Sub.refl _,Yj _ _ _,?_⟩
 obtain ⟨h3,h4,d2,t1,t2,hy,_⟩:=hr
 exact ⟨h3,h4,d2,t1,t2,cm_two.2 ⟨h3,emp,(fun _=>.inr rfl),Sub.refl _,(fun _ _ e=>by cases e),hy,emp,emp,(fun _=>.inl rfl),(fun _ _ e=>by cases e),(fun _ _ e=>by cases e),trivial,trivial⟩,trivial⟩
def St7:Post:=⟨Nat×Nat×Mq×List Fq,fun x=>.tuple #[.pointer (some ⟨x.1,0,none⟩),.pointer (some ⟨x.2.1,0,none⟩),.bool true],fun x=>F0 4 x.2.2.2∧x.2.2.1.OK (YI 4).length x.2.2.2.length,fun x=>[St (some ⟨x.1,0,none⟩) es27],fun x=>MoL x.2.1 x.2.2.1 (YI 4) x.2.2.2 (ms27 4)⟩
set_option maxHeartbeats 4000000 in
theorem start7_ok:Enters 47∧Spec prog 47 #[] [Usg] [] St7:=by
 refine ZM [] func47 ntmps47 fun G w hp=>?_
 repeat' (first|refine ZE ?_|refine ZD ?_|refine ZF ?_|refine ZR (fun b=>?_)|refine ZX (fun b=>?_)|refine ZC (X6) (fun _ _=>?_)|refine ZC (XM _) (fun _ _=>?_)|refine l_mkm (K:=Yl) (kt:=23) (et:=3) key_ln ziv (fun rm=>?_)|fail)
 rename_i bm s0 _ v0 _
 refine Zs (r:=Mo1 bm [] [] []) (Lx:=[Pt bm (.cells #[.slice none 0 0,.slice none 0 0,.map (some rm)] 62),Mp Yl ziv rm []]) (fun h hh=>mo1_new h hh) ?_
 refine Z8 (X:={q:Nat×List (Nm×Ch)×List Fq // q.1≤4∧F0 q.1 q.2.2}) (fun q=>[(3,.pointer (some ⟨bm,0,none⟩)),(4,.pointer (some ⟨v0,0,none⟩)),(5,.slice (some ⟨b,0,none⟩) 4 4),(6,.int .i64 (q.1.1:Int))]) (fun _=>[St (some ⟨s0,0,none⟩) [],Usg]) (fun q=>[Vw v0 (some ⟨s0,0,none⟩) q.1.2.1 (cs27 q.1.1),Mo1 bm (YI q.1.1) q.1.2.2 (ms27 q.1.1),Ax 64 inf b nds27 ([],(0,0))]) (fun q=>4 - q.1.1) ⟨(0,[],[]),by decide,f0_nil⟩ ⟨rfl,rfl,rfl,rfl,trivial⟩ ?_ (hr:=Sels.cons (by repeat (first|exact Sel.here|apply Sel.there)) (Sels.cons (by repeat (first|exact Sel.here|apply Sel.there)) (Sels.cons (by repeat (first|exact Sel.here|apply Sel.there)) Sels.nil)))
 rintro ⟨⟨i,rs,fs⟩,hi,hF⟩
 dsimp only at hi hF ⊢
 have hfl:=f0_len hF
 by_cases hlt:i<4
 ·obtain ⟨n1,n2,n3⟩:=ns27_ok hlt
  obtain ⟨d0,d1,d2⟩:=nd27_ok hlt
  have hB:=bi27 i hi
  obtain ⟨g1,g2⟩:=hB.made (by omega) n1
  obtain ⟨e1,e2⟩:=BI.step d1 d2 hB (by omega) n1
  have hm:=XD (i % 2)
  have m1:=make_ok v0 (some ⟨s0,0,none⟩) [] rs (cs27 i) (Zg (i % 2)) (nd27 i) (by omega) g1 (by have:=hB.cl;omega)
  rw [e1,e2] at m1
  have m2:=make1_ok bm (YI i) fs (ms27 i) (Zg (i % 2)) (nd27 i) ((i / 2:Nat):Int) d1 d2 n3 (by omega) (by omega) (by simp [YI];omega) (by omega)
  have hFs:=f0_succ hF
  have e3:YI i++[⟨Zg (i % 2),((i / 2:Nat):Int)⟩]=YI (i+1):=by simp only [YI,List.range_succ,List.map_append,List.map_cons,List.map_nil];rfl
  rw [e3] at m2
  have w5:(i:Int).tmod 2=((i % 2:Nat):Int):=by rw [Int.tmod_eq_emod_of_nonneg (Int.natCast_nonneg _)];exact (Int.natCast_emod _ 2).symm
  have w6:IntKind.i64.wrap (((i % 2:Nat):Int))=((i % 2:Nat):Int):=wrapi (by omega) (by omega)
  have hk:=mk2_get (i:=i)
  have hk3:i % 2<3:=by omega
  generalize mkR [] rs (cs27 i) (Zg (i % 2)) (nd27 i)=rs2 at *
  have e4:cs27 (i+1)=cs27 i++[⟨cnm (Zg (i % 2)),cvs ⟨((i / 2:Nat):Int)+1,0,0⟩,false⟩]++[⟨nnm ⟨Zg (i % 2),((i / 2:Nat):Int)⟩,iencS (nd27 i),false⟩]:=rfl
  rw [←e4] at m1
  have e5:ms27 (i+1)=mset (Zg (i % 2)) (((i / 2:Nat):Int)+1) (ms27 i):=rfl
  rw [←e5] at m2
  generalize nd27 i=nd at *
  generalize hn27:nds27=l27 at *
  obtain ⟨a1,a2,a3,a4,a5,a6,a7⟩:=nd
  simp only [Ino.v,Bi.v] at m1 m2
  repeat' (first|refine l_sneq (b:=true) ?_ (he:=eqBi ⟨Zg (i % 2),((i / 2:Nat):Int)⟩)|refine ZE ?_|refine ZD ?_|refine ZL ?_|refine ZF ?_|refine ZS ?_|refine ZB ?_|refine ZT ?_|refine Zj (fun b=>?_)|refine Zk ?_|refine ZU ?_|refine ZN (Xz) (fun _ _=>?_)|refine ZN (m1) (fun _ _=>?_)|refine ZN (m2) (fun _ _=>?_)|rw [w5]|refine Y1 (m:=3) (i % 2) hk3 ?_|refine Y1 (m:=4) i hlt ?_|refine Ze 1 (i % 2) 0 hk ?_|refine Zc 7 i 0 d0 ?_|refine ZA 7 [Vw _ _ _ _] [(0,0),(2,0),(3,0),(6,0),(7,0),(8,0),(9,0),(1,4),(4,0),(5,3),(10,4),(11,0),(12,0),(13,0),(14,1),(15,4),(16,0)] [] ?_|refine ZA 8 [Mo1 _ _ _ _] [(0,0),(2,0),(3,0),(6,0),(7,0),(8,0),(9,0),(1,4),(4,0),(5,3),(10,4),(11,0),(12,0),(13,0),(14,1),(15,4),(16,0)] [] ?_|(refine ZG (fun hc=>?_) (fun hc=>?_)<;>(try simp at hc)<;>(try omega))|fail)
  rw [wrapi (z:=(i:Int)+1) (by omega) (by omega)]
  subst hn27
  rename_i r _
  exact Zb ⟨(i+1,rs2,_),by dsimp only;omega,hFs r⟩ (by show 4 - (i+1)<4 - i;omega) ⟨rfl,rfl,rfl,rfl,trivial⟩
 ·obtain rfl:i=4:=by omega
  have n4:=vwAfter_ok v0 s0 [] rs (cs27 4) (Nat.le_trans cs27_len (by decide)) (cs27_fit 4 (by omega)) (by simp)
  rw [show applyE [] (vwr (cs27 4))=es27 from rfl] at n4
  have hb4:(YI 4).length=4:=rfl
  generalize hcs:cs27 4=c4 at *
  generalize hms:ms27 4=m4 at *
  refine Z6 (X:=(Option Addr×Nat)×(Option Addr×Nat)×Nat) (Lx:=fun q=>MoR bm q.1 q.2.1 q.2.2 (YI 4) fs m4) (p:=fun _=>True) (r:=Mo1 bm (YI 4) fs m4) (.there .here) (fun h hh=>by obtain ⟨q,hq⟩:=hh;exact ⟨q,trivial,hq⟩) (fun q _=>?_)
  obtain ⟨⟨ob,cb⟩,⟨of,cf⟩,rm'⟩:=q
  dsimp only
  refine Z6 (X:=Nat×(List Value×(Nat×Nat))) (Lx:=fun x=>[Ax 68 bcf x.1 (YI 4) x.2]) (p:=fun x=>ob=some ⟨x.1,0,none⟩∧(YI 4).length * 2+x.2.1.length=cb * 2∧AxOK ((YI 4).length * 2) x.2) (r:=Row 68 2 ob (YI 4).length cb ((YI 4).flatMap bcf)) (by repeat (first|exact Sel.here|apply Sel.there)) (fun h hh=>row_ax (f:=bcf) (fun _=>rfl) (by omega) hh) (fun x hx=>?_)
  obtain ⟨rfl,x2,x3⟩:=hx
  refine Z6 (X:=Nat×(List Value×(Nat×Nat))) (Lx:=fun y=>[Ax 73 flq y.1 fs y.2]) (p:=fun y=>of=some ⟨y.1,0,none⟩∧fs.length * 9+y.2.1.length=cf * 9∧AxOK (fs.length * 9) y.2) (r:=Row 73 9 of fs.length cf (fs.flatMap flq)) (by repeat (first|exact Sel.here|apply Sel.there)) (fun h hh=>row_ax (f:=flq) (fun _=>rfl) (by omega) hh) (fun y hy=>?_)
  obtain ⟨rfl,y2,y3⟩:=hy
  repeat' (first|refine ZE ?_|refine ZD ?_|refine ZL ?_|refine ZF ?_|refine ZB ?_|refine ZW ?_|refine ZC (n4) (fun _ _=>?_)|fail)
  rename_i s1 _
  subst hms
  exact ZK (post:=St7) (s1,bm,⟨x.1,cb,x.2,y.1,cf,y.2,rm'⟩,fs) rfl ⟨hF,x2,x3,y2,y3⟩
end
section
open VQ
def cut7 (o:Op7):Op7:={o with t:=cutS o.t 500,n:={o.n with tg:=cutS o.n.tg 300}}
theorem cut7_ok (o:Op7):Enters 19∧Spec prog 19 #[o.v] [] [] (RetV (cut7 o).v):=by
 refine ZM [_] func19 ntmps19 fun G w hp=>?_
 repeat' (first|refine ZE ?_|refine ZD ?_|refine ZF ?_|refine ZS ?_|refine ZV ?_|refine ZR (fun b=>?_)|refine l_cutS 500 ?_|refine l_cutS 300 ?_|fail)
 exact ZK () rfl trivial
theorem eqRz7 (a:Rz7):eqC eqS 20 79 a.v a.v=some true:=by
 obtain ⟨a1,a2,⟨a3,a4⟩,a5⟩:=a
 show some ((a1.toList == a1.toList) && ((a2 == a2) && (((a3.toList == a3.toList) && ((a4 == a4) && true)) && ((a5 == a5) && true))))=_
 simp
structure Af7 where
 s:Nat
 q:Mq
 es:Al
 bs:List Bi
 fs:List Fq
 m:List (ByteArray×Int)
structure Af7.OK (x:Af7) (k:Nat):Prop where
 r:R7 x.es [] x.bs x.fs x.m (4+k)
 srt:Srt x.es
 len:x.es.length≤12+70 * k
 q:x.q.OK x.bs.length x.fs.length
 b0:0<x.bs.length
def AfP:Post:=⟨Nat×Af7,fun x=>.tuple #[.pointer (some ⟨x.2.s,0,none⟩),.pointer (some ⟨x.1,0,none⟩),.bool true],fun x=>∃k,k≤12∧x.2.OK k,fun x=>[St (some ⟨x.2.s,0,none⟩) x.2.es],fun x=>MoL x.1 x.2.q x.2.bs x.2.fs x.2.m⟩
abbrev OpS (o:Option Addr) (cap:Nat) (l:List Op7):Pf:=Sl 76 op7f o cap l
theorem Af7.OK.next {x:Af7} {k:Nat} (h:x.OK k) (hk:k≤12) (o:Op7):((qOp x.bs o).run x.es []).1=mDoR x.bs x.fs x.m o∧DoH x.q x.bs x.fs x.m∧Gd7 ((qOp x.bs o).run x.es []).2.2∧
  ∀(s:Nat) (y:Mq×Nat),y.1.OK (mDoB x.bs x.m o).length (mDoF x.bs x.fs o y.2).length→Af7.OK ⟨s,y.1,applyD x.es (vwr ((qOp x.bs o).run x.es []).2.2),mDoB x.bs x.m o,mDoF x.bs x.fs o y.2,mDoM x.bs x.m o⟩ (k+1):=by
 have hb:=fun r=>op_both h.r (by omega) o r
 obtain ⟨g1,_,g3⟩:=hb 0
 refine ⟨g1,h.r.doh (by omega) h.b0 h.q,g3,fun s y hy=>⟨?_,srt_apply _ _ h.srt,?_,hy,Nat.lt_of_lt_of_le h.b0 (mDoB_len o)⟩⟩
 ·exact (hb y.2).2.1.cg fun n=>vget_afterD h.srt g3 n
 ·have:=g3.len (es:=x.es)
  have:=h.len
  dsimp only
  omega
theorem Af7.OK.sml {x:Af7} {k:Nat} (h:x.OK k):(∀n,(vget x.es [] n).1.size≤65536)∧∀b ∈ x.bs,b.mkr.size≤3:=⟨h.r.sz,h.r.bsz⟩
set_option maxHeartbeats 4000000 in
theorem after7_ok (o:Option Addr) (cap:Nat) (l:List Op7):Enters 14∧Spec prog 14 #[.slice o l.length cap] [OpS o cap l,Usg] [] AfP:=by
 have n0:=start7_ok
 unfold St7 at n0
 refine ZM [_] func14 ntmps14 fun G w hp=>?_
 repeat' (first|refine ZE ?_|refine ZD ?_|refine ZF ?_|refine ZC (n0) (fun _ _=>?_)|fail)
 rename_i x hx
 obtain ⟨s0,bm,q0,fs0⟩:=x
 obtain ⟨hF,hq0⟩:=hx
 dsimp only at hF hq0 ⊢
 refine Z8 (X:={x:Nat×Af7 // x.1≤12∧x.1≤l.length∧x.2.OK x.1}) (fun x=>[(0,.slice o l.length cap),(2,.pointer (some ⟨x.1.2.s,0,none⟩)),(3,.pointer (some ⟨bm,0,none⟩)),(4,.bool true),(5,.int .i64 (x.1.1:Int))]) (fun x=>[St (some ⟨x.1.2.s,0,none⟩) x.1.2.es,OpS o cap l,Usg]) (fun x=>MoL bm x.1.2.q x.1.2.bs x.1.2.fs x.1.2.m) (fun x=>l.length - x.1.1)
  ⟨(0,⟨s0,q0,es27,YI 4,fs0,ms27 4⟩),Nat.zero_le _,Nat.zero_le _,r7_begin hF,srt_es27,es27_len,hq0,by show 0<(YI 4).length;decide⟩ ⟨rfl,rfl,rfl,rfl,rfl,trivial⟩ ?_
 rintro ⟨⟨i,x⟩,hi,hil,hx⟩
 dsimp only at hi hil hx ⊢
 by_cases hlt:i<l.length∧i<12
 ·obtain ⟨c,hgt⟩:∃c,l[i]? = some c:=⟨_,List.getElem?_eq_getElem hlt.1⟩
  have hl1:=hlt.1
  have hl2:=hlt.2
  have m0:=cut7_ok c
  have hct:(cut7 c).t.size≤500:=cutS_size _ _
  generalize cut7 c=o2 at *
  obtain ⟨g1,g2,g3,g4⟩:=hx.next hi o2
  obtain ⟨z1,z2⟩:=hx.sml
  have hlen:=hx.len
  obtain ⟨s,q,es,bs,fs,m⟩:=x
  dsimp only at *
  have n2:=fun vb=>perf27_ok vb (some ⟨s,0,none⟩) es q bs o2 ⟨hct,z2⟩ z1
  have n3:=do27_ok bm q bs fs m o2 hct g2
  have n4:=fun vb rs=>vwAfterD_ok vb s es rs ((qOp bs o2).run es []).2.2 g3.fit.1 g3.fit.2 (by omega)
  rw [g1] at n2
  have he:=eqRz7 (mDoR bs fs m o2)
  generalize (qOp bs o2).run es []=G at *
  obtain ⟨G1,G2,G3⟩:=G
  dsimp only at *
  generalize mDoR bs fs m o2=RR at *
  have wi:IntKind.i64.wrap ((i:Int)+1)=((i+1:Nat):Int):=by rw [wrapi (by omega) (by omega)];omega
  obtain ⟨r1,r2,⟨r3,r4⟩,r5⟩:=RR
  obtain ⟨c1,c2,c3,c4,c5,⟨d1,d2,d3,d4,d5,d6,d7⟩⟩:=c
  obtain ⟨e1,e2,e3,e4,e5,⟨f1,f2,f3,f4,f5,f6,f7⟩⟩:=o2
  simp only [Op7.v,Rz7.v] at n2 n3 m0 he
  repeat' (first|refine ZE ?_|refine ZD ?_|refine ZL ?_|refine ZF ?_|refine ZS ?_|refine ZH ?_|refine ZT ?_|refine Zd ?_|refine Zj (fun b=>?_)|refine Zk ?_|refine ZU ?_|refine ZC (XM _) (fun _ _=>?_)|refine r_callP (m0) (fun _ _=>?_)|refine ZN (n2 _) (fun _ _=>?_)|refine ZN (n3) (fun _ _=>?_)|refine ZC (n4 _ _) (fun _ _=>?_)|rw [wi]|refine r_ixe (es:=l) (f:=op7f) i _ hgt (fun b off=>?_)|refine r_ldC ?_|refine l_seq (b:=true) ?_ (he:=he)|(refine ZJ (fun hc=>?_) (fun hc=>?_)<;>(try simp at hc)<;>(try omega))|refine ZA 6 [Vw _ _ _ _,MdP _ _ _ _,BiX _ _,FlX _ _,CM _ _ _] [(0,0),(1,0),(2,0),(3,0),(5,0),(6,0),(7,0),(8,0),(11,0),(12,0),(13,0),(14,0),(15,0),(4,3),(9,5),(10,4),(16,5),(17,4),(18,1),(19,1),(20,4),(21,4)] [] ?_|fail)
  rename_i y hy _ s' _
  exact Zb ⟨(i+1,⟨s',y.1,_,_,_,_⟩),by dsimp only;omega,by dsimp only;omega,g4 s' y hy⟩ (by show l.length - (i+1)<l.length - i;omega) ⟨rfl,rfl,rfl,rfl,rfl,trivial⟩
 ·repeat' (first|refine ZE ?_|refine ZD ?_|refine ZL ?_|refine ZF ?_|refine ZB ?_|refine ZW ?_|(refine ZJ (fun hc=>?_) (fun hc=>?_)<;>(try simp at hc)<;>(try omega))|fail)
  all_goals exact ZK (post:=AfP) (bm,x) rfl ⟨i,hi,hx⟩
end
section
open VQ
theorem rn_len (cs:List Ch) (n:Nm):(rn cs n).length≤1:=by
 unfold rn
 split
 ·exact Nat.zero_le _
 ·cases vcall cs n with
  | some c=>exact Nat.zero_le _
  | none=>exact Nat.le_refl _
theorem rsq_len (es:Al):∀(N:List Nm) (rs:List (Nm×Ch)),(rsq es N rs).length≤N.length+rs.length
 | [],rs=>by simp [rsq]
 | n::N,rs=>by
  have h1:=rsq_len es N (mset n ⟨n,(getO n es).getD ⟨#[]⟩,!(getO n es).isSome⟩ rs)
  have h2:=mset_len n (⟨n,(getO n es).getD ⟨#[]⟩,!(getO n es).isSome⟩:Ch) rs
  rw [rsq,List.length_cons]
  omega
def NmB (b:Bi) (k:Nat) (N:List Nm):Prop:=(∀n ∈ N,OfB b n)∧N.length≤k
section
variable {b:Bi}
theorem YE (k:Nat):NmB b k []:=⟨(fun n h=>by cases h),Nat.zero_le _⟩
theorem NmB.app {k j:Nat} {N M:List Nm} (h:NmB b k N) (g:NmB b j M):NmB b (k+j) (N++M):=⟨fun n hn=>(List.mem_append.1 hn).elim (h.1 n) (g.1 n),by rw [List.length_append];exact Nat.add_le_add h.2 g.2⟩
theorem NmB.le {k j:Nat} {N:List Nm} (h:NmB b k N) (hk:k≤j):NmB b j N:=⟨h.1,Nat.le_trans h.2 hk⟩
theorem nmB_rn (cs:List Ch) {n:Nm} (h:OfB b n):NmB b 1 (rn cs n):=⟨fun m hm=>by rw [(rn_chk hm).1];exact h,rn_len cs n⟩
theorem Xd (cs:List Ch):NmB b 1 (iN cs b):=by
 unfold iN
 split
 ·exact YE _
 ·exact nmB_rn cs (.inl rfl)
theorem nmB_rd (cs:List Ch):∀l:List Pp,NmB b l.length (rdN cs b l)
 | []=>YE _
 | p::l=>by
  have h:=(nmB_rn (b:=b) cs (n:=bnm b p.bl) (.inr ⟨_,rfl⟩)).app (nmB_rd cs l)
  exact h.le (by rw [List.length_cons];omega)
theorem nmB_wr (f:Nat) (s:ByteArray):∀(l:List Pp) (cs:List Ch),NmB b l.length ((qWrL b f s l).run es cs).2.1
 | [],cs=>YE _
 | p::l,cs=>by
  rw [qWrL]
  split
  ·simp only [run]
   exact ((nmB_rn (b:=b) cs (n:=bnm b p.bl) (.inr ⟨_,rfl⟩)).app (nmB_wr f s l _)).le (by rw [List.length_cons];omega)
  ·simp only [run]
   exact (nmB_wr f s l _).le (by rw [List.length_cons];omega)
theorem pts_l64 {a t:Nat} (h:t≤4096):(pts a t).length≤64:=by
 have:=pts_len7 (t - a) a t (Nat.le_refl _)
 omega
theorem nmB_read (f c:Int):NmB b 66 ((qRead b f c).run es []).2.1:=by
 unfold qRead
 rw [run_bind,Z7]
 dsimp only
 by_cases h0:(ifile es [] b).2≠0
 ·rw [if_pos h0]
  exact ((Xd []).app (YE 0)).le (by omega)
 ·rw [if_neg h0]
  obtain ⟨g1,g2,_,_⟩:=W5 (by omega:(ifile es [] b).2=0)
  obtain ⟨-,g5,-⟩:=Yi g2
  unfold ifit at g5
  split
  ·exact ((Xd []).app (YE 0)).le (by omega)
  ·rw [run_bind,WN]
   simp only [run,List.append_nil]
   refine ((Xd []).app (nmB_rd [] _)).le ?_
   have:=pts_l64 (a:=min f.toNat (ifile es [] b).1.sz.toNat) (t:=min f.toNat (ifile es [] b).1.sz.toNat+min c.toNat ((ifile es [] b).1.sz.toNat - min f.toNat (ifile es [] b).1.sz.toNat)) (by omega)
   omega
theorem nmB_write (f:Int) (s:ByteArray):NmB b 66 ((qWrite b f s).run es []).2.1:=by
 unfold qWrite
 rw [run_bind,Z7]
 dsimp only
 split
 ·exact ((Xd []).app (YE 0)).le (by omega)
 ·split
  ·exact ((Xd []).app (YE 0)).le (by omega)
  ·split
   ·exact ((Xd []).app (YE 0)).le (by omega)
   ·rename_i h1 _
    rw [run_bind]
    have h:=nmB_wr (es:=es) (b:=b) f.toNat s (pts f.toNat (f.toNat+min s.size (4096 - f.toNat))) []
    have hp:=pts_l64 (a:=f.toNat) (t:=f.toNat+min s.size (4096 - f.toNat)) (by omega)
    refine ((Xd []).app (h.app (j:=1) ?_)).le (by omega)
    split
    ·exact YE _
    ·exact YE _
theorem nmB_resize (n:Int):NmB b 66 ((qResize b n).run es []).2.1:=by
 unfold qResize
 rw [run_bind,Z7]
 dsimp only
 split
 ·exact ((Xd []).app (YE 0)).le (by omega)
 ·split
  ·exact ((Xd []).app (YE 0)).le (by omega)
  ·split
   ·exact ((Xd []).app (YE 0)).le (by omega)
   ·rw [run_bind]
    refine ((Xd []).app (k:=1) (j:=2) (NmB.app (k:=1) (j:=1) ?_ ?_)).le (by omega)
    ·split
     ·rw [Vp]
      dsimp only
      split
      ·exact YE _
      ·exact nmB_rn _ (.inr ⟨_,rfl⟩)
     ·exact YE _
    ·exact YE _
theorem nmB_set (nd:Ino):NmB b 66 ((qSet b nd).run es []).2.1:=by
 unfold qSet
 split
 ·exact YE _
 ·rw [run_bind,W4]
  dsimp only
  refine ((Xd []).app (j:=1) ?_).le (by omega)
  split
  ·exact YE _
  ·split
   ·exact YE _
   ·exact YE _
end
theorem op_names {es:Al} {bs:List Bi} (hb:∀b ∈ bs,b.mkr.size≤3) (o:Op7):(∀n ∈ ((qOp bs o).run es []).2.1,ShN n)∧((qOp bs o).run es []).2.1.length≤66:=by
 have hl:=Nat.mod_lt o.k.toNat (show 0<6 by decide)
 have hbz:=Zu hb o.w
 have hB:∀N,NmB (bthF bs o.w) 66 N→(∀n ∈ N,ShN n)∧N.length≤66:=fun N h=>⟨fun n hn=>ofB_sh (h.1 n hn) hbz,h.2⟩
 unfold qOp
 generalize o.k.toNat % 6=j at *
 rcases (show j=0∨j=1∨j=2∨j=3∨j=4∨j=5 by omega) with rfl|rfl|rfl|rfl|rfl|rfl
 ·simp (decide:=true) only [if_true,if_false,run_bind,run,List.append_nil]
  exact hB _ (nmB_read _ _)
 ·simp (decide:=true) only [if_true,if_false,run_bind,run,List.append_nil]
  exact hB _ (nmB_write _ _)
 ·simp (decide:=true) only [if_true,if_false,run_bind,run,List.append_nil]
  exact hB _ (nmB_resize _)
 ·simp (decide:=true) only [if_true,if_false,run_bind,run,List.append_nil]
  exact hB _ (nmB_set _)
 ·simp (decide:=true) only [if_true,if_false,run_bind,run,List.append_nil]
  exact hB _ (nmB_read _ _)
 ·simp (decide:=true) only [if_false,run_bind,run,List.append_nil]
  have hs:=XD (o.w.toNat % 3)
  rw [VO]
  dsimp only
  split
  ·unfold mN
   split
   ·refine ⟨fun n hn=>?_,Nat.le_trans (rn_len _ _) (by omega)⟩
    rw [(rn_chk hn).1]
    exact ⟨by show (Zg (o.w.toNat % 3)).size≤_;omega,Nat.zero_le _⟩
   ·exact ⟨(fun n hn=>by cases hn),Nat.zero_le _⟩
  ·exact ⟨(fun n hn=>by cases hn),Nat.zero_le _⟩
end
section
open VQ
abbrev ChW (o:Option Addr) (cap:Nat) (l:List Ch):HP:=Row 108 7 o l.length cap (l.flatMap chf)
end
section
variable (b cap:Nat) (q:List Value×(Nat×Nat)) (fv:FuncId) (Fc:Pf) (c:Nm→Nm→Int) (W:Wk0 c) (U:Nm→Prop) (hcmp:∀x y,U x→U y→Enters fv∧Spec prog fv #[x.v,y.v] [Fc] [] (RetV (.int .i64 (c x y))))
include hcmp in
set_option maxHeartbeats 4000000 in
theorem insWN_ok (A M B:List Nm) (n:Nat) (hn:n=A.length+(M.length+B.length)) (hn2:n≤1000000) (hq:AxOK (n * 5) q) (hU:∀x ∈ A++(M++B),U x) :
  Enters 186∧Spec prog 186 #[.slice (some ⟨b,0,none⟩) n cap,.int .i64 (A.length:Int),.int .i64 ((A.length+M.length:Nat):Int),.func (.func fv) #[] #[]] [Fc] [Ax 46 nmf b (A++(M++B)) q]
   ⟨Unit,fun _=>.tuple #[],fun _=>True,fun _=>[],fun _=>[Ax 46 nmf b (A++(isR c M++B)) q]⟩:=by
 have w0:IntKind.i64.wrap ((A.length:Int)+1)=((A.length+1:Nat):Int):=by rw [wrapi (by omega) (by omega)];omega
 have h1:M.take 1++(M.drop 1++B)=M++B:=by rw [←List.append_assoc,List.take_append_drop]
 have h2:isR c (M.take 1)=M.take 1:=by
  cases M with
  | nil=>rfl
  | cons x M=>simp [isR,inR]
 refine ZM [_,_,_,_] func186 ntmps186 fun G w hp=>?_
 repeat' (first|refine ZE ?_|refine ZD ?_|refine ZL ?_|refine ZF ?_|refine ZS ?_|refine ZO ?_|refine ZV ?_|refine ZR (fun b=>?_)|refine ZX (fun b=>?_)|refine ZH ?_|refine ZB ?_|refine ZW ?_|refine ZT ?_|refine ZZ ?_|refine Zf ?_|refine Za ?_|refine Zd ?_|refine Zj (fun b=>?_)|refine Zm (fun b=>?_)|refine Zk ?_|refine ZU ?_|refine ZJ (fun hc=>?_) (fun hc=>?_)|refine ZP (fun hc=>?_) (fun hc=>?_)|refine ZA 4 [] [(0,0),(1,0),(2,0),(3,0),(4,0),(5,0),(6,0),(7,0),(8,0),(9,0),(10,0),(11,0),(12,0),(13,0),(14,4),(15,0),(16,0)] [] ?_|refine ZA 6 [] [(0,0),(1,0),(2,0),(3,0),(4,0),(5,0),(6,0),(7,0),(8,0),(9,0),(10,0),(11,0),(12,0),(13,0),(14,0),(15,4),(16,0)] [17] ?_|refine ZG (fun hc=>?_) (fun hc=>?_))
 rw [w0]
 refine Z8 (X:={i:Nat // 1≤i∧i≤max 1 M.length}) (fun i=>[(0,.slice (some ⟨b,0,none⟩) n cap),(1,.int .i64 (A.length:Int)),(2,.int .i64 ((A.length+M.length:Nat):Int)),(3,.func (.func fv) #[] #[]),(8,.int .i64 ((A.length+i.1:Nat):Int))]) (fun _=>[Fc]) (fun i=>[Ax 46 nmf b (A++(isR c (M.take i.1)++(M.drop i.1++B))) q]) (fun i=>M.length - i.1)
  ⟨1,by omega,by omega⟩ ⟨rfl,rfl,rfl,rfl,rfl,trivial⟩ ?_ (hr:=by dsimp only;rw [h2,h1];exact Sels.cons Sel.here Sels.nil)
 rintro ⟨i,hi1,hi2⟩
 dsimp only at hi1 hi2 ⊢
 by_cases hin:i<M.length
 ·obtain ⟨x,hx⟩:∃x,M[i]? = some x:=⟨_,List.getElem?_eq_getElem hin⟩
  have hd:M.drop i=x::M.drop (i+1):=by
   rw [List.getElem?_eq_getElem hin] at hx
   rw [←Option.some.inj hx,List.getElem_cons_drop]
  have ht:M.take (i+1)=M.take i++[x]:=by rw [List.take_add_one,hx];rfl
  have hl0:(isR c (M.take i)).length=i:=by rw [isR_len,List.length_take];omega
  have hUx:U x:=hU x (by simp [List.mem_of_getElem? hx])
  have hUP:∀p ∈ isR c (M.take i),U p:=fun p hp=>hU p (by
   have:=List.mem_of_mem_take ((W1 _).mem_iff.1 hp)
   simp [this])
  have hdl:(M.drop (i+1)).length=M.length - (i+1):=List.length_drop
  rw [hd]
  have hR:isR c (M.take (i+1))=inR c (isR c (M.take i)) x:=by rw [ht,UA]
  generalize isR c (M.take i)=P0 at *
  generalize hDe:M.drop (i+1)=D0 at *
  obtain ⟨D,hD⟩:∃D,D=D0++B:=⟨_,rfl⟩
  have hDl:D.length=D0.length+B.length:=by rw [hD,List.length_append]
  rw [show (x::D0++B)=x::([]++D) by rw [hD];rfl]
  repeat' (first|refine ZE ?_|refine ZD ?_|refine ZL ?_|refine ZF ?_|refine ZS ?_|refine ZO ?_|refine ZV ?_|refine ZR (fun b=>?_)|refine ZX (fun b=>?_)|refine ZH ?_|refine ZB ?_|refine ZT ?_|refine ZZ ?_|refine Zf ?_|refine Za ?_|refine Zd ?_|refine Zj (fun b=>?_)|refine Zm (fun b=>?_)|refine Zk ?_|refine ZU ?_|(refine ZJ (fun hc=>?_) (fun hc=>?_)<;>(try simp at hc)<;>(try omega))|(refine ZP (fun hc=>?_) (fun hc=>?_)<;>(try simp at hc)<;>(try omega))|refine ZA 4 [] [(0,0),(1,0),(2,0),(3,0),(4,0),(5,0),(6,0),(7,0),(8,0),(9,0),(10,0),(11,0),(12,0),(13,0),(14,4),(15,0),(16,0)] [] ?_|refine ZA 6 [] [(0,0),(1,0),(2,0),(3,0),(4,0),(5,0),(6,0),(7,0),(8,0),(9,0),(10,0),(11,0),(12,0),(13,0),(14,0),(15,4),(16,0)] [17] ?_|(refine ZG (fun hc=>?_) (fun hc=>?_)<;>(try simp at hc)<;>(try omega)))
  refine Z8 (X:={t:List Nm×List Nm // t.1++t.2=P0∧∀s ∈ t.2,c x s<0}) (fun t=>[(0,.slice (some ⟨b,0,none⟩) n cap),(1,.int .i64 (A.length:Int)),(2,.int .i64 ((A.length+M.length:Nat):Int)),(3,.func (.func fv) #[] #[]),(8,.int .i64 ((A.length+i:Nat):Int)),(9,.int .i64 ((A.length+t.1.1.length:Nat):Int))]) (fun _=>[Fc]) (fun t=>[Ax 46 nmf b (A++(t.1.1++x::(t.1.2++D))) q]) (fun t=>t.1.1.length)
   ⟨(P0,[]),by simp,by simp⟩ ⟨rfl,rfl,rfl,rfl,rfl,(by show look _ _=some (Value.int .i64 ((A.length+P0.length:Nat):Int));rw [hl0];rfl),trivial⟩ ?_
  rintro ⟨⟨P,S⟩,hPS,hS⟩
  dsimp only at hPS hS ⊢
  have hout:(∀p,P.getLast? = some p→¬c x p<0)→A++(P++x::(S++D))=A++(isR c (M.take (i+1))++(M.drop (i+1)++B)):=fun h2=>by
   rw [hR,hDe,inR_eq hPS hS h2,←hD];simp
  have wn:IntKind.i64.wrap (((A.length+i:Nat):Int)+1)=((A.length+(i+1):Nat):Int):=by rw [wrapi (by omega) (by omega)];omega
  rcases List.eq_nil_or_concat P with hP|⟨P',p,hP⟩
  ·subst hP
   have h1:=hout (by simp)
   rw [h1]
   simp only [List.length_nil,Nat.add_zero]
   repeat' (first|refine ZE ?_|refine ZD ?_|refine ZL ?_|refine ZF ?_|refine ZS ?_|refine ZO ?_|refine ZV ?_|refine ZR (fun b=>?_)|refine ZX (fun b=>?_)|refine ZH ?_|refine ZB ?_|refine ZW ?_|refine ZT ?_|refine ZZ ?_|refine Zf ?_|refine Za ?_|refine Zd ?_|refine Zj (fun b=>?_)|refine Zm (fun b=>?_)|refine Zk ?_|refine ZU ?_|(refine ZJ (fun hc=>?_) (fun hc=>?_)<;>(try simp at hc)<;>(try omega))|(refine ZP (fun hc=>?_) (fun hc=>?_)<;>(try simp at hc)<;>(try omega))|refine ZA 4 [] [(0,0),(1,0),(2,0),(3,0),(4,0),(5,0),(6,0),(7,0),(8,0),(9,0),(10,0),(11,0),(12,0),(13,0),(14,4),(15,0),(16,0)] [] ?_|refine ZA 6 [] [(0,0),(1,0),(2,0),(3,0),(4,0),(5,0),(6,0),(7,0),(8,0),(9,0),(10,0),(11,0),(12,0),(13,0),(14,0),(15,4),(16,0)] [17] ?_|(refine ZG (fun hc=>?_) (fun hc=>?_)<;>(try simp at hc)<;>(try omega)))
   rw [wn]
   exact Zb ⟨i+1,by omega,by omega⟩ (by show M.length - (i+1)<M.length - i;omega) ⟨rfl,rfl,rfl,rfl,rfl,trivial⟩
  ·rw [List.concat_eq_append] at hP
   subst hP
   have hPl:=congrArg List.length hPS
   simp only [List.length_append,List.length_cons,List.length_nil] at hPl
   have hj:((A.length+(P'++[p]).length:Nat):Int)=(((A++P').length:Nat):Int)+1:=by simp;omega
   have hAP:(A++P').length=A.length+P'.length:=List.length_append
   have w1:IntKind.i64.wrap (((A++P').length:Int)+1 - 1)=((A++P').length:Int):=by
    rw [wrapi (by omega) (by omega)];omega
   have e1:A++(P'++[p]++x::(S++D))=(A++P')++p::x::(S++D):=by simp
   have hUp:U p:=hUP p (by rw [←hPS];simp)
   have e2:A.length+P'.length=(A++P').length:=hAP.symm
   have e3:A++(P'++x::(p::S++D))=(A++P')++x::p::(S++D):=by simp
   have hSD:(S++D).length=S.length+D.length:=List.length_append
   rw [hj,e1]
   rw [e1] at hout
   have b0:decide ((A.length:Int)<((A++P').length:Int)+1)=true:=by simp<;>omega
   have hlen:n=(A++P').length+1+1+(S++D).length:=by omega
   have hnx:∀t:{t:List Nm×List Nm // t.1++t.2=P0∧∀s ∈ t.2,c x s<0},True:=fun _=>trivial
   clear hnx
   generalize hAPe:A++P'=AP at *
   generalize hSDe:S++D=SD at *
   have g1:(AP++p::x::SD)[AP.length+1]? = some x:=by
    rw [List.getElem?_append_right (by omega)];simp
   have g0:(AP++p::x::SD)[AP.length]? = some p:=by
    rw [List.getElem?_append_right (by omega)];simp
   have g2:((AP++p::x::SD).set (AP.length+1) p)[AP.length]? = some p:=by
    rw [List.getElem?_set_ne (by omega)];exact g0
   have hl2:(AP++p::x::SD).length=n:=by simp;omega
   have hq1:AxOK ((AP++p::x::SD).length * 5) q:=by rw [hl2];exact hq
   have hq2:AxOK (((AP++p::x::SD).set (AP.length+1) p).length * 5) q:=by rw [List.length_set,hl2];exact hq
   have hj1:AP.length+1<n:=by omega
   have hj0:AP.length<n:=by omega
   have sp:=hcmp x p hUx hUp
   repeat' (first|refine ZE ?_|refine ZD ?_|refine ZL ?_|refine ZF ?_|refine ZS ?_|refine ZO ?_|refine ZV ?_|refine ZR (fun b=>?_)|refine ZX (fun b=>?_)|refine ZH ?_|refine ZB ?_|refine ZW ?_|refine ZT ?_|refine ZZ ?_|refine Zf ?_|refine Za ?_|refine Zd ?_|refine Zj (fun b=>?_)|refine Zm (fun b=>?_)|refine Zk ?_|refine ZU ?_|rw [b0]|rw [w1]|refine Y1 (m:=n) (AP.length+1) hj1 ?_|refine Y1 (m:=n) AP.length hj0 ?_|refine Zc 5 (AP.length+1) 0 g1 ?_|refine Zc 5 AP.length 0 g0 ?_|refine Ze 5 (AP.length+1) 0 g1 ?_|refine Ze 5 AP.length 0 g0 ?_|refine Z3 5 (AP.length+1) 0 p g1 hq1 ?_|refine Zi sp (fun _ _=>?_)|refine l_ixS (m:=n) (AP.length+1) hj1 ?_|refine l_ixS (m:=n) AP.length hj0 ?_|refine Zv 5 (AP.length+1) 0 p g1 hq1 ?_|refine Zv 5 AP.length 0 x g2 hq2 ?_|refine r_up ?_|(refine ZJ (fun hc=>?_) (fun hc=>?_)<;>(try simp at hc)<;>(try omega))|(refine ZP (fun hc=>?_) (fun hc=>?_)<;>(try simp at hc)<;>(try omega))|refine ZA 4 [] [(0,0),(1,0),(2,0),(3,0),(4,0),(5,0),(6,0),(7,0),(8,0),(9,0),(10,0),(11,0),(12,0),(13,0),(14,4),(15,0),(16,0)] [] ?_|refine ZA 6 [Ax _ _ _ _ _] [(0,0),(1,0),(2,0),(3,0),(4,0),(5,0),(6,0),(7,0),(8,0),(10,0),(11,0),(12,0),(9,3),(13,3),(14,0),(15,4),(16,0)] [17] ?_|(refine ZG (fun hc=>?_) (fun hc=>?_)<;>(try simp at hc)<;>(try omega)))
   ·rw [swap_set,←e3]
    refine Zb ⟨(P',p::S),by simpa using hPS,by
     intro s hs
     rcases List.mem_cons.1 hs with rfl|hs
     ·exact hc
     ·exact hS s hs⟩ (by simp) ⟨rfl,rfl,rfl,rfl,rfl,(by show look _ _=some (Value.int .i64 ((A.length+P'.length:Nat):Int));rw [e2];rfl),trivial⟩
   ·rw [hout (by simpa using hc),wn]
    exact Zb ⟨i+1,by omega,by omega⟩ (by show M.length - (i+1)<M.length - i;omega) ⟨rfl,rfl,rfl,rfl,rfl,trivial⟩
 ·have e1:isR c (M.take i)++(M.drop i++B)=isR c M++B:=by
   rw [List.take_of_length_le (by omega),List.drop_eq_nil_of_le (by omega)];rfl
  rw [e1]
  repeat' (first|refine ZE ?_|refine ZD ?_|refine ZL ?_|refine ZF ?_|refine ZS ?_|refine ZO ?_|refine ZV ?_|refine ZR (fun b=>?_)|refine ZX (fun b=>?_)|refine ZH ?_|refine ZB ?_|refine ZW ?_|refine ZT ?_|refine ZZ ?_|refine Zf ?_|refine Za ?_|refine Zd ?_|refine Zj (fun b=>?_)|refine Zm (fun b=>?_)|refine Zk ?_|refine ZU ?_|(refine ZJ (fun hc=>?_) (fun hc=>?_)<;>(try simp at hc)<;>(try omega))|(refine ZP (fun hc=>?_) (fun hc=>?_)<;>(try simp at hc)<;>(try omega))|refine ZA 4 [] [(0,0),(1,0),(2,0),(3,0),(4,0),(5,0),(6,0),(7,0),(8,0),(9,0),(10,0),(11,0),(12,0),(13,0),(14,4),(15,0),(16,0)] [] ?_|refine ZA 6 [] [(0,0),(1,0),(2,0),(3,0),(4,0),(5,0),(6,0),(7,0),(8,0),(9,0),(10,0),(11,0),(12,0),(13,0),(14,0),(15,4),(16,0)] [17] ?_|(refine ZG (fun hc=>?_) (fun hc=>?_)<;>(try simp at hc)<;>(try omega)))
  exact Yc () rfl trivial
end
section
variable (bk cap:Nat) (q:List Value×(Nat×Nat)) (fv:FuncId) (Fc:Pf) (c:Nm→Nm→Int) (W:Wk0 c) (U:Nm→Prop) (hcmp:∀x y,U x→U y→Enters fv∧Spec prog fv #[x.v,y.v] [Fc] [] (RetV (.int .i64 (c x y))))
instance inhN:Inhabited Nm:=⟨⟨0,⟨#[]⟩,0,0,⟨#[]⟩⟩⟩
include hcmp in
theorem ord2N_ok (l:List Nm) (n:Nat) (hn:n=l.length) (hU:∀x ∈ l,U x) (i j:Nat) (hi:i<n) (hj:j<n) (sb:Nat) (z:Int) :
  Enters 224∧Spec prog 224 #[.slice (some ⟨bk,0,none⟩) n cap,.int .i64 (i:Int),.int .i64 (j:Int),.pointer (some ⟨sb,0,none⟩),.func (.func fv) #[] #[]] [Fc] [Ax 46 nmf bk l q,Pt sb (.cells #[.int .i64 z] 3)]
   ⟨{t:Nat×Nat×Int // (t.1=i∧t.2.1=j)∨(t.1=j∧t.2.1=i)},fun t=>.tuple #[.int .i64 (t.1.1:Int),.int .i64 (t.1.2.1:Int)],fun _=>True,fun _=>[],fun t=>[Ax 46 nmf bk l q,Pt sb (.cells #[.int .i64 t.1.2.2] 3)]⟩:=by
 have ki:i<l.length:=by omega
 have kj:j<l.length:=by omega
 have sp:=hcmp (gt l j) (gt l i) (hU _ (Zo kj)) (hU _ (Zo ki))
 refine ZM [_,_,_,_,_] func224 ntmps224 fun G w hp=>?_
 repeat' (first|refine ZE ?_|refine ZD ?_|refine ZL ?_|refine ZF ?_|refine ZS ?_|refine ZO ?_|refine ZV ?_|refine ZR (fun b=>?_)|refine ZX (fun b=>?_)|refine ZH ?_|refine ZB ?_|refine ZW ?_|refine ZT ?_|refine ZZ ?_|refine Zf ?_|refine Za ?_|refine Zd ?_|refine Zj (fun b=>?_)|refine Zm (fun b=>?_)|refine Zk ?_|refine ZU ?_|refine ZY (m:=n) (i) hi ?_|refine l_ixW (m:=n) (i) hi ?_|refine ZY (m:=n) (j) hj ?_|refine l_ixW (m:=n) (j) hj ?_|refine Zc 5 (i) 0 (ZI ki) ?_|refine Zn 5 (i) 0 (ZI ki) ?_|refine Zc 5 (j) 0 (ZI kj) ?_|refine Zn 5 (j) 0 (ZI kj) ?_|refine Zi sp (fun _ _=>?_)|(refine ZJ (fun hc=>?_) (fun hc=>?_)<;>(try simp at hc))|(refine ZP (fun hc=>?_) (fun hc=>?_)<;>(try simp at hc))|refine ZA 1 [] [(0,0),(1,0),(2,0),(3,0),(4,0),(5,0),(6,0),(7,0),(8,0),(9,4),(10,0)] [] ?_|(refine ZG (fun hc=>?_) (fun hc=>?_)<;>(try simp at hc)))
 ·exact ZK ⟨(j,i,_),.inr ⟨rfl,rfl⟩⟩ rfl trivial
 ·exact ZK ⟨(i,j,_),.inl ⟨rfl,rfl⟩⟩ rfl trivial
include hcmp in
theorem medN_ok (l:List Nm) (n:Nat) (hn:n=l.length) (hU:∀x ∈ l,U x) (i j k:Nat) (hi:i<n) (hj:j<n) (hk:k<n) (sb:Nat) (z:Int) :
  Enters 219∧Spec prog 219 #[.slice (some ⟨bk,0,none⟩) n cap,.int .i64 (i:Int),.int .i64 (j:Int),.int .i64 (k:Int),.pointer (some ⟨sb,0,none⟩),.func (.func fv) #[] #[]] [Fc] [Ax 46 nmf bk l q,Pt sb (.cells #[.int .i64 z] 3)]
   ⟨{t:Nat×Int // t.1=i∨t.1=j∨t.1=k},fun t=>.int .i64 (t.1.1:Int),fun _=>True,fun _=>[],fun t=>[Ax 46 nmf bk l q,Pt sb (.cells #[.int .i64 t.1.2] 3)]⟩:=by
 have s1:=ord2N_ok bk cap q fv Fc c U hcmp l n hn hU
 refine ZM [_,_,_,_,_,_] func219 ntmps219 fun G w hp=>?_
 repeat' (first|refine ZE ?_|refine ZD ?_|refine ZL ?_|refine ZF ?_|refine ZS ?_|refine ZO ?_|refine ZV ?_|refine ZR (fun b=>?_)|refine ZX (fun b=>?_)|refine ZH ?_|refine ZB ?_|refine ZW ?_|refine ZC (s1 i j hi hj _ _) (fun _ _=>?_)|refine l_call0 (s1 i j hi hj _ _) (fun _ _=>?_)|(refine ZJ (fun hc=>?_) (fun hc=>?_)<;>(try simp at hc))|(refine ZG (fun hc=>?_) (fun hc=>?_)<;>(try simp at hc)))
 rename_i t1 _
 obtain ⟨⟨i1,j1,z1⟩,h1⟩:=t1
 dsimp only at h1 ⊢
 have hi1:i1<n:=by omega
 have hj1:j1<n:=by omega
 repeat' (first|refine ZE ?_|refine ZD ?_|refine ZL ?_|refine ZF ?_|refine ZS ?_|refine ZO ?_|refine ZV ?_|refine ZR (fun b=>?_)|refine ZX (fun b=>?_)|refine ZH ?_|refine ZB ?_|refine ZW ?_|refine ZC (s1 j1 k hj1 hk _ _) (fun _ _=>?_)|refine l_call0 (s1 j1 k hj1 hk _ _) (fun _ _=>?_)|(refine ZJ (fun hc=>?_) (fun hc=>?_)<;>(try simp at hc))|(refine ZG (fun hc=>?_) (fun hc=>?_)<;>(try simp at hc)))
 rename_i t2 _
 obtain ⟨⟨j2,k2,z2⟩,h2⟩:=t2
 dsimp only at h2 ⊢
 have hj2:j2<n:=by omega
 repeat' (first|refine ZE ?_|refine ZD ?_|refine ZL ?_|refine ZF ?_|refine ZS ?_|refine ZO ?_|refine ZV ?_|refine ZR (fun b=>?_)|refine ZX (fun b=>?_)|refine ZH ?_|refine ZB ?_|refine ZW ?_|refine ZC (s1 i1 j2 hi1 hj2 _ _) (fun _ _=>?_)|refine l_call0 (s1 i1 j2 hi1 hj2 _ _) (fun _ _=>?_)|(refine ZJ (fun hc=>?_) (fun hc=>?_)<;>(try simp at hc))|(refine ZG (fun hc=>?_) (fun hc=>?_)<;>(try simp at hc)))
 rename_i t3 _
 obtain ⟨⟨i3,j3,z3⟩,h3⟩:=t3
 dsimp only at h3 ⊢
 repeat' (first|refine ZE ?_|refine ZD ?_|refine ZL ?_|refine ZF ?_|refine ZS ?_|refine ZO ?_|refine ZV ?_|refine ZR (fun b=>?_)|refine ZX (fun b=>?_)|refine ZH ?_|refine ZB ?_|refine ZW ?_|(refine ZJ (fun hc=>?_) (fun hc=>?_)<;>(try simp at hc))|(refine ZG (fun hc=>?_) (fun hc=>?_)<;>(try simp at hc)))
 exact ZK ⟨(j3,z3),by show j3=i∨j3=j∨j3=k;omega⟩ rfl trivial
include hcmp in
theorem medAN_ok (l:List Nm) (n:Nat) (hn:n=l.length) (hn2:n≤1000000) (hU:∀x ∈ l,U x) (j:Nat) (hj0:0<j) (hj:j+1<n) (sb:Nat) (z:Int) :
  Enters 218∧Spec prog 218 #[.slice (some ⟨bk,0,none⟩) n cap,.int .i64 (j:Int),.pointer (some ⟨sb,0,none⟩),.func (.func fv) #[] #[]] [Fc] [Ax 46 nmf bk l q,Pt sb (.cells #[.int .i64 z] 3)]
   ⟨{t:Nat×Int // t.1≤j+1∧j≤t.1+1},fun t=>.int .i64 (t.1.1:Int),fun _=>True,fun _=>[],fun t=>[Ax 46 nmf bk l q,Pt sb (.cells #[.int .i64 t.1.2] 3)]⟩:=by
 have s1:=medN_ok bk cap q fv Fc c U hcmp l n hn hU (j - 1) j (j+1) (by omega) (by omega) hj sb z
 have w1:IntKind.i64.wrap ((j:Int) - 1)=((j - 1:Nat):Int):=by rw [wrapi (by omega) (by omega)];omega
 have w2:IntKind.i64.wrap ((j:Int)+1)=((j+1:Nat):Int):=by rw [wrapi (by omega) (by omega)];omega
 refine ZM [_,_,_,_] func218 ntmps218 fun G w hp=>?_
 repeat' (first|refine ZE ?_|refine ZD ?_|refine ZL ?_|refine ZF ?_|refine ZS ?_|refine ZO ?_|refine ZV ?_|refine ZR (fun b=>?_)|refine ZX (fun b=>?_)|refine ZH ?_|refine ZB ?_|refine ZW ?_|refine ZC (s1) (fun _ _=>?_)|refine l_call0 (s1) (fun _ _=>?_)|rw [w1]|rw [w2]|(refine ZJ (fun hc=>?_) (fun hc=>?_)<;>(try simp at hc))|(refine ZG (fun hc=>?_) (fun hc=>?_)<;>(try simp at hc)))
 rename_i t _
 obtain ⟨⟨j1,z1⟩,h1⟩:=t
 exact ZK ⟨(j1,z1),by omega⟩ rfl trivial
include hcmp in
theorem chpN_ok (l:List Nm) (n:Nat) (hn:n=l.length) (hn2:n≤1000000) (hU:∀x ∈ l,U x) (a bb:Nat) (hab:a+12<bb) (hb:bb≤n) :
  Enters 189∧Spec prog 189 #[.slice (some ⟨bk,0,none⟩) n cap,.int .i64 (a:Int),.int .i64 (bb:Int),.func (.func fv) #[] #[]] [Fc] [Ax 46 nmf bk l q]
   ⟨{t:Nat×Int // a≤t.1∧t.1<bb∧(t.2=0∨t.2=1∨t.2=2)},fun t=>.tuple #[.int .i64 (t.1.1:Int),.int .i64 t.1.2],fun _=>True,fun _=>[],fun _=>[Ax 46 nmf bk l q]⟩:=by
 have s1:=medN_ok bk cap q fv Fc c U hcmp l n hn hU
 have s2:=medAN_ok bk cap q fv Fc c U hcmp l n hn hn2 hU
 obtain ⟨N,hN⟩:∃N,N=bb - a:=⟨_,rfl⟩
 obtain ⟨p,hp⟩:∃p,p=N / 4:=⟨_,rfl⟩
 have w0:IntKind.i64.wrap ((bb:Int) - (a:Int))=(N:Int):=by rw [wrapi (by omega) (by omega)];omega
 have w1:IntKind.i64.wrap ((N:Int).tdiv 4)=(p:Int):=by
  have:(N:Int).tdiv 4=(p:Int):=by rw [hp];exact (Int.ofNat_tdiv _ _).symm
  rw [this,wrapi (by omega) (by omega)]
 have v1:IntKind.i64.wrap ((a:Int)+IntKind.i64.wrap ((p:Int) * 1))=((a+p:Nat):Int):=by simp (disch:=omega) only [wrapi];omega
 have v2:IntKind.i64.wrap ((a:Int)+IntKind.i64.wrap ((p:Int) * 2))=((a+2 * p:Nat):Int):=by simp (disch:=omega) only [wrapi];omega
 have v3:IntKind.i64.wrap ((a:Int)+IntKind.i64.wrap ((p:Int) * 3))=((a+3 * p:Nat):Int):=by simp (disch:=omega) only [wrapi];omega
 have r1:=s1 (a+p) (a+2 * p) (a+3 * p) (by omega) (by omega) (by omega)
 have r2:=s2 (a+p) (by omega) (by omega)
 have r3:=s2 (a+2 * p) (by omega) (by omega)
 have r4:=s2 (a+3 * p) (by omega) (by omega)
 refine ZM [_,_,_,_] func189 ntmps189 fun G w hp=>?_
 refine Vc (Y:={t:Nat×Int×Nat // a≤t.1∧t.1<bb}) 7 (fun y=>[(0,.slice (some ⟨bk,0,none⟩) n cap),(3,.func (.func fv) #[] #[]),(13,.int .i64 (y.1.1:Int)),(11,.pointer (some ⟨y.1.2.2,0,none⟩))]) (fun _=>[Fc]) (fun y=>[Ax 46 nmf bk l q,Pt y.1.2.2 (.cells #[.int .i64 y.1.2.1] 3)]) ?_ ?_
 ·rintro ⟨⟨j,z,sb⟩,h1,h2⟩
  dsimp only at h1 h2 ⊢
  repeat' (first|refine ZE ?_|refine ZD ?_|refine ZL ?_|refine ZF ?_|refine ZS ?_|refine ZO ?_|refine ZV ?_|refine ZR (fun b=>?_)|refine ZX (fun b=>?_)|refine ZH ?_|refine ZB ?_|refine ZW ?_|(refine ZJ (fun hc=>?_) (fun hc=>?_)<;>(try simp at hc))|(refine ZG (fun hc=>?_) (fun hc=>?_)<;>(try simp at hc)))
  ·exact ZK ⟨(j,1),h1,h2,.inr (.inl rfl)⟩ rfl trivial
  ·exact ZK ⟨(j,2),h1,h2,.inr (.inr rfl)⟩ rfl trivial
  ·exact ZK ⟨(j,0),h1,h2,.inl rfl⟩ rfl trivial
 ·intro hx
  repeat' (first|refine XJ ?_|refine Xb hx ⟨(_,_,_),?_⟩ ⟨rfl,rfl,rfl,rfl,trivial⟩|refine ZE ?_|refine ZD ?_|refine ZL ?_|refine ZF ?_|refine ZS ?_|refine ZO ?_|refine ZV ?_|refine ZR (fun b=>?_)|refine ZX (fun b=>?_)|refine ZH ?_|refine ZB ?_|refine ZW ?_|refine ZC (r1 _ _) (fun _ _=>?_)|refine l_call0 (r1 _ _) (fun _ _=>?_)|refine ZC (r2 _ _) (fun _ _=>?_)|refine l_call0 (r2 _ _) (fun _ _=>?_)|refine ZC (r3 _ _) (fun _ _=>?_)|refine l_call0 (r3 _ _) (fun _ _=>?_)|refine ZC (r4 _ _) (fun _ _=>?_)|refine l_call0 (r4 _ _) (fun _ _=>?_)|rw [w0]|rw [w1]|rw [v1]|rw [v2]|rw [v3]|(refine ZJ (fun hc=>?_) (fun hc=>?_)<;>(try simp at hc)<;>(try omega))|(refine ZG (fun hc=>?_) (fun hc=>?_)<;>(try simp at hc)<;>(try omega)))
  ·rename_i t1 _ t2 _ t3 _
   obtain ⟨⟨i1,z1⟩,g1⟩:=t1
   obtain ⟨⟨i2,z2⟩,g2⟩:=t2
   obtain ⟨⟨i3,z3⟩,g3⟩:=t3
   dsimp only at g1 g2 g3 ⊢
   have r5:=s1 i1 i2 i3 (by omega) (by omega) (by omega)
   repeat' (first|refine XJ ?_|refine Xb hx ⟨(_,_,_),?_⟩ ⟨rfl,rfl,rfl,rfl,trivial⟩|refine ZE ?_|refine ZD ?_|refine ZL ?_|refine ZF ?_|refine ZS ?_|refine ZO ?_|refine ZV ?_|refine ZR (fun b=>?_)|refine ZX (fun b=>?_)|refine ZH ?_|refine ZB ?_|refine ZW ?_|refine ZC (r5 _ _) (fun _ _=>?_)|refine l_call0 (r5 _ _) (fun _ _=>?_)|(refine ZJ (fun hc=>?_) (fun hc=>?_)<;>(try simp at hc))|(refine ZG (fun hc=>?_) (fun hc=>?_)<;>(try simp at hc)))
   rename_i t4 _
   obtain ⟨⟨i4,z4⟩,g4⟩:=t4
   dsimp only at g4 ⊢
   omega
  ·rename_i t4 _
   obtain ⟨⟨i4,z4⟩,g4⟩:=t4
   dsimp only at g4 ⊢
   omega
end
section
variable (bk cap:Nat) (q:List Value×(Nat×Nat)) (fv:FuncId) (Fc:Pf) (c:Nm→Nm→Int) (W:Wk0 c) (U:Nm→Prop) (hcmp:∀x y,U x→U y→Enters fv∧Spec prog fv #[x.v,y.v] [Fc] [] (RetV (.int .i64 (c x y))))
theorem revN_ok (l:List Nm) (n:Nat) (hn:n=l.length) (hn2:n≤1000000) (hq:AxOK (n * 5) q) (a b:Nat) (hab:a<b) (hb:b≤n) :
  Enters 190∧Spec prog 190 #[.slice (some ⟨bk,0,none⟩) n cap,.int .i64 (a:Int),.int .i64 (b:Int),.func (.func fv) #[] #[]] [Fc] [Ax 46 nmf bk l q]
   ⟨{l':List Nm // Win a b l l'},fun _=>.tuple #[],fun _=>True,fun _=>[],fun l'=>[Ax 46 nmf bk l'.1 q]⟩:=by
 have w0:IntKind.i64.wrap ((b:Int) - 1)=((b - 1:Nat):Int):=by rw [wrapi (by omega) (by omega)];omega
 refine ZM [_,_,_,_] func190 ntmps190 fun G w hp=>?_
 repeat' (first|refine ZE ?_|refine ZD ?_|refine ZL ?_|refine ZF ?_|refine ZS ?_|refine ZO ?_|refine ZV ?_|refine ZR (fun b=>?_)|refine ZX (fun b=>?_)|refine ZH ?_|refine ZB ?_|refine ZT ?_|refine ZZ ?_|refine Zf ?_|refine Za ?_|refine Zd ?_|refine Zj (fun b=>?_)|refine Zm (fun b=>?_)|refine Zk ?_|refine ZU ?_|rw [w0]|(refine ZJ (fun hc=>?_) (fun hc=>?_)<;>(try simp at hc))|(refine ZP (fun hc=>?_) (fun hc=>?_)<;>(try simp at hc))|refine ZA 3 [] [(0,0),(1,0),(2,0),(3,0),(4,0),(5,0),(6,0),(7,0),(8,0),(9,0),(10,0),(11,0),(12,0),(13,4),(14,0)] [15] ?_|(refine ZG (fun hc=>?_) (fun hc=>?_)<;>(try simp at hc)))
 refine Z8 (X:={t:Nat×Nat×List Nm // a≤t.1∧t.2.1<b∧t.1≤t.2.1+1∧Win a b l t.2.2}) (fun t=>[(0,.slice (some ⟨bk,0,none⟩) n cap),(8,.int .i64 (t.1.1:Int)),(9,.int .i64 (t.1.2.1:Int))]) (fun _=>[Fc]) (fun t=>[Ax 46 nmf bk t.1.2.2 q]) (fun t=>t.1.2.1+1 - t.1.1)
  ⟨(a,b - 1,l),by omega,by show b - 1<b;omega,by show a≤b - 1+1;omega,Win.refl⟩ ⟨rfl,rfl,rfl,trivial⟩ ?_
 rintro ⟨⟨i,j,m⟩,h1,h2,h3,h4⟩
 dsimp only at h1 h2 h3 h4 ⊢
 have hl:=h4.len
 by_cases hij:i<j
 ·have hi:i<n:=by omega
  have hj:j<n:=by omega
  have ki:i<m.length:=by omega
  have kj:j<m.length:=by omega
  have kj2:j<(m.set i (gt m j)).length:=by rw [List.length_set];exact kj
  have hq1:AxOK (m.length * 5) q:=by rw [hl,←hn];exact hq
  have hq2:AxOK ((m.set i (gt m j)).length * 5) q:=by rw [List.length_set];exact hq1
  have w1:IntKind.i64.wrap ((i:Int)+1)=((i+1:Nat):Int):=by rw [wrapi (by omega) (by omega)];omega
  have w2:IntKind.i64.wrap ((j:Int) - 1)=((j - 1:Nat):Int):=by rw [wrapi (by omega) (by omega)];omega
  repeat' (first|refine ZE ?_|refine ZD ?_|refine ZL ?_|refine ZF ?_|refine ZS ?_|refine ZO ?_|refine ZV ?_|refine ZR (fun b=>?_)|refine ZX (fun b=>?_)|refine ZH ?_|refine ZB ?_|refine ZW ?_|refine ZT ?_|refine ZZ ?_|refine Zf ?_|refine Za ?_|refine Zd ?_|refine Zj (fun b=>?_)|refine Zm (fun b=>?_)|refine Zk ?_|refine ZU ?_|refine ZY (m:=n) (i) hi ?_|refine l_ixW (m:=n) (i) hi ?_|refine ZY (m:=n) (j) hj ?_|refine l_ixW (m:=n) (j) hj ?_|refine Ze 5 (i) 0 (ZI ki) ?_|refine Ze 5 (j) 0 (ZI kj) ?_|refine Z3 5 (i) 0 (gt m (j)) (ZI ki) hq1 ?_|refine Zv 5 (i) 0 (gt m (j)) (ZI ki) hq1 ?_|refine Zv 5 (j) 0 (gt m (i)) (ZI kj2) hq2 ?_|rw [w1]|rw [w2]|refine r_up ?_|(refine ZJ (fun hc=>?_) (fun hc=>?_)<;>(try simp at hc)<;>(try omega))|(refine ZP (fun hc=>?_) (fun hc=>?_)<;>(try simp at hc)<;>(try omega))|refine ZA 3 [Ax _ _ _ _ _] [(0,0),(1,0),(2,0),(3,0),(4,0),(5,0),(6,0),(8,0),(9,0),(10,0),(7,3),(11,3),(12,0),(13,4),(14,0)] [15] ?_|(refine ZG (fun hc=>?_) (fun hc=>?_)<;>(try simp at hc)<;>(try omega)))
  exact Zb ⟨(i+1,j - 1,sw m i j),by show a≤i+1;omega,by show j - 1<b;omega,by show i+1≤j - 1+1;omega,h4.trans (Win.sw h1 (by omega) (by omega) h2 (by omega))⟩ (by show j - 1+1 - (i+1)<j+1 - i;omega) ⟨rfl,rfl,rfl,trivial⟩
 ·repeat' (first|refine ZE ?_|refine ZD ?_|refine ZL ?_|refine ZF ?_|refine ZS ?_|refine ZO ?_|refine ZV ?_|refine ZR (fun b=>?_)|refine ZX (fun b=>?_)|refine ZH ?_|refine ZB ?_|refine ZW ?_|(refine ZJ (fun hc=>?_) (fun hc=>?_)<;>(try simp at hc)<;>(try omega))|(refine ZG (fun hc=>?_) (fun hc=>?_)<;>(try simp at hc)<;>(try omega)))
  exact Yc ⟨m,h4⟩ rfl trivial
set_option maxHeartbeats 4000000 in
theorem brkN_ok (l:List Nm) (n:Nat) (hn:n=l.length) (hn2:n<256) (hq:AxOK (n * 5) q) (a bb:Nat) (hab:a+12<bb) (hb:bb≤n) :
  Enters 188∧Spec prog 188 #[.slice (some ⟨bk,0,none⟩) n cap,.int .i64 (a:Int),.int .i64 (bb:Int),.func (.func fv) #[] #[]] [Fc] [Ax 46 nmf bk l q]
   ⟨{l':List Nm // Win a bb l l'},fun _=>.tuple #[],fun _=>True,fun _=>[],fun l'=>[Ax 46 nmf bk l'.1 q]⟩:=by
 obtain ⟨N,hN⟩:∃N,N=bb - a:=⟨_,rfl⟩
 obtain ⟨p,hp⟩:∃p,p=N / 4:=⟨_,rfl⟩
 have w0:IntKind.i64.wrap ((bb:Int) - (a:Int))=(N:Int):=by rw [wrapi (by omega) (by omega)];omega
 have w1:IntKind.i64.wrap ((N:Int).tdiv 4)=(p:Int):=by
  have:(N:Int).tdiv 4=(p:Int):=by rw [hp];exact (Int.ofNat_tdiv _ _).symm
  rw [this,wrapi (by omega) (by omega)]
 have w2:IntKind.i64.wrap (IntKind.i64.wrap ((a:Int)+IntKind.i64.wrap ((p:Int) * 2)) - 1)=((a+2 * p - 1:Nat):Int):=by simp (disch:=omega) only [wrapi];omega
 have w3:IntKind.i64.wrap (IntKind.i64.wrap ((a:Int)+IntKind.i64.wrap ((p:Int) * 2))+1)=((a+2 * p+1:Nat):Int):=by simp (disch:=omega) only [wrapi];omega
 have w4:IntKind.u64.wrap (N:Int)=(N:Int):=Wc (by omega)
 have s1:=pow2_ok N (by omega)
 have s2:=xnext_ok
 refine ZM [_,_,_,_] func188 ntmps188 fun G w hp=>?_
 repeat' (first|refine ZE ?_|refine ZD ?_|refine ZL ?_|refine ZF ?_|refine ZS ?_|refine ZO ?_|refine ZV ?_|refine ZR (fun b=>?_)|refine ZX (fun b=>?_)|refine ZH ?_|refine ZB ?_|refine ZC (s1) (fun _ _=>?_)|refine l_call0 (s1) (fun _ _=>?_)|rw [w0]|rw [w1]|rw [w2]|rw [w4]|(refine ZJ (fun hc=>?_) (fun hc=>?_)<;>(try simp at hc)<;>(try omega))|(refine ZG (fun hc=>?_) (fun hc=>?_)<;>(try simp at hc)<;>(try omega)))
 rename_i cc _
 obtain ⟨cc,hcc⟩:=cc
 dsimp only
 unfold LenP at hcc
 rw [Bool.and_eq_true,Bool.and_eq_true,Bool.or_eq_true] at hcc
 have hc8:cc≤8:=Nat.le_of_ble_eq_true hcc.1
 have hcN:N<2 ^ cc:=by
  have:=hcc.2.1
  unfold Nat.blt at this
  exact Nat.le_of_ble_eq_true this
 have hcN2:2 ^ cc≤2 * N:=by
  rcases hcc.2.2 with h|h
  ·exact Nat.le_of_ble_eq_true h
  ·have:=Nat.eq_of_beq_eq_true h;omega
 clear hcc
 generalize hM:2 ^ cc=M at hcN hcN2
 refine Z8 (X:={t:Nat×Int×List Nm // a+2 * p - 1≤t.1∧t.1≤a+2 * p+2∧Win a bb l t.2.2}) (fun t=>[(0,.slice (some ⟨bk,0,none⟩) n cap),(1,.int .i64 (a:Int)),(8,.int .i64 (N:Int)),(9,.pointer (some ⟨b,0,none⟩)),(10,.int .u64 (M:Int)),(11,.int .i64 (t.1.1:Int))]) (fun _=>[Fc]) (fun t=>[Ax 46 nmf bk t.1.2.2 q,Pt b (.cells #[.int .u64 t.1.2.1] 330)]) (fun t=>a+2 * p+2 - t.1.1)
  ⟨(a+2 * p - 1,_,l),Nat.le_refl _,by show a+2 * p - 1≤_;omega,Win.refl⟩ ⟨rfl,rfl,rfl,rfl,rfl,rfl,trivial⟩ ?_
 rintro ⟨⟨i,z,m⟩,h1,h2,h3⟩
 dsimp only at h1 h2 h3 ⊢
 have hl:=h3.len
 by_cases hi0:i≤a+2 * p+1
 ·have w5:IntKind.i64.wrap ((i:Int)+1)=((i+1:Nat):Int):=by simp (disch:=omega) only [wrapi];omega
  have b0:decide ((i:Int)≤((a+2 * p+1:Nat):Int))=true:=decide_eq_true (by omega)
  repeat' (first|refine ZE ?_|refine ZD ?_|refine ZL ?_|refine ZF ?_|refine ZS ?_|refine ZO ?_|refine ZV ?_|refine ZR (fun b=>?_)|refine ZX (fun b=>?_)|refine ZH ?_|refine ZB ?_|refine ZW ?_|refine ZC (s2 _ _) (fun _ _=>?_)|refine l_call0 (s2 _ _) (fun _ _=>?_)|rw [w1]|rw [w3]|rw [b0]|(refine ZJ (fun hc=>?_) (fun hc=>?_)<;>(try simp at hc)))
  rename_i z2 _
  obtain ⟨o,ho,he⟩:=and_low z2 (M:Int) cc hc8 (by rw [hM])
  rw [hM] at ho
  dsimp only
  rw [he]
  have hi:i<n:=by omega
  have ki:i<m.length:=by omega
  have hq1:AxOK (m.length * 5) q:=by rw [hl,←hn];exact hq
  have hq2:∀y,AxOK ((m.set i y).length * 5) q:=fun y=>by rw [List.length_set];exact hq1
  by_cases hoN:N≤o
  ·have w6:IntKind.i64.wrap ((o:Int) - (N:Int))=((o - N:Nat):Int):=by simp (disch:=omega) only [wrapi];omega
   have hj:a+(o - N)<n:=by omega
   have kj:a+(o - N)<m.length:=by omega
   have kj2:a+(o - N)<(m.set i (gt m (a+(o - N)))).length:=by rw [List.length_set];exact kj
   repeat' (first|refine ZE ?_|refine ZD ?_|refine ZL ?_|refine ZF ?_|refine ZS ?_|refine ZO ?_|refine ZV ?_|refine ZR (fun b=>?_)|refine ZX (fun b=>?_)|refine ZH ?_|refine ZB ?_|refine ZW ?_|refine ZT ?_|refine ZZ ?_|refine Zf ?_|refine Za ?_|refine Zd ?_|refine Zj (fun b=>?_)|refine Zm (fun b=>?_)|refine Zk ?_|refine ZU ?_|rw [w6]|rw [w5]|refine ZY (m:=n) (i) hi ?_|refine l_ixW (m:=n) (i) hi ?_|refine ZY (m:=n) (a+(o - N)) hj ?_|refine l_ixW (m:=n) (a+(o - N)) hj ?_|refine Ze 5 (i) 0 (ZI ki) ?_|refine Ze 5 (a+(o - N)) 0 (ZI kj) ?_|refine Z3 5 (i) 0 (gt m (a+(o - N))) (ZI ki) hq1 ?_|refine Zv 5 (i) 0 (gt m (a+(o - N))) (ZI ki) hq1 ?_|refine Zv 5 (a+(o - N)) 0 (gt m (i)) (ZI kj2) (hq2 _) ?_|refine r_up ?_|(refine ZJ (fun hc=>?_) (fun hc=>?_)<;>(try simp at hc)<;>(try omega))|(refine ZP (fun hc=>?_) (fun hc=>?_)<;>(try simp at hc)<;>(try omega))|refine ZA 10 [Ax _ _ _ _ _] [(0,0),(1,0),(2,0),(3,0),(4,0),(5,0),(6,0),(7,0),(8,0),(9,0),(10,0),(12,0),(13,0),(14,0),(11,3),(15,3),(16,0),(17,4),(18,0)] [19] ?_|(refine ZG (fun hc=>?_) (fun hc=>?_)<;>(try simp at hc)<;>(try omega)))
   exact Zb ⟨(i+1,z2,sw m i (a+(o - N))),by show _≤i+1;omega,by show i+1≤_;omega,h3.trans (Win.sw (by omega) (by omega) (by omega) (by omega) (by omega))⟩ (by show a+2 * p+2 - (i+1)<a+2 * p+2 - i;omega) ⟨rfl,rfl,rfl,rfl,rfl,rfl,trivial⟩
  ·have hj:a+o<n:=by omega
   have kj:a+o<m.length:=by omega
   have kj2:a+o<(m.set i (gt m (a+o))).length:=by rw [List.length_set];exact kj
   repeat' (first|refine ZE ?_|refine ZD ?_|refine ZL ?_|refine ZF ?_|refine ZS ?_|refine ZO ?_|refine ZV ?_|refine ZR (fun b=>?_)|refine ZX (fun b=>?_)|refine ZH ?_|refine ZB ?_|refine ZW ?_|refine ZT ?_|refine ZZ ?_|refine Zf ?_|refine Za ?_|refine Zd ?_|refine Zj (fun b=>?_)|refine Zm (fun b=>?_)|refine Zk ?_|refine ZU ?_|rw [w5]|refine ZY (m:=n) (i) hi ?_|refine l_ixW (m:=n) (i) hi ?_|refine ZY (m:=n) (a+o) hj ?_|refine l_ixW (m:=n) (a+o) hj ?_|refine Ze 5 (i) 0 (ZI ki) ?_|refine Ze 5 (a+o) 0 (ZI kj) ?_|refine Z3 5 (i) 0 (gt m (a+o)) (ZI ki) hq1 ?_|refine Zv 5 (i) 0 (gt m (a+o)) (ZI ki) hq1 ?_|refine Zv 5 (a+o) 0 (gt m (i)) (ZI kj2) (hq2 _) ?_|refine r_up ?_|(refine ZJ (fun hc=>?_) (fun hc=>?_)<;>(try simp at hc)<;>(try omega))|(refine ZP (fun hc=>?_) (fun hc=>?_)<;>(try simp at hc)<;>(try omega))|refine ZA 10 [Ax _ _ _ _ _] [(0,0),(1,0),(2,0),(3,0),(4,0),(5,0),(6,0),(7,0),(8,0),(9,0),(10,0),(12,0),(13,0),(14,0),(11,3),(15,3),(16,0),(17,4),(18,0)] [19] ?_|(refine ZG (fun hc=>?_) (fun hc=>?_)<;>(try simp at hc)<;>(try omega)))
   exact Zb ⟨(i+1,z2,sw m i (a+o)),by show _≤i+1;omega,by show i+1≤_;omega,h3.trans (Win.sw (by omega) (by omega) (by omega) (by omega) (by omega))⟩ (by show a+2 * p+2 - (i+1)<a+2 * p+2 - i;omega) ⟨rfl,rfl,rfl,rfl,rfl,rfl,trivial⟩
 ·repeat' (first|refine ZE ?_|refine ZD ?_|refine ZL ?_|refine ZF ?_|refine ZS ?_|refine ZO ?_|refine ZV ?_|refine ZR (fun b=>?_)|refine ZX (fun b=>?_)|refine ZH ?_|refine ZB ?_|refine ZW ?_|rw [w1]|rw [w3]|(refine ZJ (fun hc=>?_) (fun hc=>?_)<;>(try simp at hc)<;>(try omega))|(refine ZG (fun hc=>?_) (fun hc=>?_)<;>(try simp at hc)<;>(try omega)))
  exact Yc ⟨m,h3⟩ rfl trivial
include hcmp W in
set_option maxHeartbeats 4000000 in
theorem siftN_ok (l:List Nm) (n:Nat) (hn:n=l.length) (hn2:n≤1000000) (hq:AxOK (n * 5) q) (hU:∀x ∈ l,U x) (lo hi f:Nat) (hlo:lo≤1000000) (hf:f+hi≤n) (hpp:Hp c f lo hi lo l) :
  Enters 217∧Spec prog 217 #[.slice (some ⟨bk,0,none⟩) n cap,.int .i64 (lo:Int),.int .i64 (hi:Int),.int .i64 (f:Int),.func (.func fv) #[] #[]] [Fc] [Ax 46 nmf bk l q]
   ⟨{l':List Nm // Win f (f+hi) l l'∧He c f lo hi l'},fun _=>.tuple #[],fun _=>True,fun _=>[],fun l'=>[Ax 46 nmf bk l'.1 q]⟩:=by
 refine ZM [_,_,_,_,_] func217 ntmps217 fun G w hp=>?_
 repeat' (first|refine ZE ?_|refine ZD ?_|refine ZL ?_|refine ZF ?_|refine ZS ?_|refine ZO ?_|refine ZV ?_|refine ZR (fun b=>?_)|refine ZX (fun b=>?_)|refine ZH ?_|refine ZB ?_|refine ZT ?_|refine ZZ ?_|refine Zf ?_|refine Za ?_|refine Zd ?_|refine Zj (fun b=>?_)|refine Zm (fun b=>?_)|refine Zk ?_|refine ZU ?_|(refine ZJ (fun hc=>?_) (fun hc=>?_)<;>(try simp at hc))|(refine ZP (fun hc=>?_) (fun hc=>?_)<;>(try simp at hc))|refine ZA 3 [] [(0,0),(1,0),(2,0),(3,0),(4,0),(5,0),(6,0),(7,0),(8,0),(9,0),(10,0),(11,0),(12,0),(13,0),(14,0),(15,0),(16,0),(17,0),(18,0),(19,4),(20,0),(21,0)] [] ?_|refine ZA 5 [] [(0,0),(1,0),(2,0),(3,0),(4,0),(5,0),(6,0),(7,0),(8,0),(9,0),(10,0),(11,0),(12,0),(13,4),(14,0),(15,0)] [] ?_|refine ZA 6 [] [(0,0),(1,0),(2,0),(3,0),(4,0),(5,0),(6,0),(7,0),(8,0),(9,0),(10,0),(11,0),(12,0),(13,0),(14,0),(15,0),(16,0),(17,0),(18,0),(19,0),(20,0),(21,4),(22,0)] [23] ?_|(refine ZG (fun hc=>?_) (fun hc=>?_)<;>(try simp at hc)))
 refine Z8 (X:={t:Nat×List Nm // lo≤t.1∧t.1≤1000000∧Win f (f+hi) l t.2∧Hp c f lo hi t.1 t.2∧Hq c f lo hi t.1 t.2}) (fun t=>[(0,.slice (some ⟨bk,0,none⟩) n cap),(2,.int .i64 (hi:Int)),(3,.int .i64 (f:Int)),(4,.func (.func fv) #[] #[]),(10,.int .i64 (t.1.1:Int))]) (fun _=>[Fc]) (fun t=>[Ax 46 nmf bk t.1.2 q]) (fun t=>hi - t.1.1)
  ⟨(lo,l),Nat.le_refl _,hlo,Win.refl,hpp,fun i j h1 h2 h3 h4=>by omega⟩ ⟨rfl,rfl,rfl,rfl,rfl,trivial⟩ ?_
 rintro ⟨⟨x,m⟩,h1,h2,h3,h4,h5⟩
 dsimp only at h1 h2 h3 h4 h5 ⊢
 have hl:=h3.len
 have w1:IntKind.i64.wrap (IntKind.i64.wrap (2 * (x:Int))+1)=((2 * x+1:Nat):Int):=by simp (disch:=omega) only [wrapi];omega
 have w2:IntKind.i64.wrap (((2 * x+1:Nat):Int)+1)=((2 * x+2:Nat):Int):=by simp (disch:=omega) only [wrapi];omega
 by_cases h0:2 * x+1<hi
 ·have hi0:f+x<n:=by omega
  have hi1:f+(2 * x+1)<n:=by omega
  have ki0:f+x<m.length:=by omega
  have ki1:f+(2 * x+1)<m.length:=by omega
  have hq1:AxOK (m.length * 5) q:=by rw [hl,←hn];exact hq
  have hUm:=h3.sub hU
  have hq2:∀y,AxOK ((m.set (f+x) y).length * 5) q:=fun y=>by rw [List.length_set];exact hq1
  have kx1:∀y,f+(2 * x+1)<(m.set (f+x) y).length:=fun y=>by rw [List.length_set];exact ki1
  have sp1:=hcmp (gt m (f+x)) (gt m (f+(2 * x+1))) (hUm _ (Zo ki0)) (hUm _ (Zo ki1))
  have fin:∀y,(y=2 * x+1∨y=2 * x+2)→y<hi→(∀z,(z=2 * x+1∨z=2 * x+2)→z<hi→¬c (gt m (f+y)) (gt m (f+z))<0)→
    (¬c (gt m (f+x)) (gt m (f+y))<0→He c f lo hi m)∧(c (gt m (f+x)) (gt m (f+y))<0→Win f (f+hi) l (sw m (f+x) (f+y))∧Hp c f lo hi y (sw m (f+x) (f+y))∧Hq c f lo hi y (sw m (f+x) (f+y))):=fun y hy hyh hmax=>
   ⟨fun hn=>h4.stop fun z hz hzh=>W.t _ _ _ (hmax z hz hzh) hn,fun hlt=>⟨h3.trans (Win.sw (by omega) (by omega) (by omega) (by omega) (by omega)),Hp.step W h4 h5 h1 hy hyh (by omega) hlt hmax⟩⟩
  by_cases h6:2 * x+2<hi
  ·have hi2:f+(2 * x+2)<n:=by omega
   have ki2:f+(2 * x+2)<m.length:=by omega
   have kx2:∀y,f+(2 * x+2)<(m.set (f+x) y).length:=fun y=>by rw [List.length_set];exact ki2
   have sp2:=hcmp (gt m (f+x)) (gt m (f+(2 * x+2))) (hUm _ (Zo ki0)) (hUm _ (Zo ki2))
   have sp3:=hcmp (gt m (f+(2 * x+1))) (gt m (f+(2 * x+2))) (hUm _ (Zo ki1)) (hUm _ (Zo ki2))
   by_cases h7:c (gt m (f+(2 * x+1))) (gt m (f+(2 * x+2)))<0
   ·obtain ⟨f1,f2⟩:=fin (2 * x+2) (.inr rfl) h6 (fun z hz hzh=>by
     rcases hz with rfl|rfl
     ·exact W.a _ _ h7
     ·exact W.i _)
    repeat' (first|refine ZE ?_|refine ZD ?_|refine ZL ?_|refine ZF ?_|refine ZS ?_|refine ZO ?_|refine ZV ?_|refine ZR (fun b=>?_)|refine ZX (fun b=>?_)|refine ZH ?_|refine ZB ?_|refine ZW ?_|refine ZT ?_|refine ZZ ?_|refine Zf ?_|refine Za ?_|refine Zd ?_|refine Zj (fun b=>?_)|refine Zm (fun b=>?_)|refine Zk ?_|refine ZU ?_|rw [w1]|rw [w2]|refine ZY (m:=n) (f+x) hi0 ?_|refine l_ixW (m:=n) (f+x) hi0 ?_|refine ZY (m:=n) (f+(2 * x+1)) hi1 ?_|refine l_ixW (m:=n) (f+(2 * x+1)) hi1 ?_|refine ZY (m:=n) (f+(2 * x+2)) hi2 ?_|refine l_ixW (m:=n) (f+(2 * x+2)) hi2 ?_|refine Zc 5 (f+x) 0 (ZI ki0) ?_|refine Zn 5 (f+x) 0 (ZI ki0) ?_|refine Zc 5 (f+(2 * x+1)) 0 (ZI ki1) ?_|refine Zn 5 (f+(2 * x+1)) 0 (ZI ki1) ?_|refine Zc 5 (f+(2 * x+2)) 0 (ZI ki2) ?_|refine Zn 5 (f+(2 * x+2)) 0 (ZI ki2) ?_|refine Ze 5 (f+x) 0 (ZI ki0) ?_|refine Ze 5 (f+(2 * x+1)) 0 (ZI ki1) ?_|refine Ze 5 (f+(2 * x+2)) 0 (ZI ki2) ?_|refine Z3 5 (f+x) 0 (gt m (f+(2 * x+2))) (ZI ki0) hq1 ?_|refine Zv 5 (f+x) 0 (gt m (f+(2 * x+2))) (ZI ki0) hq1 ?_|refine Zv 5 (f+(2 * x+2)) 0 (gt m (f+x)) (ZI (kx2 _)) (hq2 _) ?_|refine Zi sp3 (fun _ _=>?_)|refine Zi sp2 (fun _ _=>?_)|refine r_up ?_|(refine ZJ (fun hc=>?_) (fun hc=>?_)<;>(try simp at hc)<;>(try omega))|(refine ZP (fun hc=>?_) (fun hc=>?_)<;>(try simp at hc)<;>(try omega))|refine ZA 3 [] [(0,0),(1,0),(2,0),(3,0),(4,0),(5,0),(6,0),(7,0),(8,0),(9,0),(10,0),(11,0),(12,0),(13,0),(14,0),(15,0),(16,0),(17,0),(18,0),(19,4),(20,0),(21,0)] [] ?_|refine ZA 5 [] [(0,0),(1,0),(2,0),(3,0),(4,0),(5,0),(6,0),(7,0),(8,0),(9,0),(10,0),(11,0),(12,0),(13,4),(14,0),(15,0)] [] ?_|refine ZA 6 [Ax _ _ _ _ _] [(0,0),(1,0),(2,0),(3,0),(4,0),(5,0),(6,0),(7,0),(8,0),(9,0),(10,0),(11,0),(12,0),(14,0),(15,0),(16,0),(17,0),(18,0),(13,3),(19,3),(20,0),(21,4),(22,0)] [23] ?_|(refine ZG (fun hc=>?_) (fun hc=>?_)<;>(try simp at hc)<;>(try omega)))
    ·exact Ym (Yx (YD ⟨m,h3,f1 (by omega)⟩ rfl trivial))
    ·obtain ⟨g1,g2,g3⟩:=f2 (by omega)
     exact Zb ⟨(2 * x+2,sw m (f+x) (f+(2 * x+2))),by show lo≤2 * x+2;omega,by show 2 * x+2≤_;omega,g1,g2,g3⟩ (by show hi - (2 * x+2)<hi - x;omega) ⟨rfl,rfl,rfl,rfl,rfl,trivial⟩
   ·obtain ⟨f1,f2⟩:=fin (2 * x+1) (.inl rfl) h0 (fun z hz hzh=>by
     rcases hz with rfl|rfl
     ·exact W.i _
     ·exact h7)
    repeat' (first|refine ZE ?_|refine ZD ?_|refine ZL ?_|refine ZF ?_|refine ZS ?_|refine ZO ?_|refine ZV ?_|refine ZR (fun b=>?_)|refine ZX (fun b=>?_)|refine ZH ?_|refine ZB ?_|refine ZW ?_|refine ZT ?_|refine ZZ ?_|refine Zf ?_|refine Za ?_|refine Zd ?_|refine Zj (fun b=>?_)|refine Zm (fun b=>?_)|refine Zk ?_|refine ZU ?_|rw [w1]|rw [w2]|refine ZY (m:=n) (f+x) hi0 ?_|refine l_ixW (m:=n) (f+x) hi0 ?_|refine ZY (m:=n) (f+(2 * x+1)) hi1 ?_|refine l_ixW (m:=n) (f+(2 * x+1)) hi1 ?_|refine ZY (m:=n) (f+(2 * x+2)) hi2 ?_|refine l_ixW (m:=n) (f+(2 * x+2)) hi2 ?_|refine Zc 5 (f+x) 0 (ZI ki0) ?_|refine Zn 5 (f+x) 0 (ZI ki0) ?_|refine Zc 5 (f+(2 * x+1)) 0 (ZI ki1) ?_|refine Zn 5 (f+(2 * x+1)) 0 (ZI ki1) ?_|refine Zc 5 (f+(2 * x+2)) 0 (ZI ki2) ?_|refine Zn 5 (f+(2 * x+2)) 0 (ZI ki2) ?_|refine Ze 5 (f+x) 0 (ZI ki0) ?_|refine Ze 5 (f+(2 * x+1)) 0 (ZI ki1) ?_|refine Ze 5 (f+(2 * x+2)) 0 (ZI ki2) ?_|refine Z3 5 (f+x) 0 (gt m (f+(2 * x+1))) (ZI ki0) hq1 ?_|refine Zv 5 (f+x) 0 (gt m (f+(2 * x+1))) (ZI ki0) hq1 ?_|refine Zv 5 (f+(2 * x+1)) 0 (gt m (f+x)) (ZI (kx1 _)) (hq2 _) ?_|refine Zi sp3 (fun _ _=>?_)|refine Zi sp1 (fun _ _=>?_)|refine r_up ?_|(refine ZJ (fun hc=>?_) (fun hc=>?_)<;>(try simp at hc)<;>(try omega))|(refine ZP (fun hc=>?_) (fun hc=>?_)<;>(try simp at hc)<;>(try omega))|refine ZA 3 [] [(0,0),(1,0),(2,0),(3,0),(4,0),(5,0),(6,0),(7,0),(8,0),(9,0),(10,0),(11,0),(12,0),(13,0),(14,0),(15,0),(16,0),(17,0),(18,0),(19,4),(20,0),(21,0)] [] ?_|refine ZA 5 [] [(0,0),(1,0),(2,0),(3,0),(4,0),(5,0),(6,0),(7,0),(8,0),(9,0),(10,0),(11,0),(12,0),(13,4),(14,0),(15,0)] [] ?_|refine ZA 6 [Ax _ _ _ _ _] [(0,0),(1,0),(2,0),(3,0),(4,0),(5,0),(6,0),(7,0),(8,0),(9,0),(10,0),(11,0),(12,0),(14,0),(15,0),(16,0),(17,0),(18,0),(13,3),(19,3),(20,0),(21,4),(22,0)] [23] ?_|(refine ZG (fun hc=>?_) (fun hc=>?_)<;>(try simp at hc)<;>(try omega)))
    ·exact Ym (Yx (YD ⟨m,h3,f1 (by omega)⟩ rfl trivial))
    ·obtain ⟨g1,g2,g3⟩:=f2 (by omega)
     exact Zb ⟨(2 * x+1,sw m (f+x) (f+(2 * x+1))),by show lo≤2 * x+1;omega,by show 2 * x+1≤_;omega,g1,g2,g3⟩ (by show hi - (2 * x+1)<hi - x;omega) ⟨rfl,rfl,rfl,rfl,rfl,trivial⟩
  ·obtain ⟨f1,f2⟩:=fin (2 * x+1) (.inl rfl) h0 (fun z hz hzh=>by
    rcases hz with rfl|rfl
    ·exact W.i _
    ·omega)
   repeat' (first|refine ZE ?_|refine ZD ?_|refine ZL ?_|refine ZF ?_|refine ZS ?_|refine ZO ?_|refine ZV ?_|refine ZR (fun b=>?_)|refine ZX (fun b=>?_)|refine ZH ?_|refine ZB ?_|refine ZW ?_|refine ZT ?_|refine ZZ ?_|refine Zf ?_|refine Za ?_|refine Zd ?_|refine Zj (fun b=>?_)|refine Zm (fun b=>?_)|refine Zk ?_|refine ZU ?_|rw [w1]|rw [w2]|refine ZY (m:=n) (f+x) hi0 ?_|refine l_ixW (m:=n) (f+x) hi0 ?_|refine ZY (m:=n) (f+(2 * x+1)) hi1 ?_|refine l_ixW (m:=n) (f+(2 * x+1)) hi1 ?_|refine Zc 5 (f+x) 0 (ZI ki0) ?_|refine Zn 5 (f+x) 0 (ZI ki0) ?_|refine Zc 5 (f+(2 * x+1)) 0 (ZI ki1) ?_|refine Zn 5 (f+(2 * x+1)) 0 (ZI ki1) ?_|refine Ze 5 (f+x) 0 (ZI ki0) ?_|refine Ze 5 (f+(2 * x+1)) 0 (ZI ki1) ?_|refine Z3 5 (f+x) 0 (gt m (f+(2 * x+1))) (ZI ki0) hq1 ?_|refine Zv 5 (f+x) 0 (gt m (f+(2 * x+1))) (ZI ki0) hq1 ?_|refine Zv 5 (f+(2 * x+1)) 0 (gt m (f+x)) (ZI (kx1 _)) (hq2 _) ?_|refine Zi sp1 (fun _ _=>?_)|refine r_up ?_|(refine ZJ (fun hc=>?_) (fun hc=>?_)<;>(try simp at hc)<;>(try omega))|(refine ZP (fun hc=>?_) (fun hc=>?_)<;>(try simp at hc)<;>(try omega))|refine ZA 3 [] [(0,0),(1,0),(2,0),(3,0),(4,0),(5,0),(6,0),(7,0),(8,0),(9,0),(10,0),(11,0),(12,0),(13,0),(14,0),(15,0),(16,0),(17,0),(18,0),(19,4),(20,0),(21,0)] [] ?_|refine ZA 5 [] [(0,0),(1,0),(2,0),(3,0),(4,0),(5,0),(6,0),(7,0),(8,0),(9,0),(10,0),(11,0),(12,0),(13,4),(14,0),(15,0)] [] ?_|refine ZA 6 [Ax _ _ _ _ _] [(0,0),(1,0),(2,0),(3,0),(4,0),(5,0),(6,0),(7,0),(8,0),(9,0),(10,0),(11,0),(12,0),(14,0),(15,0),(16,0),(17,0),(18,0),(13,3),(19,3),(20,0),(21,4),(22,0)] [23] ?_|(refine ZG (fun hc=>?_) (fun hc=>?_)<;>(try simp at hc)<;>(try omega)))
   ·exact Ym (Yx (YD ⟨m,h3,f1 (by omega)⟩ rfl trivial))
   ·obtain ⟨g1,g2,g3⟩:=f2 (by omega)
    exact Zb ⟨(2 * x+1,sw m (f+x) (f+(2 * x+1))),by show lo≤2 * x+1;omega,by show 2 * x+1≤_;omega,g1,g2,g3⟩ (by show hi - (2 * x+1)<hi - x;omega) ⟨rfl,rfl,rfl,rfl,rfl,trivial⟩
 ·repeat' (first|refine ZE ?_|refine ZD ?_|refine ZL ?_|refine ZF ?_|refine ZS ?_|refine ZO ?_|refine ZV ?_|refine ZR (fun b=>?_)|refine ZX (fun b=>?_)|refine ZH ?_|refine ZB ?_|refine ZW ?_|rw [w1]|(refine ZJ (fun hc=>?_) (fun hc=>?_)<;>(try simp at hc)<;>(try omega))|(refine ZG (fun hc=>?_) (fun hc=>?_)<;>(try simp at hc)<;>(try omega)))
  exact Yc ⟨m,h3,h4.stop fun j h1 h2=>by omega⟩ rfl trivial
end
section
variable (bk cap:Nat) (q:List Value×(Nat×Nat)) (fv:FuncId) (Fc:Pf) (c:Nm→Nm→Int) (W:Wk0 c) (U:Nm→Prop) (hcmp:∀x y,U x→U y→Enters fv∧Spec prog fv #[x.v,y.v] [Fc] [] (RetV (.int .i64 (c x y))))
include hcmp W in
set_option maxHeartbeats 4000000 in
theorem heapN_ok (l:List Nm) (n:Nat) (hn:n=l.length) (hn2:n≤1000000) (hq:AxOK (n * 5) q) (hU:∀x ∈ l,U x) (a b:Nat) (hab:a<b) (hb:b≤n) :
  Enters 187∧Spec prog 187 #[.slice (some ⟨bk,0,none⟩) n cap,.int .i64 (a:Int),.int .i64 (b:Int),.func (.func fv) #[] #[]] [Fc] [Ax 46 nmf bk l q]
   ⟨{l':List Nm // Win a b l l'∧Sw c a b l'},fun _=>.tuple #[],fun _=>True,fun _=>[],fun l'=>[Ax 46 nmf bk l'.1 q]⟩:=by
 have w0:IntKind.i64.wrap ((b:Int) - (a:Int))=((b - a:Nat):Int):=by rw [wrapi (by omega) (by omega)];omega
 obtain ⟨N,hN⟩:∃N,N=b - a:=⟨_,rfl⟩
 rw [←hN] at w0
 have hbN:b=a+N:=by omega
 obtain ⟨p,hp⟩:∃p,p=(N - 1) / 2:=⟨_,rfl⟩
 have w1:IntKind.i64.wrap ((IntKind.i64.wrap ((N:Int) - 1)).tdiv 2)=(p:Int):=by
  rw [wrapi (z:=(N:Int) - 1) (by omega) (by omega)]
  have:((N:Int) - 1).tdiv 2=(p:Int):=by
   rw [show (N:Int) - 1=((N - 1:Nat):Int) by omega,hp];exact (Int.ofNat_tdiv _ _).symm
  rw [this,wrapi (by omega) (by omega)]
 refine ZM [_,_,_,_] func187 ntmps187 fun G w hp=>?_
 repeat' (first|refine ZE ?_|refine ZD ?_|refine ZL ?_|refine ZF ?_|refine ZS ?_|refine ZO ?_|refine ZV ?_|refine ZR (fun b=>?_)|refine ZX (fun b=>?_)|refine ZH ?_|refine ZB ?_|rw [w0]|rw [w1]|(refine ZJ (fun hc=>?_) (fun hc=>?_)<;>(try simp at hc))|(refine ZG (fun hc=>?_) (fun hc=>?_)<;>(try simp at hc)))
 refine Yw (Y:={m:List Nm // Win a b l m∧He c a 0 N m}) (X:={t:Nat×List Nm // t.1≤p+1∧Win a b l t.2∧He c a t.1 N t.2})
  (fun t=>[(0,.slice (some ⟨bk,0,none⟩) n cap),(3,.func (.func fv) #[] #[]),(8,.int .i64 (a:Int)),(9,.int .i64 0),(10,.int .i64 (N:Int)),(11,.int .i64 ((t.1.1:Int) - 1))]) (fun _=>[Fc]) (fun t=>[Ax 46 nmf bk t.1.2 q]) (fun t=>t.1.1)
  (fun _=>[(0,.slice (some ⟨bk,0,none⟩) n cap),(3,.func (.func fv) #[] #[]),(8,.int .i64 (a:Int)),(9,.int .i64 0),(10,.int .i64 (N:Int))]) (fun _=>[Fc]) (fun m=>[Ax 46 nmf bk m.1 q])
  ⟨(p+1,l),Nat.le_refl _,Win.refl,fun i j h1 h2 h3=>by omega⟩ ⟨rfl,rfl,rfl,rfl,rfl,(by show look _ _=some (Value.int .i64 (((p+1:Nat):Int) - 1));rw [show ((p+1:Nat):Int) - 1=(p:Int) by omega];rfl),trivial⟩ ?_ ?_
 rotate_left
 ·intro hx
  rintro ⟨⟨t,m⟩,h1,h2,h3⟩
  dsimp only at h1 h2 h3 ⊢
  have hl:=h2.len
  by_cases ht:t=0
  ·subst ht
   repeat' (first|refine ZE ?_|refine ZD ?_|refine ZL ?_|refine ZF ?_|refine ZS ?_|refine ZO ?_|refine ZV ?_|refine ZR (fun b=>?_)|refine ZX (fun b=>?_)|refine ZH ?_|refine ZB ?_|(refine ZJ (fun hc=>?_) (fun hc=>?_)<;>(try simp at hc)<;>(try omega))|(refine ZG (fun hc=>?_) (fun hc=>?_)<;>(try simp at hc)<;>(try omega)))
   exact Z2 hx ⟨m,h2,h3⟩ ⟨rfl,rfl,rfl,rfl,rfl,trivial⟩
  ·obtain ⟨i,rfl⟩:∃i,t=i+1:=⟨t - 1,by omega⟩
   have e1:((i+1:Nat):Int) - 1=(i:Int):=by omega
   have w2:IntKind.i64.wrap ((i:Int) - 1)=(i:Int) - 1:=wrapi (by omega) (by omega)
   have s1:=siftN_ok bk cap q fv Fc c W U hcmp m n (by omega) hn2 hq (h2.sub hU) i N a (by omega) (by omega) (fun i' j' g1 g2 g3 g4=>h3 i' j' (by omega) g2 g3)
   rw [e1]
   repeat' (first|refine ZE ?_|refine ZD ?_|refine ZL ?_|refine ZF ?_|refine ZS ?_|refine ZO ?_|refine ZV ?_|refine ZR (fun b=>?_)|refine ZX (fun b=>?_)|refine ZH ?_|refine ZB ?_|refine ZW ?_|refine ZC (s1) (fun _ _=>?_)|refine l_call0 (s1) (fun _ _=>?_)|rw [w2]|(refine ZJ (fun hc=>?_) (fun hc=>?_)<;>(try simp at hc)<;>(try omega))|(refine ZG (fun hc=>?_) (fun hc=>?_)<;>(try simp at hc)<;>(try omega)))
   rename_i l' _
   obtain ⟨l',g1,g2⟩:=l'
   exact Zb ⟨(i,l'),by show i≤p+1;omega,h2.trans (by rw [hbN];exact g1),g2⟩ (by show i<i+1;omega) ⟨rfl,rfl,rfl,rfl,rfl,rfl,trivial⟩
 rintro ⟨m,hm1,hm2⟩
 have w3:IntKind.i64.wrap ((N:Int) - 1)=(N:Int) - 1:=wrapi (by omega) (by omega)
 repeat' (first|refine ZE ?_|refine ZD ?_|refine ZL ?_|refine ZF ?_|refine ZS ?_|refine ZO ?_|refine ZV ?_|refine ZR (fun b=>?_)|refine ZX (fun b=>?_)|refine ZH ?_|refine ZB ?_|rw [w3]|(refine ZJ (fun hc=>?_) (fun hc=>?_)<;>(try simp at hc))|(refine ZG (fun hc=>?_) (fun hc=>?_)<;>(try simp at hc)))
 refine Z8 (X:={t:Nat×List Nm // t.1≤N∧Win a b l t.2∧Hs c a t.1 N t.2})
  (fun t=>[(0,.slice (some ⟨bk,0,none⟩) n cap),(3,.func (.func fv) #[] #[]),(8,.int .i64 (a:Int)),(9,.int .i64 0),(12,.int .i64 ((t.1.1:Int) - 1))]) (fun _=>[Fc]) (fun t=>[Ax 46 nmf bk t.1.2 q]) (fun t=>t.1.1)
  ⟨(N,m),Nat.le_refl _,hm1,Hs.init hm2 (Nat.le_refl _)⟩ ⟨rfl,rfl,rfl,rfl,rfl,trivial⟩ ?_
 rintro ⟨⟨t,m'⟩,h1,h2,h3⟩
 dsimp only at h1 h2 h3 ⊢
 have hl:=h2.len
 by_cases ht:t=0
 ·subst ht
  repeat' (first|refine ZE ?_|refine ZD ?_|refine ZL ?_|refine ZF ?_|refine ZS ?_|refine ZO ?_|refine ZV ?_|refine ZR (fun b=>?_)|refine ZX (fun b=>?_)|refine ZH ?_|refine ZB ?_|refine ZW ?_|(refine ZJ (fun hc=>?_) (fun hc=>?_)<;>(try simp at hc)<;>(try omega))|(refine ZG (fun hc=>?_) (fun hc=>?_)<;>(try simp at hc)<;>(try omega)))
  exact Yc ⟨m',h2,by rw [hbN];exact h3.done⟩ rfl trivial
 ·obtain ⟨i,rfl⟩:∃i,t=i+1:=⟨t - 1,by omega⟩
  have e1:((i+1:Nat):Int) - 1=(i:Int):=by omega
  have w2:IntKind.i64.wrap ((i:Int) - 1)=(i:Int) - 1:=wrapi (by omega) (by omega)
  have hi:a<n:=by omega
  have hj:a+i<n:=by omega
  have ki:a<m'.length:=by omega
  have kj:a+i<m'.length:=by omega
  have kj2:a+i<(m'.set a (gt m' (a+i))).length:=by rw [List.length_set];exact kj
  have hq1:AxOK (m'.length * 5) q:=by rw [hl,←hn];exact hq
  have hq2:AxOK ((m'.set a (gt m' (a+i))).length * 5) q:=by rw [List.length_set];exact hq1
  have hsw:Win a b l (sw m' a (a+i)):=h2.trans (Win.sw (by omega) hab (by omega) (by omega) (by omega))
  have s1:=siftN_ok bk cap q fv Fc c W U hcmp (sw m' a (a+i)) n (by rw [sw_len];omega) hn2 hq (hsw.sub hU) 0 i a (by omega) (by omega) (fun i' j' g1 g2 g3 g4=>by
   rw [WG ki kj,WG ki kj,if_neg (by omega),if_neg (by omega),if_neg (by omega),if_neg (by omega)]
   exact h3.he i' j' g1 g2 (by omega))
  rw [e1]
  repeat' (first|refine ZE ?_|refine ZD ?_|refine ZL ?_|refine ZF ?_|refine ZS ?_|refine ZO ?_|refine ZV ?_|refine ZR (fun b=>?_)|refine ZX (fun b=>?_)|refine ZH ?_|refine ZB ?_|refine ZW ?_|refine ZT ?_|refine ZZ ?_|refine Zf ?_|refine Za ?_|refine Zd ?_|refine Zj (fun b=>?_)|refine Zm (fun b=>?_)|refine Zk ?_|refine ZU ?_|refine ZC (s1) (fun _ _=>?_)|refine l_call0 (s1) (fun _ _=>?_)|refine ZN (s1) (fun _ _=>?_)|refine ZY (m:=n) (a) hi ?_|refine l_ixW (m:=n) (a) hi ?_|refine ZY (m:=n) (a+i) hj ?_|refine l_ixW (m:=n) (a+i) hj ?_|refine Ze 5 (a) 0 (ZI ki) ?_|refine Ze 5 (a+i) 0 (ZI kj) ?_|refine Z3 5 (a) 0 (gt m' (a+i)) (ZI ki) hq1 ?_|refine Zv 5 (a) 0 (gt m' (a+i)) (ZI ki) hq1 ?_|refine Zv 5 (a+i) 0 (gt m' (a)) (ZI kj2) hq2 ?_|rw [w2]|refine r_up ?_|(refine ZJ (fun hc=>?_) (fun hc=>?_)<;>(try simp at hc)<;>(try omega))|(refine ZP (fun hc=>?_) (fun hc=>?_)<;>(try simp at hc)<;>(try omega))|refine ZA 10 [Ax _ _ _ _ _] [(0,0),(1,0),(2,0),(3,0),(4,0),(5,0),(6,0),(7,0),(8,0),(9,0),(10,0),(12,0),(13,0),(14,0),(11,3),(15,3),(16,0),(17,4),(18,0)] [19] ?_|(refine ZG (fun hc=>?_) (fun hc=>?_)<;>(try simp at hc)<;>(try omega)))
  rename_i l' _
  obtain ⟨l',g1,g2⟩:=l'
  exact Zb ⟨(i,l'),by show i≤N;omega,hsw.trans (g1.mono (Nat.le_refl _) (by omega)),h3.pop W (by omega) (by omega) g1 g2⟩ (by show i<i+1;omega) ⟨rfl,rfl,rfl,rfl,rfl,trivial⟩
end
section
variable (bk cap:Nat) (q:List Value×(Nat×Nat)) (fv:FuncId) (Fc:Pf) (c:Nm→Nm→Int) (W:Wk0 c) (U:Nm→Prop) (hcmp:∀x y,U x→U y→Enters fv∧Spec prog fv #[x.v,y.v] [Fc] [] (RetV (.int .i64 (c x y))))
include hcmp in
set_option maxHeartbeats 8000000 in
theorem partN_ok (l:List Nm) (n:Nat) (hn:n=l.length) (hn2:n≤1000000) (hq:AxOK (n * 5) q) (hU:∀x ∈ l,U x) (a bb p:Nat) (hab:a+12<bb) (hb:bb≤n) (hp1:a≤p) (hp2:p<bb) :
  Enters 193∧Spec prog 193 #[.slice (some ⟨bk,0,none⟩) n cap,.int .i64 (a:Int),.int .i64 (bb:Int),.int .i64 (p:Int),.func (.func fv) #[] #[]] [Fc] [Ax 46 nmf bk l q]
   ⟨{t:Nat×Bool×List Nm // Win a bb l t.2.2∧Pt0 c a bb t.1 t.2.2},fun t=>.tuple #[.int .i64 (t.1.1:Int),.bool t.1.2.1],fun _=>True,fun _=>[],fun t=>[Ax 46 nmf bk t.1.2.2 q]⟩:=by
 have w0:IntKind.i64.wrap ((a:Int)+1)=((a+1:Nat):Int):=by simp (disch:=omega) only [wrapi];omega
 have w1:IntKind.i64.wrap ((bb:Int) - 1)=((bb - 1:Nat):Int):=by simp (disch:=omega) only [wrapi];omega
 have wi:∀i,i<n→IntKind.i64.wrap ((i:Int)+1)=((i+1:Nat):Int):=fun i hi=>by simp (disch:=omega) only [wrapi];omega
 have wj:∀j,0<j→j<n→IntKind.i64.wrap ((j:Int) - 1)=((j - 1:Nat):Int):=fun j h0 hi=>by simp (disch:=omega) only [wrapi];omega
 have hia:a<n:=by omega
 have hip:p<n:=by omega
 have kia:a<l.length:=by omega
 have kip:p<l.length:=by omega
 have kip2:p<(l.set a (gt l p)).length:=by rw [List.length_set];exact kip
 have hql:AxOK (l.length * 5) q:=by rw [←hn];exact hq
 have hql2:AxOK ((l.set a (gt l p)).length * 5) q:=by rw [List.length_set];exact hql
 have hUP:U (gt l p):=hU _ (Zo kip)
 have hin0:=fun A:Nm→Prop=>Pin.init (A:=A) (l:=l) (a:=a) (b:=bb) hp1 hp2 (by omega) (by omega)
 obtain ⟨P,hP⟩:∃P,P=gt l p:=⟨_,rfl⟩
 rw [←hP] at hUP hin0
 obtain ⟨m,hm0⟩:∃m,m=sw l a p:=⟨_,rfl⟩
 rw [←hm0] at hin0
 have hin:=hin0 (fun x=>c x P<0)
 clear hin0
 refine ZM [_,_,_,_,_] func193 ntmps193 fun G w hp=>?_
 repeat' (first|refine ZE ?_|refine ZD ?_|refine ZL ?_|refine ZF ?_|refine ZS ?_|refine ZO ?_|refine ZV ?_|refine ZR (fun b=>?_)|refine ZX (fun b=>?_)|refine ZH ?_|refine ZB ?_|refine ZT ?_|refine ZZ ?_|refine Zf ?_|refine Za ?_|refine Zd ?_|refine Zj (fun b=>?_)|refine Zm (fun b=>?_)|refine Zk ?_|refine ZU ?_|refine ZY (m:=n) (a) hia ?_|refine l_ixW (m:=n) (a) hia ?_|refine ZY (m:=n) (p) hip ?_|refine l_ixW (m:=n) (p) hip ?_|refine Ze 5 (a) 0 (ZI kia) ?_|refine Ze 5 (p) 0 (ZI kip) ?_|refine Z3 5 (a) 0 (gt l (p)) (ZI kia) hql ?_|refine Zv 5 (a) 0 (gt l (p)) (ZI kia) hql ?_|refine Zv 5 (p) 0 (gt l (a)) (ZI kip2) hql2 ?_|rw [w0]|rw [w1]|refine r_up ?_|(refine ZJ (fun hc=>?_) (fun hc=>?_)<;>(try simp at hc))|(refine ZP (fun hc=>?_) (fun hc=>?_)<;>(try simp at hc))|refine ZA 1 [Ax _ _ _ _ _] [(0,0),(1,0),(2,0),(3,0),(4,0),(5,0),(6,0),(8,0),(9,0),(10,0),(7,3),(11,3),(12,0),(13,4),(14,0)] [15] ?_|(refine ZG (fun hc=>?_) (fun hc=>?_)<;>(try simp at hc)))
 refine k_ax m hm0.symm ?_
 clear hm0 kip2 hql2
 obtain ⟨jz,hjz⟩:∃jz,jz=(bb - 1):=⟨_,rfl⟩
 rw [←hjz] at hin
 have hm:=hin.w.len
 have ga:m[a]? = some P:=by rw [←hin.pa];exact ZI (by omega)
 have hUm:=hin.w.sub hU
 refine Yw (Y:={i:Nat // (a+1)≤i∧Pin (fun x=>c x P<0) a bb i jz P l m∧(i≤jz→¬(fun x=>c x P<0) (gt m i))}) (X:={i:Nat // (a+1)≤i∧Pin (fun x=>c x P<0) a bb i jz P l m}) (fun i=>[(0,.slice (some ⟨bk,0,none⟩) n cap),(1,.int .i64 (a:Int)),(4,.func (.func fv) #[] #[]),(12,.int .i64 ((i.1:Nat):Int)),(13,.int .i64 ((jz:Nat):Int))]) (fun _=>[Fc]) (fun _=>[Ax 46 nmf bk m q]) (fun i=>bb+1 - i.1) (fun i=>[(0,.slice (some ⟨bk,0,none⟩) n cap),(1,.int .i64 (a:Int)),(4,.func (.func fv) #[] #[]),(12,.int .i64 ((i.1:Nat):Int)),(13,.int .i64 ((jz:Nat):Int))]) (fun _=>[Fc]) (fun _=>[Ax 46 nmf bk m q]) ⟨(a+1),Nat.le_refl _,hin⟩ ⟨rfl,rfl,rfl,rfl,(by show look _ _=some (Value.int .i64 ((jz:Nat):Int));rw [hjz];rfl),trivial⟩ ?_ ?_
 rotate_left
 ·intro hx
  rintro ⟨i,hi0,hp⟩
  dsimp only at hi0 hp ⊢
  have k1:=hp.h1
  have k2:=hp.h2
  have k3:=hp.h3
  generalize jz=j at *
  by_cases hij:i≤j
  ·have hi:i<n:=by omega
   have hj:j<n:=by omega
   have ha:a<n:=by omega
   have gi:m[i]? = some (gt m i):=ZI (by omega)
   have gj:m[j]? = some (gt m j):=ZI (by omega)
   have sp:=hcmp (gt m i) P (hUm _ (Zo (by omega))) hUP
   by_cases hA:c (gt m i) P<0
   ·repeat' (first|refine ZE ?_|refine ZD ?_|refine ZL ?_|refine ZF ?_|refine ZS ?_|refine ZO ?_|refine ZV ?_|refine ZR (fun b=>?_)|refine ZX (fun b=>?_)|refine ZH ?_|refine ZB ?_|refine ZT ?_|refine ZZ ?_|refine Zf ?_|refine Za ?_|refine Zd ?_|refine Zj (fun b=>?_)|refine Zm (fun b=>?_)|refine Zk ?_|refine ZU ?_|rw [wi i hi]|rw [wj j (by omega) hj]|refine ZY (m:=n) (i) hi ?_|refine l_ixW (m:=n) (i) hi ?_|refine ZY (m:=n) (a) ha ?_|refine l_ixW (m:=n) (a) ha ?_|refine Zc 5 (i) 0 gi ?_|refine Zn 5 (i) 0 gi ?_|refine Zc 5 (a) 0 ga ?_|refine Zn 5 (a) 0 ga ?_|refine Zi sp (fun _ _=>?_)|(refine ZJ (fun hc=>?_) (fun hc=>?_)<;>(try simp at hc)<;>(try omega))|(refine ZP (fun hc=>?_) (fun hc=>?_)<;>(try simp at hc)<;>(try omega))|refine ZA 1 [] [(0,0),(1,0),(2,0),(3,0),(4,0),(5,0),(6,0),(7,0),(8,0),(9,0),(10,0),(11,0),(12,0),(13,4),(14,0)] [15] ?_|refine ZA 3 [] [(0,0),(1,0),(2,0),(3,0),(4,0),(5,0),(6,0),(7,0),(8,0),(9,0),(10,0),(11,0),(12,0),(13,4),(14,0),(15,0)] [] ?_|refine ZA 5 [] [(0,0),(1,0),(2,0),(3,0),(4,0),(5,0),(6,0),(7,0),(8,0),(9,0),(10,0),(11,0),(12,0),(13,4),(14,0),(15,0),(16,0)] [] ?_|refine ZA 8 [] [(0,0),(1,0),(2,0),(3,0),(4,0),(5,0),(6,0),(7,0),(8,0),(9,0),(10,0),(11,0),(12,0),(13,4),(14,0)] [15] ?_|refine ZA 10 [] [(0,0),(1,0),(2,0),(3,0),(4,0),(5,0),(6,0),(7,0),(8,0),(9,0),(10,0),(11,0),(12,0),(13,4),(14,0)] [15] ?_|refine ZA 13 [] [(0,0),(1,0),(2,0),(3,0),(4,0),(5,0),(6,0),(7,0),(8,0),(9,0),(10,0),(11,0),(12,0),(13,4),(14,0),(15,0)] [] ?_|refine ZA 15 [] [(0,0),(1,0),(2,0),(3,0),(4,0),(5,0),(6,0),(7,0),(8,0),(9,0),(10,0),(11,0),(12,0),(13,4),(14,0),(15,0),(16,0)] [] ?_|refine ZA 18 [] [(0,0),(1,0),(2,0),(3,0),(4,0),(5,0),(6,0),(7,0),(8,0),(9,0),(10,0),(11,0),(12,0),(13,4),(14,0)] [15] ?_|refine ZA 21 [] [(0,0),(1,0),(2,0),(3,0),(4,0),(5,0),(6,0),(7,0),(8,0),(9,0),(10,0),(11,0),(12,0),(13,4),(14,0)] [15] ?_|(refine ZG (fun hc=>?_) (fun hc=>?_)<;>(try simp at hc)<;>(try omega)))
    exact Zb ⟨i+1,by omega,hp.ii hij (hA)⟩ (by show bb+1 - (i+1)<bb+1 - i;omega) ⟨rfl,rfl,rfl,rfl,rfl,trivial⟩
   ·repeat' (first|refine ZE ?_|refine ZD ?_|refine ZL ?_|refine ZF ?_|refine ZS ?_|refine ZO ?_|refine ZV ?_|refine ZR (fun b=>?_)|refine ZX (fun b=>?_)|refine ZH ?_|refine ZB ?_|refine ZT ?_|refine ZZ ?_|refine Zf ?_|refine Za ?_|refine Zd ?_|refine Zj (fun b=>?_)|refine Zm (fun b=>?_)|refine Zk ?_|refine ZU ?_|rw [wi i hi]|rw [wj j (by omega) hj]|refine ZY (m:=n) (i) hi ?_|refine l_ixW (m:=n) (i) hi ?_|refine ZY (m:=n) (a) ha ?_|refine l_ixW (m:=n) (a) ha ?_|refine Zc 5 (i) 0 gi ?_|refine Zn 5 (i) 0 gi ?_|refine Zc 5 (a) 0 ga ?_|refine Zn 5 (a) 0 ga ?_|refine Zi sp (fun _ _=>?_)|(refine ZJ (fun hc=>?_) (fun hc=>?_)<;>(try simp at hc)<;>(try omega))|(refine ZP (fun hc=>?_) (fun hc=>?_)<;>(try simp at hc)<;>(try omega))|refine ZA 1 [] [(0,0),(1,0),(2,0),(3,0),(4,0),(5,0),(6,0),(7,0),(8,0),(9,0),(10,0),(11,0),(12,0),(13,4),(14,0)] [15] ?_|refine ZA 3 [] [(0,0),(1,0),(2,0),(3,0),(4,0),(5,0),(6,0),(7,0),(8,0),(9,0),(10,0),(11,0),(12,0),(13,4),(14,0),(15,0)] [] ?_|refine ZA 5 [] [(0,0),(1,0),(2,0),(3,0),(4,0),(5,0),(6,0),(7,0),(8,0),(9,0),(10,0),(11,0),(12,0),(13,4),(14,0),(15,0),(16,0)] [] ?_|refine ZA 8 [] [(0,0),(1,0),(2,0),(3,0),(4,0),(5,0),(6,0),(7,0),(8,0),(9,0),(10,0),(11,0),(12,0),(13,4),(14,0)] [15] ?_|refine ZA 10 [] [(0,0),(1,0),(2,0),(3,0),(4,0),(5,0),(6,0),(7,0),(8,0),(9,0),(10,0),(11,0),(12,0),(13,4),(14,0)] [15] ?_|refine ZA 13 [] [(0,0),(1,0),(2,0),(3,0),(4,0),(5,0),(6,0),(7,0),(8,0),(9,0),(10,0),(11,0),(12,0),(13,4),(14,0),(15,0)] [] ?_|refine ZA 15 [] [(0,0),(1,0),(2,0),(3,0),(4,0),(5,0),(6,0),(7,0),(8,0),(9,0),(10,0),(11,0),(12,0),(13,4),(14,0),(15,0),(16,0)] [] ?_|refine ZA 18 [] [(0,0),(1,0),(2,0),(3,0),(4,0),(5,0),(6,0),(7,0),(8,0),(9,0),(10,0),(11,0),(12,0),(13,4),(14,0)] [15] ?_|refine ZA 21 [] [(0,0),(1,0),(2,0),(3,0),(4,0),(5,0),(6,0),(7,0),(8,0),(9,0),(10,0),(11,0),(12,0),(13,4),(14,0)] [15] ?_|(refine ZG (fun hc=>?_) (fun hc=>?_)<;>(try simp at hc)<;>(try omega)))
    exact Z2 hx ⟨i,by omega,hp,fun _=>(hA)⟩ ⟨rfl,rfl,rfl,rfl,rfl,trivial⟩
  ·repeat' (first|refine ZE ?_|refine ZD ?_|refine ZL ?_|refine ZF ?_|refine ZS ?_|refine ZO ?_|refine ZV ?_|refine ZR (fun b=>?_)|refine ZX (fun b=>?_)|refine ZH ?_|refine ZB ?_|refine ZT ?_|refine ZZ ?_|refine Zf ?_|refine Za ?_|refine Zd ?_|refine Zj (fun b=>?_)|refine Zm (fun b=>?_)|refine Zk ?_|refine ZU ?_|(refine ZJ (fun hc=>?_) (fun hc=>?_)<;>(try simp at hc)<;>(try omega))|(refine ZP (fun hc=>?_) (fun hc=>?_)<;>(try simp at hc)<;>(try omega))|refine ZA 1 [] [(0,0),(1,0),(2,0),(3,0),(4,0),(5,0),(6,0),(7,0),(8,0),(9,0),(10,0),(11,0),(12,0),(13,4),(14,0)] [15] ?_|refine ZA 3 [] [(0,0),(1,0),(2,0),(3,0),(4,0),(5,0),(6,0),(7,0),(8,0),(9,0),(10,0),(11,0),(12,0),(13,4),(14,0),(15,0)] [] ?_|refine ZA 5 [] [(0,0),(1,0),(2,0),(3,0),(4,0),(5,0),(6,0),(7,0),(8,0),(9,0),(10,0),(11,0),(12,0),(13,4),(14,0),(15,0),(16,0)] [] ?_|refine ZA 8 [] [(0,0),(1,0),(2,0),(3,0),(4,0),(5,0),(6,0),(7,0),(8,0),(9,0),(10,0),(11,0),(12,0),(13,4),(14,0)] [15] ?_|refine ZA 10 [] [(0,0),(1,0),(2,0),(3,0),(4,0),(5,0),(6,0),(7,0),(8,0),(9,0),(10,0),(11,0),(12,0),(13,4),(14,0)] [15] ?_|refine ZA 13 [] [(0,0),(1,0),(2,0),(3,0),(4,0),(5,0),(6,0),(7,0),(8,0),(9,0),(10,0),(11,0),(12,0),(13,4),(14,0),(15,0)] [] ?_|refine ZA 15 [] [(0,0),(1,0),(2,0),(3,0),(4,0),(5,0),(6,0),(7,0),(8,0),(9,0),(10,0),(11,0),(12,0),(13,4),(14,0),(15,0),(16,0)] [] ?_|refine ZA 18 [] [(0,0),(1,0),(2,0),(3,0),(4,0),(5,0),(6,0),(7,0),(8,0),(9,0),(10,0),(11,0),(12,0),(13,4),(14,0)] [15] ?_|refine ZA 21 [] [(0,0),(1,0),(2,0),(3,0),(4,0),(5,0),(6,0),(7,0),(8,0),(9,0),(10,0),(11,0),(12,0),(13,4),(14,0)] [15] ?_|(refine ZG (fun hc=>?_) (fun hc=>?_)<;>(try simp at hc)<;>(try omega)))
   exact Z2 hx ⟨i,by omega,hp,fun h=>absurd h hij⟩ ⟨rfl,rfl,rfl,rfl,rfl,trivial⟩
 rintro ⟨i,hi0,hp0,hAi⟩
 dsimp only at hi0 hp0 hAi ⊢
 refine Yw (Y:={j:Nat // j≤jz∧Pin (fun x=>c x P<0) a bb i j P l m∧(i≤j→(fun x=>c x P<0) (gt m j))}) (X:={j:Nat // j≤jz∧Pin (fun x=>c x P<0) a bb i j P l m}) (fun j=>[(0,.slice (some ⟨bk,0,none⟩) n cap),(1,.int .i64 (a:Int)),(4,.func (.func fv) #[] #[]),(12,.int .i64 ((i:Nat):Int)),(13,.int .i64 ((j.1:Nat):Int))]) (fun _=>[Fc]) (fun _=>[Ax 46 nmf bk m q]) (fun j=>j.1) (fun j=>[(0,.slice (some ⟨bk,0,none⟩) n cap),(1,.int .i64 (a:Int)),(4,.func (.func fv) #[] #[]),(12,.int .i64 ((i:Nat):Int)),(13,.int .i64 ((j.1:Nat):Int))]) (fun _=>[Fc]) (fun _=>[Ax 46 nmf bk m q]) ⟨jz,Nat.le_refl _,hp0⟩ ⟨rfl,rfl,rfl,rfl,rfl,trivial⟩ ?_ ?_
 rotate_left
 ·intro hx
  rintro ⟨j,hj0,hp⟩
  dsimp only at hj0 hp ⊢
  have k1:=hp.h1
  have k2:=hp.h2
  have k3:=hp.h3
  by_cases hij:i≤j
  ·have hi:i<n:=by omega
   have hj:j<n:=by omega
   have ha:a<n:=by omega
   have gi:m[i]? = some (gt m i):=ZI (by omega)
   have gj:m[j]? = some (gt m j):=ZI (by omega)
   have sp:=hcmp (gt m j) P (hUm _ (Zo (by omega))) hUP
   by_cases hA:c (gt m j) P<0
   ·repeat' (first|refine ZE ?_|refine ZD ?_|refine ZL ?_|refine ZF ?_|refine ZS ?_|refine ZO ?_|refine ZV ?_|refine ZR (fun b=>?_)|refine ZX (fun b=>?_)|refine ZH ?_|refine ZB ?_|refine ZT ?_|refine ZZ ?_|refine Zf ?_|refine Za ?_|refine Zd ?_|refine Zj (fun b=>?_)|refine Zm (fun b=>?_)|refine Zk ?_|refine ZU ?_|rw [wi i hi]|rw [wj j (by omega) hj]|refine ZY (m:=n) (j) hj ?_|refine l_ixW (m:=n) (j) hj ?_|refine ZY (m:=n) (a) ha ?_|refine l_ixW (m:=n) (a) ha ?_|refine Zc 5 (j) 0 gj ?_|refine Zn 5 (j) 0 gj ?_|refine Zc 5 (a) 0 ga ?_|refine Zn 5 (a) 0 ga ?_|refine Zi sp (fun _ _=>?_)|(refine ZJ (fun hc=>?_) (fun hc=>?_)<;>(try simp at hc)<;>(try omega))|(refine ZP (fun hc=>?_) (fun hc=>?_)<;>(try simp at hc)<;>(try omega))|refine ZA 1 [] [(0,0),(1,0),(2,0),(3,0),(4,0),(5,0),(6,0),(7,0),(8,0),(9,0),(10,0),(11,0),(12,0),(13,4),(14,0)] [15] ?_|refine ZA 3 [] [(0,0),(1,0),(2,0),(3,0),(4,0),(5,0),(6,0),(7,0),(8,0),(9,0),(10,0),(11,0),(12,0),(13,4),(14,0),(15,0)] [] ?_|refine ZA 5 [] [(0,0),(1,0),(2,0),(3,0),(4,0),(5,0),(6,0),(7,0),(8,0),(9,0),(10,0),(11,0),(12,0),(13,4),(14,0),(15,0),(16,0)] [] ?_|refine ZA 8 [] [(0,0),(1,0),(2,0),(3,0),(4,0),(5,0),(6,0),(7,0),(8,0),(9,0),(10,0),(11,0),(12,0),(13,4),(14,0)] [15] ?_|refine ZA 10 [] [(0,0),(1,0),(2,0),(3,0),(4,0),(5,0),(6,0),(7,0),(8,0),(9,0),(10,0),(11,0),(12,0),(13,4),(14,0)] [15] ?_|refine ZA 13 [] [(0,0),(1,0),(2,0),(3,0),(4,0),(5,0),(6,0),(7,0),(8,0),(9,0),(10,0),(11,0),(12,0),(13,4),(14,0),(15,0)] [] ?_|refine ZA 15 [] [(0,0),(1,0),(2,0),(3,0),(4,0),(5,0),(6,0),(7,0),(8,0),(9,0),(10,0),(11,0),(12,0),(13,4),(14,0),(15,0),(16,0)] [] ?_|refine ZA 18 [] [(0,0),(1,0),(2,0),(3,0),(4,0),(5,0),(6,0),(7,0),(8,0),(9,0),(10,0),(11,0),(12,0),(13,4),(14,0)] [15] ?_|refine ZA 21 [] [(0,0),(1,0),(2,0),(3,0),(4,0),(5,0),(6,0),(7,0),(8,0),(9,0),(10,0),(11,0),(12,0),(13,4),(14,0)] [15] ?_|(refine ZG (fun hc=>?_) (fun hc=>?_)<;>(try simp at hc)<;>(try omega)))
    exact Z2 hx ⟨j,by omega,hp,fun _=>(hA)⟩ ⟨rfl,rfl,rfl,rfl,rfl,trivial⟩
   ·repeat' (first|refine ZE ?_|refine ZD ?_|refine ZL ?_|refine ZF ?_|refine ZS ?_|refine ZO ?_|refine ZV ?_|refine ZR (fun b=>?_)|refine ZX (fun b=>?_)|refine ZH ?_|refine ZB ?_|refine ZT ?_|refine ZZ ?_|refine Zf ?_|refine Za ?_|refine Zd ?_|refine Zj (fun b=>?_)|refine Zm (fun b=>?_)|refine Zk ?_|refine ZU ?_|rw [wi i hi]|rw [wj j (by omega) hj]|refine ZY (m:=n) (j) hj ?_|refine l_ixW (m:=n) (j) hj ?_|refine ZY (m:=n) (a) ha ?_|refine l_ixW (m:=n) (a) ha ?_|refine Zc 5 (j) 0 gj ?_|refine Zn 5 (j) 0 gj ?_|refine Zc 5 (a) 0 ga ?_|refine Zn 5 (a) 0 ga ?_|refine Zi sp (fun _ _=>?_)|(refine ZJ (fun hc=>?_) (fun hc=>?_)<;>(try simp at hc)<;>(try omega))|(refine ZP (fun hc=>?_) (fun hc=>?_)<;>(try simp at hc)<;>(try omega))|refine ZA 1 [] [(0,0),(1,0),(2,0),(3,0),(4,0),(5,0),(6,0),(7,0),(8,0),(9,0),(10,0),(11,0),(12,0),(13,4),(14,0)] [15] ?_|refine ZA 3 [] [(0,0),(1,0),(2,0),(3,0),(4,0),(5,0),(6,0),(7,0),(8,0),(9,0),(10,0),(11,0),(12,0),(13,4),(14,0),(15,0)] [] ?_|refine ZA 5 [] [(0,0),(1,0),(2,0),(3,0),(4,0),(5,0),(6,0),(7,0),(8,0),(9,0),(10,0),(11,0),(12,0),(13,4),(14,0),(15,0),(16,0)] [] ?_|refine ZA 8 [] [(0,0),(1,0),(2,0),(3,0),(4,0),(5,0),(6,0),(7,0),(8,0),(9,0),(10,0),(11,0),(12,0),(13,4),(14,0)] [15] ?_|refine ZA 10 [] [(0,0),(1,0),(2,0),(3,0),(4,0),(5,0),(6,0),(7,0),(8,0),(9,0),(10,0),(11,0),(12,0),(13,4),(14,0)] [15] ?_|refine ZA 13 [] [(0,0),(1,0),(2,0),(3,0),(4,0),(5,0),(6,0),(7,0),(8,0),(9,0),(10,0),(11,0),(12,0),(13,4),(14,0),(15,0)] [] ?_|refine ZA 15 [] [(0,0),(1,0),(2,0),(3,0),(4,0),(5,0),(6,0),(7,0),(8,0),(9,0),(10,0),(11,0),(12,0),(13,4),(14,0),(15,0),(16,0)] [] ?_|refine ZA 18 [] [(0,0),(1,0),(2,0),(3,0),(4,0),(5,0),(6,0),(7,0),(8,0),(9,0),(10,0),(11,0),(12,0),(13,4),(14,0)] [15] ?_|refine ZA 21 [] [(0,0),(1,0),(2,0),(3,0),(4,0),(5,0),(6,0),(7,0),(8,0),(9,0),(10,0),(11,0),(12,0),(13,4),(14,0)] [15] ?_|(refine ZG (fun hc=>?_) (fun hc=>?_)<;>(try simp at hc)<;>(try omega)))
    exact Zb ⟨j - 1,by omega,hp.jj hij (hA)⟩ (by show j - 1<j;omega) ⟨rfl,rfl,rfl,rfl,rfl,trivial⟩
  ·repeat' (first|refine ZE ?_|refine ZD ?_|refine ZL ?_|refine ZF ?_|refine ZS ?_|refine ZO ?_|refine ZV ?_|refine ZR (fun b=>?_)|refine ZX (fun b=>?_)|refine ZH ?_|refine ZB ?_|refine ZT ?_|refine ZZ ?_|refine Zf ?_|refine Za ?_|refine Zd ?_|refine Zj (fun b=>?_)|refine Zm (fun b=>?_)|refine Zk ?_|refine ZU ?_|(refine ZJ (fun hc=>?_) (fun hc=>?_)<;>(try simp at hc)<;>(try omega))|(refine ZP (fun hc=>?_) (fun hc=>?_)<;>(try simp at hc)<;>(try omega))|refine ZA 1 [] [(0,0),(1,0),(2,0),(3,0),(4,0),(5,0),(6,0),(7,0),(8,0),(9,0),(10,0),(11,0),(12,0),(13,4),(14,0)] [15] ?_|refine ZA 3 [] [(0,0),(1,0),(2,0),(3,0),(4,0),(5,0),(6,0),(7,0),(8,0),(9,0),(10,0),(11,0),(12,0),(13,4),(14,0),(15,0)] [] ?_|refine ZA 5 [] [(0,0),(1,0),(2,0),(3,0),(4,0),(5,0),(6,0),(7,0),(8,0),(9,0),(10,0),(11,0),(12,0),(13,4),(14,0),(15,0),(16,0)] [] ?_|refine ZA 8 [] [(0,0),(1,0),(2,0),(3,0),(4,0),(5,0),(6,0),(7,0),(8,0),(9,0),(10,0),(11,0),(12,0),(13,4),(14,0)] [15] ?_|refine ZA 10 [] [(0,0),(1,0),(2,0),(3,0),(4,0),(5,0),(6,0),(7,0),(8,0),(9,0),(10,0),(11,0),(12,0),(13,4),(14,0)] [15] ?_|refine ZA 13 [] [(0,0),(1,0),(2,0),(3,0),(4,0),(5,0),(6,0),(7,0),(8,0),(9,0),(10,0),(11,0),(12,0),(13,4),(14,0),(15,0)] [] ?_|refine ZA 15 [] [(0,0),(1,0),(2,0),(3,0),(4,0),(5,0),(6,0),(7,0),(8,0),(9,0),(10,0),(11,0),(12,0),(13,4),(14,0),(15,0),(16,0)] [] ?_|refine ZA 18 [] [(0,0),(1,0),(2,0),(3,0),(4,0),(5,0),(6,0),(7,0),(8,0),(9,0),(10,0),(11,0),(12,0),(13,4),(14,0)] [15] ?_|refine ZA 21 [] [(0,0),(1,0),(2,0),(3,0),(4,0),(5,0),(6,0),(7,0),(8,0),(9,0),(10,0),(11,0),(12,0),(13,4),(14,0)] [15] ?_|(refine ZG (fun hc=>?_) (fun hc=>?_)<;>(try simp at hc)<;>(try omega)))
   exact Z2 hx ⟨j,by omega,hp,fun h=>absurd h hij⟩ ⟨rfl,rfl,rfl,rfl,rfl,trivial⟩
 rintro ⟨j,hj0,hp,hAj⟩
 dsimp only at hj0 hp hAj ⊢
 have k1:=hp.h1
 have k2:=hp.h2
 have k3:=hp.h3
 have hj:j<n:=by omega
 have kj:j<m.length:=by omega
 have hqm:AxOK (m.length * 5) q:=by rw [hm,←hn];exact hq
 have hqm2:∀k y,AxOK ((m.set k y).length * 5) q:=fun k y=>by rw [List.length_set];exact hqm
 by_cases hij:i≤j
 ·have hij2:=hp.ne hij (hAi (by omega)) (hAj hij)
  have hi:i<n:=by omega
  have ki:i<m.length:=by omega
  have kj2:j<(m.set i (gt m j)).length:=by rw [List.length_set];exact kj
  repeat' (first|refine ZE ?_|refine ZD ?_|refine ZL ?_|refine ZF ?_|refine ZS ?_|refine ZO ?_|refine ZV ?_|refine ZR (fun b=>?_)|refine ZX (fun b=>?_)|refine ZH ?_|refine ZB ?_|refine ZT ?_|refine ZZ ?_|refine Zf ?_|refine Za ?_|refine Zd ?_|refine Zj (fun b=>?_)|refine Zm (fun b=>?_)|refine Zk ?_|refine ZU ?_|rw [wi i hi]|rw [wj j (by omega) hj]|refine ZY (m:=n) (i) hi ?_|refine l_ixW (m:=n) (i) hi ?_|refine ZY (m:=n) (j) hj ?_|refine l_ixW (m:=n) (j) hj ?_|refine Ze 5 (i) 0 (ZI ki) ?_|refine Ze 5 (j) 0 (ZI kj) ?_|refine Z3 5 (i) 0 (gt m (j)) (ZI ki) hqm ?_|refine Zv 5 (i) 0 (gt m (j)) (ZI ki) hqm ?_|refine Zv 5 (j) 0 (gt m (i)) (ZI kj2) (hqm2 _ _) ?_|refine r_up ?_|(refine ZJ (fun hc=>?_) (fun hc=>?_)<;>(try simp at hc)<;>(try omega))|(refine ZP (fun hc=>?_) (fun hc=>?_)<;>(try simp at hc)<;>(try omega))|refine ZA 1 [] [(0,0),(1,0),(2,0),(3,0),(4,0),(5,0),(6,0),(7,0),(8,0),(9,0),(10,0),(11,0),(12,0),(13,4),(14,0)] [15] ?_|refine ZA 3 [] [(0,0),(1,0),(2,0),(3,0),(4,0),(5,0),(6,0),(7,0),(8,0),(9,0),(10,0),(11,0),(12,0),(13,4),(14,0),(15,0)] [] ?_|refine ZA 5 [] [(0,0),(1,0),(2,0),(3,0),(4,0),(5,0),(6,0),(7,0),(8,0),(9,0),(10,0),(11,0),(12,0),(13,4),(14,0),(15,0),(16,0)] [] ?_|refine ZA 10 [Ax _ _ _ _ _] [(0,0),(1,0),(2,0),(3,0),(4,0),(5,0),(6,0),(8,0),(9,0),(10,0),(7,3),(11,3),(12,0),(13,4),(14,0)] [15] ?_|(refine ZG (fun hc=>?_) (fun hc=>?_)<;>(try simp at hc)<;>(try omega)))
  refine Z8 (X:={t:Nat×Nat×List Nm // Pin (fun x=>c x P<0) a bb t.1 t.2.1 P l t.2.2}) (fun t=>[(0,.slice (some ⟨bk,0,none⟩) n cap),(1,.int .i64 (a:Int)),(4,.func (.func fv) #[] #[]),(12,.int .i64 (t.1.1:Int)),(13,.int .i64 (t.1.2.1:Int))]) (fun _=>[Fc]) (fun t=>[Ax 46 nmf bk t.1.2.2 q]) (fun t=>t.1.2.1+1 - t.1.1) ⟨(i+1,j - 1,sw m i j),hp.sw (by omega) hij2 (hAi (by omega)) (hAj hij)⟩ ⟨rfl,rfl,rfl,rfl,rfl,trivial⟩ ?_
  clear hc hin ga hUm hi0 hp0 hAi hj0 hp hAj k1 k2 k3 hj kj hqm hqm2 hij hij2 hi ki kj2 hm hjz
  clear i j m jz
  rintro ⟨⟨i0,j0,m⟩,hin⟩
  dsimp only at hin ⊢
  have q1:=hin.h1
  have q2:=hin.h2
  have q3:=hin.h3
  repeat' (first|refine ZE ?_|refine ZD ?_|refine ZL ?_|refine ZF ?_|refine ZS ?_|refine ZO ?_|refine ZV ?_|refine ZR (fun b=>?_)|refine ZX (fun b=>?_)|refine ZH ?_|refine ZB ?_|(refine ZJ (fun hc=>?_) (fun hc=>?_)<;>(try simp at hc))|(refine ZG (fun hc=>?_) (fun hc=>?_)<;>(try simp at hc)))
  obtain ⟨jz,hjz⟩:∃jz,jz=j0:=⟨_,rfl⟩
  rw [←hjz] at hin
  have hm:=hin.w.len
  have ga:m[a]? = some P:=by rw [←hin.pa];exact ZI (by omega)
  have hUm:=hin.w.sub hU
  refine Yw (Y:={i:Nat // i0≤i∧Pin (fun x=>c x P<0) a bb i jz P l m∧(i≤jz→¬(fun x=>c x P<0) (gt m i))}) (X:={i:Nat // i0≤i∧Pin (fun x=>c x P<0) a bb i jz P l m}) (fun i=>[(0,.slice (some ⟨bk,0,none⟩) n cap),(1,.int .i64 (a:Int)),(4,.func (.func fv) #[] #[]),(12,.int .i64 ((i.1:Nat):Int)),(13,.int .i64 ((jz:Nat):Int))]) (fun _=>[Fc]) (fun _=>[Ax 46 nmf bk m q]) (fun i=>bb+1 - i.1) (fun i=>[(0,.slice (some ⟨bk,0,none⟩) n cap),(1,.int .i64 (a:Int)),(4,.func (.func fv) #[] #[]),(12,.int .i64 ((i.1:Nat):Int)),(13,.int .i64 ((jz:Nat):Int))]) (fun _=>[Fc]) (fun _=>[Ax 46 nmf bk m q]) ⟨i0,Nat.le_refl _,hin⟩ ⟨rfl,rfl,rfl,rfl,(by show look _ _=some (Value.int .i64 ((jz:Nat):Int));rw [hjz];rfl),trivial⟩ ?_ ?_
  rotate_left
  ·intro hx
   rintro ⟨i,hi0,hp⟩
   dsimp only at hi0 hp ⊢
   have k1:=hp.h1
   have k2:=hp.h2
   have k3:=hp.h3
   generalize jz=j at *
   by_cases hij:i≤j
   ·have hi:i<n:=by omega
    have hj:j<n:=by omega
    have ha:a<n:=by omega
    have gi:m[i]? = some (gt m i):=ZI (by omega)
    have gj:m[j]? = some (gt m j):=ZI (by omega)
    have sp:=hcmp (gt m i) P (hUm _ (Zo (by omega))) hUP
    by_cases hA:c (gt m i) P<0
    ·repeat' (first|refine ZE ?_|refine ZD ?_|refine ZL ?_|refine ZF ?_|refine ZS ?_|refine ZO ?_|refine ZV ?_|refine ZR (fun b=>?_)|refine ZX (fun b=>?_)|refine ZH ?_|refine ZB ?_|refine ZT ?_|refine ZZ ?_|refine Zf ?_|refine Za ?_|refine Zd ?_|refine Zj (fun b=>?_)|refine Zm (fun b=>?_)|refine Zk ?_|refine ZU ?_|rw [wi i hi]|rw [wj j (by omega) hj]|refine ZY (m:=n) (i) hi ?_|refine l_ixW (m:=n) (i) hi ?_|refine ZY (m:=n) (a) ha ?_|refine l_ixW (m:=n) (a) ha ?_|refine Zc 5 (i) 0 gi ?_|refine Zn 5 (i) 0 gi ?_|refine Zc 5 (a) 0 ga ?_|refine Zn 5 (a) 0 ga ?_|refine Zi sp (fun _ _=>?_)|(refine ZJ (fun hc=>?_) (fun hc=>?_)<;>(try simp at hc)<;>(try omega))|(refine ZP (fun hc=>?_) (fun hc=>?_)<;>(try simp at hc)<;>(try omega))|refine ZA 1 [] [(0,0),(1,0),(2,0),(3,0),(4,0),(5,0),(6,0),(7,0),(8,0),(9,0),(10,0),(11,0),(12,0),(13,4),(14,0)] [15] ?_|refine ZA 3 [] [(0,0),(1,0),(2,0),(3,0),(4,0),(5,0),(6,0),(7,0),(8,0),(9,0),(10,0),(11,0),(12,0),(13,4),(14,0),(15,0)] [] ?_|refine ZA 5 [] [(0,0),(1,0),(2,0),(3,0),(4,0),(5,0),(6,0),(7,0),(8,0),(9,0),(10,0),(11,0),(12,0),(13,4),(14,0),(15,0),(16,0)] [] ?_|refine ZA 8 [] [(0,0),(1,0),(2,0),(3,0),(4,0),(5,0),(6,0),(7,0),(8,0),(9,0),(10,0),(11,0),(12,0),(13,4),(14,0)] [15] ?_|refine ZA 10 [] [(0,0),(1,0),(2,0),(3,0),(4,0),(5,0),(6,0),(7,0),(8,0),(9,0),(10,0),(11,0),(12,0),(13,4),(14,0)] [15] ?_|refine ZA 13 [] [(0,0),(1,0),(2,0),(3,0),(4,0),(5,0),(6,0),(7,0),(8,0),(9,0),(10,0),(11,0),(12,0),(13,4),(14,0),(15,0)] [] ?_|refine ZA 15 [] [(0,0),(1,0),(2,0),(3,0),(4,0),(5,0),(6,0),(7,0),(8,0),(9,0),(10,0),(11,0),(12,0),(13,4),(14,0),(15,0),(16,0)] [] ?_|refine ZA 18 [] [(0,0),(1,0),(2,0),(3,0),(4,0),(5,0),(6,0),(7,0),(8,0),(9,0),(10,0),(11,0),(12,0),(13,4),(14,0)] [15] ?_|refine ZA 21 [] [(0,0),(1,0),(2,0),(3,0),(4,0),(5,0),(6,0),(7,0),(8,0),(9,0),(10,0),(11,0),(12,0),(13,4),(14,0)] [15] ?_|(refine ZG (fun hc=>?_) (fun hc=>?_)<;>(try simp at hc)<;>(try omega)))
     exact Zb ⟨i+1,by omega,hp.ii hij (hA)⟩ (by show bb+1 - (i+1)<bb+1 - i;omega) ⟨rfl,rfl,rfl,rfl,rfl,trivial⟩
    ·repeat' (first|refine ZE ?_|refine ZD ?_|refine ZL ?_|refine ZF ?_|refine ZS ?_|refine ZO ?_|refine ZV ?_|refine ZR (fun b=>?_)|refine ZX (fun b=>?_)|refine ZH ?_|refine ZB ?_|refine ZT ?_|refine ZZ ?_|refine Zf ?_|refine Za ?_|refine Zd ?_|refine Zj (fun b=>?_)|refine Zm (fun b=>?_)|refine Zk ?_|refine ZU ?_|rw [wi i hi]|rw [wj j (by omega) hj]|refine ZY (m:=n) (i) hi ?_|refine l_ixW (m:=n) (i) hi ?_|refine ZY (m:=n) (a) ha ?_|refine l_ixW (m:=n) (a) ha ?_|refine Zc 5 (i) 0 gi ?_|refine Zn 5 (i) 0 gi ?_|refine Zc 5 (a) 0 ga ?_|refine Zn 5 (a) 0 ga ?_|refine Zi sp (fun _ _=>?_)|(refine ZJ (fun hc=>?_) (fun hc=>?_)<;>(try simp at hc)<;>(try omega))|(refine ZP (fun hc=>?_) (fun hc=>?_)<;>(try simp at hc)<;>(try omega))|refine ZA 1 [] [(0,0),(1,0),(2,0),(3,0),(4,0),(5,0),(6,0),(7,0),(8,0),(9,0),(10,0),(11,0),(12,0),(13,4),(14,0)] [15] ?_|refine ZA 3 [] [(0,0),(1,0),(2,0),(3,0),(4,0),(5,0),(6,0),(7,0),(8,0),(9,0),(10,0),(11,0),(12,0),(13,4),(14,0),(15,0)] [] ?_|refine ZA 5 [] [(0,0),(1,0),(2,0),(3,0),(4,0),(5,0),(6,0),(7,0),(8,0),(9,0),(10,0),(11,0),(12,0),(13,4),(14,0),(15,0),(16,0)] [] ?_|refine ZA 8 [] [(0,0),(1,0),(2,0),(3,0),(4,0),(5,0),(6,0),(7,0),(8,0),(9,0),(10,0),(11,0),(12,0),(13,4),(14,0)] [15] ?_|refine ZA 10 [] [(0,0),(1,0),(2,0),(3,0),(4,0),(5,0),(6,0),(7,0),(8,0),(9,0),(10,0),(11,0),(12,0),(13,4),(14,0)] [15] ?_|refine ZA 13 [] [(0,0),(1,0),(2,0),(3,0),(4,0),(5,0),(6,0),(7,0),(8,0),(9,0),(10,0),(11,0),(12,0),(13,4),(14,0),(15,0)] [] ?_|refine ZA 15 [] [(0,0),(1,0),(2,0),(3,0),(4,0),(5,0),(6,0),(7,0),(8,0),(9,0),(10,0),(11,0),(12,0),(13,4),(14,0),(15,0),(16,0)] [] ?_|refine ZA 18 [] [(0,0),(1,0),(2,0),(3,0),(4,0),(5,0),(6,0),(7,0),(8,0),(9,0),(10,0),(11,0),(12,0),(13,4),(14,0)] [15] ?_|refine ZA 21 [] [(0,0),(1,0),(2,0),(3,0),(4,0),(5,0),(6,0),(7,0),(8,0),(9,0),(10,0),(11,0),(12,0),(13,4),(14,0)] [15] ?_|(refine ZG (fun hc=>?_) (fun hc=>?_)<;>(try simp at hc)<;>(try omega)))
     exact Z2 hx ⟨i,by omega,hp,fun _=>(hA)⟩ ⟨rfl,rfl,rfl,rfl,rfl,trivial⟩
   ·repeat' (first|refine ZE ?_|refine ZD ?_|refine ZL ?_|refine ZF ?_|refine ZS ?_|refine ZO ?_|refine ZV ?_|refine ZR (fun b=>?_)|refine ZX (fun b=>?_)|refine ZH ?_|refine ZB ?_|refine ZT ?_|refine ZZ ?_|refine Zf ?_|refine Za ?_|refine Zd ?_|refine Zj (fun b=>?_)|refine Zm (fun b=>?_)|refine Zk ?_|refine ZU ?_|(refine ZJ (fun hc=>?_) (fun hc=>?_)<;>(try simp at hc)<;>(try omega))|(refine ZP (fun hc=>?_) (fun hc=>?_)<;>(try simp at hc)<;>(try omega))|refine ZA 1 [] [(0,0),(1,0),(2,0),(3,0),(4,0),(5,0),(6,0),(7,0),(8,0),(9,0),(10,0),(11,0),(12,0),(13,4),(14,0)] [15] ?_|refine ZA 3 [] [(0,0),(1,0),(2,0),(3,0),(4,0),(5,0),(6,0),(7,0),(8,0),(9,0),(10,0),(11,0),(12,0),(13,4),(14,0),(15,0)] [] ?_|refine ZA 5 [] [(0,0),(1,0),(2,0),(3,0),(4,0),(5,0),(6,0),(7,0),(8,0),(9,0),(10,0),(11,0),(12,0),(13,4),(14,0),(15,0),(16,0)] [] ?_|refine ZA 8 [] [(0,0),(1,0),(2,0),(3,0),(4,0),(5,0),(6,0),(7,0),(8,0),(9,0),(10,0),(11,0),(12,0),(13,4),(14,0)] [15] ?_|refine ZA 10 [] [(0,0),(1,0),(2,0),(3,0),(4,0),(5,0),(6,0),(7,0),(8,0),(9,0),(10,0),(11,0),(12,0),(13,4),(14,0)] [15] ?_|refine ZA 13 [] [(0,0),(1,0),(2,0),(3,0),(4,0),(5,0),(6,0),(7,0),(8,0),(9,0),(10,0),(11,0),(12,0),(13,4),(14,0),(15,0)] [] ?_|refine ZA 15 [] [(0,0),(1,0),(2,0),(3,0),(4,0),(5,0),(6,0),(7,0),(8,0),(9,0),(10,0),(11,0),(12,0),(13,4),(14,0),(15,0),(16,0)] [] ?_|refine ZA 18 [] [(0,0),(1,0),(2,0),(3,0),(4,0),(5,0),(6,0),(7,0),(8,0),(9,0),(10,0),(11,0),(12,0),(13,4),(14,0)] [15] ?_|refine ZA 21 [] [(0,0),(1,0),(2,0),(3,0),(4,0),(5,0),(6,0),(7,0),(8,0),(9,0),(10,0),(11,0),(12,0),(13,4),(14,0)] [15] ?_|(refine ZG (fun hc=>?_) (fun hc=>?_)<;>(try simp at hc)<;>(try omega)))
    exact Z2 hx ⟨i,by omega,hp,fun h=>absurd h hij⟩ ⟨rfl,rfl,rfl,rfl,rfl,trivial⟩
  rintro ⟨i,hi0,hp0,hAi⟩
  dsimp only at hi0 hp0 hAi ⊢
  refine Yw (Y:={j:Nat // j≤jz∧Pin (fun x=>c x P<0) a bb i j P l m∧(i≤j→(fun x=>c x P<0) (gt m j))}) (X:={j:Nat // j≤jz∧Pin (fun x=>c x P<0) a bb i j P l m}) (fun j=>[(0,.slice (some ⟨bk,0,none⟩) n cap),(1,.int .i64 (a:Int)),(4,.func (.func fv) #[] #[]),(12,.int .i64 ((i:Nat):Int)),(13,.int .i64 ((j.1:Nat):Int))]) (fun _=>[Fc]) (fun _=>[Ax 46 nmf bk m q]) (fun j=>j.1) (fun j=>[(0,.slice (some ⟨bk,0,none⟩) n cap),(1,.int .i64 (a:Int)),(4,.func (.func fv) #[] #[]),(12,.int .i64 ((i:Nat):Int)),(13,.int .i64 ((j.1:Nat):Int))]) (fun _=>[Fc]) (fun _=>[Ax 46 nmf bk m q]) ⟨jz,Nat.le_refl _,hp0⟩ ⟨rfl,rfl,rfl,rfl,rfl,trivial⟩ ?_ ?_
  rotate_left
  ·intro hx
   rintro ⟨j,hj0,hp⟩
   dsimp only at hj0 hp ⊢
   have k1:=hp.h1
   have k2:=hp.h2
   have k3:=hp.h3
   by_cases hij:i≤j
   ·have hi:i<n:=by omega
    have hj:j<n:=by omega
    have ha:a<n:=by omega
    have gi:m[i]? = some (gt m i):=ZI (by omega)
    have gj:m[j]? = some (gt m j):=ZI (by omega)
    have sp:=hcmp (gt m j) P (hUm _ (Zo (by omega))) hUP
    by_cases hA:c (gt m j) P<0
    ·repeat' (first|refine ZE ?_|refine ZD ?_|refine ZL ?_|refine ZF ?_|refine ZS ?_|refine ZO ?_|refine ZV ?_|refine ZR (fun b=>?_)|refine ZX (fun b=>?_)|refine ZH ?_|refine ZB ?_|refine ZT ?_|refine ZZ ?_|refine Zf ?_|refine Za ?_|refine Zd ?_|refine Zj (fun b=>?_)|refine Zm (fun b=>?_)|refine Zk ?_|refine ZU ?_|rw [wi i hi]|rw [wj j (by omega) hj]|refine ZY (m:=n) (j) hj ?_|refine l_ixW (m:=n) (j) hj ?_|refine ZY (m:=n) (a) ha ?_|refine l_ixW (m:=n) (a) ha ?_|refine Zc 5 (j) 0 gj ?_|refine Zn 5 (j) 0 gj ?_|refine Zc 5 (a) 0 ga ?_|refine Zn 5 (a) 0 ga ?_|refine Zi sp (fun _ _=>?_)|(refine ZJ (fun hc=>?_) (fun hc=>?_)<;>(try simp at hc)<;>(try omega))|(refine ZP (fun hc=>?_) (fun hc=>?_)<;>(try simp at hc)<;>(try omega))|refine ZA 1 [] [(0,0),(1,0),(2,0),(3,0),(4,0),(5,0),(6,0),(7,0),(8,0),(9,0),(10,0),(11,0),(12,0),(13,4),(14,0)] [15] ?_|refine ZA 3 [] [(0,0),(1,0),(2,0),(3,0),(4,0),(5,0),(6,0),(7,0),(8,0),(9,0),(10,0),(11,0),(12,0),(13,4),(14,0),(15,0)] [] ?_|refine ZA 5 [] [(0,0),(1,0),(2,0),(3,0),(4,0),(5,0),(6,0),(7,0),(8,0),(9,0),(10,0),(11,0),(12,0),(13,4),(14,0),(15,0),(16,0)] [] ?_|refine ZA 8 [] [(0,0),(1,0),(2,0),(3,0),(4,0),(5,0),(6,0),(7,0),(8,0),(9,0),(10,0),(11,0),(12,0),(13,4),(14,0)] [15] ?_|refine ZA 10 [] [(0,0),(1,0),(2,0),(3,0),(4,0),(5,0),(6,0),(7,0),(8,0),(9,0),(10,0),(11,0),(12,0),(13,4),(14,0)] [15] ?_|refine ZA 13 [] [(0,0),(1,0),(2,0),(3,0),(4,0),(5,0),(6,0),(7,0),(8,0),(9,0),(10,0),(11,0),(12,0),(13,4),(14,0),(15,0)] [] ?_|refine ZA 15 [] [(0,0),(1,0),(2,0),(3,0),(4,0),(5,0),(6,0),(7,0),(8,0),(9,0),(10,0),(11,0),(12,0),(13,4),(14,0),(15,0),(16,0)] [] ?_|refine ZA 18 [] [(0,0),(1,0),(2,0),(3,0),(4,0),(5,0),(6,0),(7,0),(8,0),(9,0),(10,0),(11,0),(12,0),(13,4),(14,0)] [15] ?_|refine ZA 21 [] [(0,0),(1,0),(2,0),(3,0),(4,0),(5,0),(6,0),(7,0),(8,0),(9,0),(10,0),(11,0),(12,0),(13,4),(14,0)] [15] ?_|(refine ZG (fun hc=>?_) (fun hc=>?_)<;>(try simp at hc)<;>(try omega)))
     exact Z2 hx ⟨j,by omega,hp,fun _=>(hA)⟩ ⟨rfl,rfl,rfl,rfl,rfl,trivial⟩
    ·repeat' (first|refine ZE ?_|refine ZD ?_|refine ZL ?_|refine ZF ?_|refine ZS ?_|refine ZO ?_|refine ZV ?_|refine ZR (fun b=>?_)|refine ZX (fun b=>?_)|refine ZH ?_|refine ZB ?_|refine ZT ?_|refine ZZ ?_|refine Zf ?_|refine Za ?_|refine Zd ?_|refine Zj (fun b=>?_)|refine Zm (fun b=>?_)|refine Zk ?_|refine ZU ?_|rw [wi i hi]|rw [wj j (by omega) hj]|refine ZY (m:=n) (j) hj ?_|refine l_ixW (m:=n) (j) hj ?_|refine ZY (m:=n) (a) ha ?_|refine l_ixW (m:=n) (a) ha ?_|refine Zc 5 (j) 0 gj ?_|refine Zn 5 (j) 0 gj ?_|refine Zc 5 (a) 0 ga ?_|refine Zn 5 (a) 0 ga ?_|refine Zi sp (fun _ _=>?_)|(refine ZJ (fun hc=>?_) (fun hc=>?_)<;>(try simp at hc)<;>(try omega))|(refine ZP (fun hc=>?_) (fun hc=>?_)<;>(try simp at hc)<;>(try omega))|refine ZA 1 [] [(0,0),(1,0),(2,0),(3,0),(4,0),(5,0),(6,0),(7,0),(8,0),(9,0),(10,0),(11,0),(12,0),(13,4),(14,0)] [15] ?_|refine ZA 3 [] [(0,0),(1,0),(2,0),(3,0),(4,0),(5,0),(6,0),(7,0),(8,0),(9,0),(10,0),(11,0),(12,0),(13,4),(14,0),(15,0)] [] ?_|refine ZA 5 [] [(0,0),(1,0),(2,0),(3,0),(4,0),(5,0),(6,0),(7,0),(8,0),(9,0),(10,0),(11,0),(12,0),(13,4),(14,0),(15,0),(16,0)] [] ?_|refine ZA 8 [] [(0,0),(1,0),(2,0),(3,0),(4,0),(5,0),(6,0),(7,0),(8,0),(9,0),(10,0),(11,0),(12,0),(13,4),(14,0)] [15] ?_|refine ZA 10 [] [(0,0),(1,0),(2,0),(3,0),(4,0),(5,0),(6,0),(7,0),(8,0),(9,0),(10,0),(11,0),(12,0),(13,4),(14,0)] [15] ?_|refine ZA 13 [] [(0,0),(1,0),(2,0),(3,0),(4,0),(5,0),(6,0),(7,0),(8,0),(9,0),(10,0),(11,0),(12,0),(13,4),(14,0),(15,0)] [] ?_|refine ZA 15 [] [(0,0),(1,0),(2,0),(3,0),(4,0),(5,0),(6,0),(7,0),(8,0),(9,0),(10,0),(11,0),(12,0),(13,4),(14,0),(15,0),(16,0)] [] ?_|refine ZA 18 [] [(0,0),(1,0),(2,0),(3,0),(4,0),(5,0),(6,0),(7,0),(8,0),(9,0),(10,0),(11,0),(12,0),(13,4),(14,0)] [15] ?_|refine ZA 21 [] [(0,0),(1,0),(2,0),(3,0),(4,0),(5,0),(6,0),(7,0),(8,0),(9,0),(10,0),(11,0),(12,0),(13,4),(14,0)] [15] ?_|(refine ZG (fun hc=>?_) (fun hc=>?_)<;>(try simp at hc)<;>(try omega)))
     exact Zb ⟨j - 1,by omega,hp.jj hij (hA)⟩ (by show j - 1<j;omega) ⟨rfl,rfl,rfl,rfl,rfl,trivial⟩
   ·repeat' (first|refine ZE ?_|refine ZD ?_|refine ZL ?_|refine ZF ?_|refine ZS ?_|refine ZO ?_|refine ZV ?_|refine ZR (fun b=>?_)|refine ZX (fun b=>?_)|refine ZH ?_|refine ZB ?_|refine ZT ?_|refine ZZ ?_|refine Zf ?_|refine Za ?_|refine Zd ?_|refine Zj (fun b=>?_)|refine Zm (fun b=>?_)|refine Zk ?_|refine ZU ?_|(refine ZJ (fun hc=>?_) (fun hc=>?_)<;>(try simp at hc)<;>(try omega))|(refine ZP (fun hc=>?_) (fun hc=>?_)<;>(try simp at hc)<;>(try omega))|refine ZA 1 [] [(0,0),(1,0),(2,0),(3,0),(4,0),(5,0),(6,0),(7,0),(8,0),(9,0),(10,0),(11,0),(12,0),(13,4),(14,0)] [15] ?_|refine ZA 3 [] [(0,0),(1,0),(2,0),(3,0),(4,0),(5,0),(6,0),(7,0),(8,0),(9,0),(10,0),(11,0),(12,0),(13,4),(14,0),(15,0)] [] ?_|refine ZA 5 [] [(0,0),(1,0),(2,0),(3,0),(4,0),(5,0),(6,0),(7,0),(8,0),(9,0),(10,0),(11,0),(12,0),(13,4),(14,0),(15,0),(16,0)] [] ?_|refine ZA 8 [] [(0,0),(1,0),(2,0),(3,0),(4,0),(5,0),(6,0),(7,0),(8,0),(9,0),(10,0),(11,0),(12,0),(13,4),(14,0)] [15] ?_|refine ZA 10 [] [(0,0),(1,0),(2,0),(3,0),(4,0),(5,0),(6,0),(7,0),(8,0),(9,0),(10,0),(11,0),(12,0),(13,4),(14,0)] [15] ?_|refine ZA 13 [] [(0,0),(1,0),(2,0),(3,0),(4,0),(5,0),(6,0),(7,0),(8,0),(9,0),(10,0),(11,0),(12,0),(13,4),(14,0),(15,0)] [] ?_|refine ZA 15 [] [(0,0),(1,0),(2,0),(3,0),(4,0),(5,0),(6,0),(7,0),(8,0),(9,0),(10,0),(11,0),(12,0),(13,4),(14,0),(15,0),(16,0)] [] ?_|refine ZA 18 [] [(0,0),(1,0),(2,0),(3,0),(4,0),(5,0),(6,0),(7,0),(8,0),(9,0),(10,0),(11,0),(12,0),(13,4),(14,0)] [15] ?_|refine ZA 21 [] [(0,0),(1,0),(2,0),(3,0),(4,0),(5,0),(6,0),(7,0),(8,0),(9,0),(10,0),(11,0),(12,0),(13,4),(14,0)] [15] ?_|(refine ZG (fun hc=>?_) (fun hc=>?_)<;>(try simp at hc)<;>(try omega)))
    exact Z2 hx ⟨j,by omega,hp,fun h=>absurd h hij⟩ ⟨rfl,rfl,rfl,rfl,rfl,trivial⟩
  rintro ⟨j,hj0,hp,hAj⟩
  dsimp only at hj0 hp hAj ⊢
  have k1:=hp.h1
  have k2:=hp.h2
  have k3:=hp.h3
  have hj:j<n:=by omega
  have kj:j<m.length:=by omega
  have hqm:AxOK (m.length * 5) q:=by rw [hm,←hn];exact hq
  have hqm2:∀k y,AxOK ((m.set k y).length * 5) q:=fun k y=>by rw [List.length_set];exact hqm
  by_cases hij:i≤j
  ·have hij2:=hp.ne hij (hAi (by omega)) (hAj hij)
   have hi:i<n:=by omega
   have ki:i<m.length:=by omega
   have kj2:j<(m.set i (gt m j)).length:=by rw [List.length_set];exact kj
   repeat' (first|refine ZE ?_|refine ZD ?_|refine ZL ?_|refine ZF ?_|refine ZS ?_|refine ZO ?_|refine ZV ?_|refine ZR (fun b=>?_)|refine ZX (fun b=>?_)|refine ZH ?_|refine ZB ?_|refine ZT ?_|refine ZZ ?_|refine Zf ?_|refine Za ?_|refine Zd ?_|refine Zj (fun b=>?_)|refine Zm (fun b=>?_)|refine Zk ?_|refine ZU ?_|rw [wi i hi]|rw [wj j (by omega) hj]|refine ZY (m:=n) (i) hi ?_|refine l_ixW (m:=n) (i) hi ?_|refine ZY (m:=n) (j) hj ?_|refine l_ixW (m:=n) (j) hj ?_|refine Ze 5 (i) 0 (ZI ki) ?_|refine Ze 5 (j) 0 (ZI kj) ?_|refine Z3 5 (i) 0 (gt m (j)) (ZI ki) hqm ?_|refine Zv 5 (i) 0 (gt m (j)) (ZI ki) hqm ?_|refine Zv 5 (j) 0 (gt m (i)) (ZI kj2) (hqm2 _ _) ?_|refine r_up ?_|(refine ZJ (fun hc=>?_) (fun hc=>?_)<;>(try simp at hc)<;>(try omega))|(refine ZP (fun hc=>?_) (fun hc=>?_)<;>(try simp at hc)<;>(try omega))|refine ZA 1 [] [(0,0),(1,0),(2,0),(3,0),(4,0),(5,0),(6,0),(7,0),(8,0),(9,0),(10,0),(11,0),(12,0),(13,4),(14,0)] [15] ?_|refine ZA 3 [] [(0,0),(1,0),(2,0),(3,0),(4,0),(5,0),(6,0),(7,0),(8,0),(9,0),(10,0),(11,0),(12,0),(13,4),(14,0),(15,0)] [] ?_|refine ZA 5 [] [(0,0),(1,0),(2,0),(3,0),(4,0),(5,0),(6,0),(7,0),(8,0),(9,0),(10,0),(11,0),(12,0),(13,4),(14,0),(15,0),(16,0)] [] ?_|refine ZA 8 [] [(0,0),(1,0),(2,0),(3,0),(4,0),(5,0),(6,0),(7,0),(8,0),(9,0),(10,0),(11,0),(12,0),(13,4),(14,0)] [15] ?_|refine ZA 10 [] [(0,0),(1,0),(2,0),(3,0),(4,0),(5,0),(6,0),(7,0),(8,0),(9,0),(10,0),(11,0),(12,0),(13,4),(14,0)] [15] ?_|refine ZA 13 [] [(0,0),(1,0),(2,0),(3,0),(4,0),(5,0),(6,0),(7,0),(8,0),(9,0),(10,0),(11,0),(12,0),(13,4),(14,0),(15,0)] [] ?_|refine ZA 15 [] [(0,0),(1,0),(2,0),(3,0),(4,0),(5,0),(6,0),(7,0),(8,0),(9,0),(10,0),(11,0),(12,0),(13,4),(14,0),(15,0),(16,0)] [] ?_|refine ZA 18 [Ax _ _ _ _ _] [(0,0),(1,0),(2,0),(3,0),(4,0),(5,0),(6,0),(8,0),(9,0),(10,0),(7,3),(11,3),(12,0),(13,4),(14,0)] [15] ?_|(refine ZG (fun hc=>?_) (fun hc=>?_)<;>(try simp at hc)<;>(try omega)))
   exact Zb ⟨(i+1,j - 1,sw m i j),hp.sw (by omega) hij2 (hAi (by omega)) (hAj hij)⟩ (by show j - 1+1 - (i+1)<j0+1 - i0;omega) ⟨rfl,rfl,rfl,rfl,rfl,trivial⟩
  ·obtain ⟨f1,f2⟩:=hp.part (by omega) (by omega)
   have ka:a<m.length:=by omega
   have ka2:a<(m.set j (gt m a)).length:=by rw [List.length_set];exact ka
   repeat' (first|refine ZE ?_|refine ZD ?_|refine ZL ?_|refine ZF ?_|refine ZS ?_|refine ZO ?_|refine ZV ?_|refine ZR (fun b=>?_)|refine ZX (fun b=>?_)|refine ZH ?_|refine ZB ?_|refine ZW ?_|refine ZT ?_|refine ZZ ?_|refine Zf ?_|refine Za ?_|refine Zd ?_|refine Zj (fun b=>?_)|refine Zm (fun b=>?_)|refine Zk ?_|refine ZU ?_|refine ZY (m:=n) (j) hj ?_|refine l_ixW (m:=n) (j) hj ?_|refine ZY (m:=n) (a) hia ?_|refine l_ixW (m:=n) (a) hia ?_|refine Ze 5 (j) 0 (ZI kj) ?_|refine Ze 5 (a) 0 (ZI ka) ?_|refine Z3 5 (j) 0 (gt m (a)) (ZI kj) hqm ?_|refine Zv 5 (j) 0 (gt m (a)) (ZI kj) hqm ?_|refine Zv 5 (a) 0 (gt m (j)) (ZI ka2) (hqm2 _ _) ?_|refine r_up ?_|(refine ZJ (fun hc=>?_) (fun hc=>?_)<;>(try simp at hc)<;>(try omega))|(refine ZP (fun hc=>?_) (fun hc=>?_)<;>(try simp at hc)<;>(try omega))|refine ZA 1 [] [(0,0),(1,0),(2,0),(3,0),(4,0),(5,0),(6,0),(7,0),(8,0),(9,0),(10,0),(11,0),(12,0),(13,4),(14,0)] [15] ?_|refine ZA 3 [] [(0,0),(1,0),(2,0),(3,0),(4,0),(5,0),(6,0),(7,0),(8,0),(9,0),(10,0),(11,0),(12,0),(13,4),(14,0),(15,0)] [] ?_|refine ZA 5 [] [(0,0),(1,0),(2,0),(3,0),(4,0),(5,0),(6,0),(7,0),(8,0),(9,0),(10,0),(11,0),(12,0),(13,4),(14,0),(15,0),(16,0)] [] ?_|refine ZA 8 [] [(0,0),(1,0),(2,0),(3,0),(4,0),(5,0),(6,0),(7,0),(8,0),(9,0),(10,0),(11,0),(12,0),(13,4),(14,0)] [15] ?_|refine ZA 10 [] [(0,0),(1,0),(2,0),(3,0),(4,0),(5,0),(6,0),(7,0),(8,0),(9,0),(10,0),(11,0),(12,0),(13,4),(14,0)] [15] ?_|refine ZA 13 [] [(0,0),(1,0),(2,0),(3,0),(4,0),(5,0),(6,0),(7,0),(8,0),(9,0),(10,0),(11,0),(12,0),(13,4),(14,0),(15,0)] [] ?_|refine ZA 15 [] [(0,0),(1,0),(2,0),(3,0),(4,0),(5,0),(6,0),(7,0),(8,0),(9,0),(10,0),(11,0),(12,0),(13,4),(14,0),(15,0),(16,0)] [] ?_|refine ZA 21 [Ax _ _ _ _ _] [(0,0),(1,0),(2,0),(3,0),(4,0),(5,0),(6,0),(8,0),(9,0),(10,0),(7,3),(11,3),(12,0),(13,4),(14,0)] [15] ?_|(refine ZG (fun hc=>?_) (fun hc=>?_)<;>(try simp at hc)<;>(try omega)))
   exact ZK ⟨(j,false,sw m j a),f1,f2⟩ rfl trivial
 ·obtain ⟨f1,f2⟩:=hp.part (by omega) (by omega)
  have ka:a<m.length:=by omega
  have ka2:a<(m.set j (gt m a)).length:=by rw [List.length_set];exact ka
  repeat' (first|refine ZE ?_|refine ZD ?_|refine ZL ?_|refine ZF ?_|refine ZS ?_|refine ZO ?_|refine ZV ?_|refine ZR (fun b=>?_)|refine ZX (fun b=>?_)|refine ZH ?_|refine ZB ?_|refine ZW ?_|refine ZT ?_|refine ZZ ?_|refine Zf ?_|refine Za ?_|refine Zd ?_|refine Zj (fun b=>?_)|refine Zm (fun b=>?_)|refine Zk ?_|refine ZU ?_|refine ZY (m:=n) (j) hj ?_|refine l_ixW (m:=n) (j) hj ?_|refine ZY (m:=n) (a) hia ?_|refine l_ixW (m:=n) (a) hia ?_|refine Ze 5 (j) 0 (ZI kj) ?_|refine Ze 5 (a) 0 (ZI ka) ?_|refine Z3 5 (j) 0 (gt m (a)) (ZI kj) hqm ?_|refine Zv 5 (j) 0 (gt m (a)) (ZI kj) hqm ?_|refine Zv 5 (a) 0 (gt m (j)) (ZI ka2) (hqm2 _ _) ?_|refine r_up ?_|(refine ZJ (fun hc=>?_) (fun hc=>?_)<;>(try simp at hc)<;>(try omega))|(refine ZP (fun hc=>?_) (fun hc=>?_)<;>(try simp at hc)<;>(try omega))|refine ZA 1 [] [(0,0),(1,0),(2,0),(3,0),(4,0),(5,0),(6,0),(7,0),(8,0),(9,0),(10,0),(11,0),(12,0),(13,4),(14,0)] [15] ?_|refine ZA 3 [] [(0,0),(1,0),(2,0),(3,0),(4,0),(5,0),(6,0),(7,0),(8,0),(9,0),(10,0),(11,0),(12,0),(13,4),(14,0),(15,0)] [] ?_|refine ZA 5 [] [(0,0),(1,0),(2,0),(3,0),(4,0),(5,0),(6,0),(7,0),(8,0),(9,0),(10,0),(11,0),(12,0),(13,4),(14,0),(15,0),(16,0)] [] ?_|refine ZA 8 [Ax _ _ _ _ _] [(0,0),(1,0),(2,0),(3,0),(4,0),(5,0),(6,0),(8,0),(9,0),(10,0),(7,3),(11,3),(12,0),(13,4),(14,0)] [15] ?_|(refine ZG (fun hc=>?_) (fun hc=>?_)<;>(try simp at hc)<;>(try omega)))
  exact ZK ⟨(j,true,sw m j a),f1,f2⟩ rfl trivial
include hcmp W in
set_option maxHeartbeats 8000000 in
theorem parEN_ok (l:List Nm) (n:Nat) (hn:n=l.length) (hn2:n≤1000000) (hq:AxOK (n * 5) q) (hU:∀x ∈ l,U x) (a bb p:Nat) (hab:a+12<bb) (hb:bb≤n) (hp1:a≤p) (hp2:p<bb) :
  Enters 192∧Spec prog 192 #[.slice (some ⟨bk,0,none⟩) n cap,.int .i64 (a:Int),.int .i64 (bb:Int),.int .i64 (p:Int),.func (.func fv) #[] #[]] [Fc] [Ax 46 nmf bk l q]
   ⟨{t:Nat×List Nm // Win a bb l t.2∧a<t.1∧t.1≤bb∧gt t.2 a=gt l p∧∀k,a≤k→k<t.1→¬c (gt t.2 a) (gt t.2 k)<0},fun t=>.int .i64 (t.1.1:Int),fun _=>True,fun _=>[],fun t=>[Ax 46 nmf bk t.1.2 q]⟩:=by
 have w0:IntKind.i64.wrap ((a:Int)+1)=((a+1:Nat):Int):=by simp (disch:=omega) only [wrapi];omega
 have w1:IntKind.i64.wrap ((bb:Int) - 1)=((bb - 1:Nat):Int):=by simp (disch:=omega) only [wrapi];omega
 have wi:∀i,i<n→IntKind.i64.wrap ((i:Int)+1)=((i+1:Nat):Int):=fun i hi=>by simp (disch:=omega) only [wrapi];omega
 have wj:∀j,0<j→j<n→IntKind.i64.wrap ((j:Int) - 1)=((j - 1:Nat):Int):=fun j h0 hi=>by simp (disch:=omega) only [wrapi];omega
 have hia:a<n:=by omega
 have hip:p<n:=by omega
 have kia:a<l.length:=by omega
 have kip:p<l.length:=by omega
 have kip2:p<(l.set a (gt l p)).length:=by rw [List.length_set];exact kip
 have hql:AxOK (l.length * 5) q:=by rw [←hn];exact hq
 have hql2:AxOK ((l.set a (gt l p)).length * 5) q:=by rw [List.length_set];exact hql
 have hUP:U (gt l p):=hU _ (Zo kip)
 have hin0:=fun A:Nm→Prop=>Pin.init (A:=A) (l:=l) (a:=a) (b:=bb) hp1 hp2 (by omega) (by omega)
 obtain ⟨P,hP⟩:∃P,P=gt l p:=⟨_,rfl⟩
 rw [←hP] at hUP hin0
 obtain ⟨m,hm0⟩:∃m,m=sw l a p:=⟨_,rfl⟩
 rw [←hm0] at hin0
 have hin:=hin0 (fun x=>¬c P x<0)
 clear hin0
 refine ZM [_,_,_,_,_] func192 ntmps192 fun G w hp=>?_
 repeat' (first|refine ZE ?_|refine ZD ?_|refine ZL ?_|refine ZF ?_|refine ZS ?_|refine ZO ?_|refine ZV ?_|refine ZR (fun b=>?_)|refine ZX (fun b=>?_)|refine ZH ?_|refine ZB ?_|refine ZT ?_|refine ZZ ?_|refine Zf ?_|refine Za ?_|refine Zd ?_|refine Zj (fun b=>?_)|refine Zm (fun b=>?_)|refine Zk ?_|refine ZU ?_|refine ZY (m:=n) (a) hia ?_|refine l_ixW (m:=n) (a) hia ?_|refine ZY (m:=n) (p) hip ?_|refine l_ixW (m:=n) (p) hip ?_|refine Ze 5 (a) 0 (ZI kia) ?_|refine Ze 5 (p) 0 (ZI kip) ?_|refine Z3 5 (a) 0 (gt l (p)) (ZI kia) hql ?_|refine Zv 5 (a) 0 (gt l (p)) (ZI kia) hql ?_|refine Zv 5 (p) 0 (gt l (a)) (ZI kip2) hql2 ?_|rw [w0]|rw [w1]|refine r_up ?_|(refine ZJ (fun hc=>?_) (fun hc=>?_)<;>(try simp at hc))|(refine ZP (fun hc=>?_) (fun hc=>?_)<;>(try simp at hc))|refine ZA 1 [Ax _ _ _ _ _] [(0,0),(1,0),(2,0),(3,0),(4,0),(5,0),(6,0),(8,0),(9,0),(10,0),(7,3),(11,3),(12,0),(13,4),(14,0)] [15] ?_|(refine ZG (fun hc=>?_) (fun hc=>?_)<;>(try simp at hc)))
 refine k_ax m hm0.symm ?_
 clear hm0 kip2 hql2
 refine Z8 (X:={t:Nat×Nat×List Nm // Pin (fun x=>¬c P x<0) a bb t.1 t.2.1 P l t.2.2}) (fun t=>[(0,.slice (some ⟨bk,0,none⟩) n cap),(1,.int .i64 (a:Int)),(4,.func (.func fv) #[] #[]),(11,.int .i64 (t.1.1:Int)),(12,.int .i64 (t.1.2.1:Int))]) (fun _=>[Fc]) (fun t=>[Ax 46 nmf bk t.1.2.2 q]) (fun t=>t.1.2.1+1 - t.1.1) ⟨(a+1,bb - 1,m),hin⟩ ⟨rfl,rfl,rfl,rfl,rfl,trivial⟩ ?_
 clear hin
 clear m
 rintro ⟨⟨i0,j0,m⟩,hin⟩
 dsimp only at hin ⊢
 have q1:=hin.h1
 have q2:=hin.h2
 have q3:=hin.h3
 repeat' (first|refine ZE ?_|refine ZD ?_|refine ZL ?_|refine ZF ?_|refine ZS ?_|refine ZO ?_|refine ZV ?_|refine ZR (fun b=>?_)|refine ZX (fun b=>?_)|refine ZH ?_|refine ZB ?_|(refine ZJ (fun hc=>?_) (fun hc=>?_)<;>(try simp at hc))|(refine ZG (fun hc=>?_) (fun hc=>?_)<;>(try simp at hc)))
 obtain ⟨jz,hjz⟩:∃jz,jz=j0:=⟨_,rfl⟩
 rw [←hjz] at hin
 have hm:=hin.w.len
 have ga:m[a]? = some P:=by rw [←hin.pa];exact ZI (by omega)
 have hUm:=hin.w.sub hU
 refine Yw (Y:={i:Nat // i0≤i∧Pin (fun x=>¬c P x<0) a bb i jz P l m∧(i≤jz→¬(fun x=>¬c P x<0) (gt m i))}) (X:={i:Nat // i0≤i∧Pin (fun x=>¬c P x<0) a bb i jz P l m}) (fun i=>[(0,.slice (some ⟨bk,0,none⟩) n cap),(1,.int .i64 (a:Int)),(4,.func (.func fv) #[] #[]),(11,.int .i64 ((i.1:Nat):Int)),(12,.int .i64 ((jz:Nat):Int))]) (fun _=>[Fc]) (fun _=>[Ax 46 nmf bk m q]) (fun i=>bb+1 - i.1) (fun i=>[(0,.slice (some ⟨bk,0,none⟩) n cap),(1,.int .i64 (a:Int)),(4,.func (.func fv) #[] #[]),(11,.int .i64 ((i.1:Nat):Int)),(12,.int .i64 ((jz:Nat):Int))]) (fun _=>[Fc]) (fun _=>[Ax 46 nmf bk m q]) ⟨i0,Nat.le_refl _,hin⟩ ⟨rfl,rfl,rfl,rfl,(by show look _ _=some (Value.int .i64 ((jz:Nat):Int));rw [hjz];rfl),trivial⟩ ?_ ?_
 rotate_left
 ·intro hx
  rintro ⟨i,hi0,hp⟩
  dsimp only at hi0 hp ⊢
  have k1:=hp.h1
  have k2:=hp.h2
  have k3:=hp.h3
  generalize jz=j at *
  by_cases hij:i≤j
  ·have hi:i<n:=by omega
   have hj:j<n:=by omega
   have ha:a<n:=by omega
   have gi:m[i]? = some (gt m i):=ZI (by omega)
   have gj:m[j]? = some (gt m j):=ZI (by omega)
   have sp:=hcmp P (gt m i) hUP (hUm _ (Zo (by omega)))
   by_cases hA:c P (gt m i)<0
   ·repeat' (first|refine ZE ?_|refine ZD ?_|refine ZL ?_|refine ZF ?_|refine ZS ?_|refine ZO ?_|refine ZV ?_|refine ZR (fun b=>?_)|refine ZX (fun b=>?_)|refine ZH ?_|refine ZB ?_|refine ZT ?_|refine ZZ ?_|refine Zf ?_|refine Za ?_|refine Zd ?_|refine Zj (fun b=>?_)|refine Zm (fun b=>?_)|refine Zk ?_|refine ZU ?_|rw [wi i hi]|rw [wj j (by omega) hj]|refine ZY (m:=n) (i) hi ?_|refine l_ixW (m:=n) (i) hi ?_|refine ZY (m:=n) (a) ha ?_|refine l_ixW (m:=n) (a) ha ?_|refine Zc 5 (i) 0 gi ?_|refine Zn 5 (i) 0 gi ?_|refine Zc 5 (a) 0 ga ?_|refine Zn 5 (a) 0 ga ?_|refine Zi sp (fun _ _=>?_)|(refine ZJ (fun hc=>?_) (fun hc=>?_)<;>(try simp at hc)<;>(try omega))|(refine ZP (fun hc=>?_) (fun hc=>?_)<;>(try simp at hc)<;>(try omega))|refine ZA 1 [] [(0,0),(1,0),(2,0),(3,0),(4,0),(5,0),(6,0),(7,0),(8,0),(9,0),(10,0),(11,0),(12,0),(13,4),(14,0)] [15] ?_|refine ZA 3 [] [(0,0),(1,0),(2,0),(3,0),(4,0),(5,0),(6,0),(7,0),(8,0),(9,0),(10,0),(11,0),(12,0),(13,4),(14,0),(15,0),(16,0)] [] ?_|refine ZA 5 [] [(0,0),(1,0),(2,0),(3,0),(4,0),(5,0),(6,0),(7,0),(8,0),(9,0),(10,0),(11,0),(12,0),(13,4),(14,0),(15,0)] [] ?_|refine ZA 8 [] [(0,0),(1,0),(2,0),(3,0),(4,0),(5,0),(6,0),(7,0),(8,0),(9,0),(10,0),(11,0),(12,0),(13,4),(14,0)] [15] ?_|(refine ZG (fun hc=>?_) (fun hc=>?_)<;>(try simp at hc)<;>(try omega)))
    exact Z2 hx ⟨i,by omega,hp,fun _=>(fun h=>h hA)⟩ ⟨rfl,rfl,rfl,rfl,rfl,trivial⟩
   ·repeat' (first|refine ZE ?_|refine ZD ?_|refine ZL ?_|refine ZF ?_|refine ZS ?_|refine ZO ?_|refine ZV ?_|refine ZR (fun b=>?_)|refine ZX (fun b=>?_)|refine ZH ?_|refine ZB ?_|refine ZT ?_|refine ZZ ?_|refine Zf ?_|refine Za ?_|refine Zd ?_|refine Zj (fun b=>?_)|refine Zm (fun b=>?_)|refine Zk ?_|refine ZU ?_|rw [wi i hi]|rw [wj j (by omega) hj]|refine ZY (m:=n) (i) hi ?_|refine l_ixW (m:=n) (i) hi ?_|refine ZY (m:=n) (a) ha ?_|refine l_ixW (m:=n) (a) ha ?_|refine Zc 5 (i) 0 gi ?_|refine Zn 5 (i) 0 gi ?_|refine Zc 5 (a) 0 ga ?_|refine Zn 5 (a) 0 ga ?_|refine Zi sp (fun _ _=>?_)|(refine ZJ (fun hc=>?_) (fun hc=>?_)<;>(try simp at hc)<;>(try omega))|(refine ZP (fun hc=>?_) (fun hc=>?_)<;>(try simp at hc)<;>(try omega))|refine ZA 1 [] [(0,0),(1,0),(2,0),(3,0),(4,0),(5,0),(6,0),(7,0),(8,0),(9,0),(10,0),(11,0),(12,0),(13,4),(14,0)] [15] ?_|refine ZA 3 [] [(0,0),(1,0),(2,0),(3,0),(4,0),(5,0),(6,0),(7,0),(8,0),(9,0),(10,0),(11,0),(12,0),(13,4),(14,0),(15,0),(16,0)] [] ?_|refine ZA 5 [] [(0,0),(1,0),(2,0),(3,0),(4,0),(5,0),(6,0),(7,0),(8,0),(9,0),(10,0),(11,0),(12,0),(13,4),(14,0),(15,0)] [] ?_|refine ZA 8 [] [(0,0),(1,0),(2,0),(3,0),(4,0),(5,0),(6,0),(7,0),(8,0),(9,0),(10,0),(11,0),(12,0),(13,4),(14,0)] [15] ?_|(refine ZG (fun hc=>?_) (fun hc=>?_)<;>(try simp at hc)<;>(try omega)))
    exact Zb ⟨i+1,by omega,hp.ii hij (hA)⟩ (by show bb+1 - (i+1)<bb+1 - i;omega) ⟨rfl,rfl,rfl,rfl,rfl,trivial⟩
  ·repeat' (first|refine ZE ?_|refine ZD ?_|refine ZL ?_|refine ZF ?_|refine ZS ?_|refine ZO ?_|refine ZV ?_|refine ZR (fun b=>?_)|refine ZX (fun b=>?_)|refine ZH ?_|refine ZB ?_|refine ZT ?_|refine ZZ ?_|refine Zf ?_|refine Za ?_|refine Zd ?_|refine Zj (fun b=>?_)|refine Zm (fun b=>?_)|refine Zk ?_|refine ZU ?_|(refine ZJ (fun hc=>?_) (fun hc=>?_)<;>(try simp at hc)<;>(try omega))|(refine ZP (fun hc=>?_) (fun hc=>?_)<;>(try simp at hc)<;>(try omega))|refine ZA 1 [] [(0,0),(1,0),(2,0),(3,0),(4,0),(5,0),(6,0),(7,0),(8,0),(9,0),(10,0),(11,0),(12,0),(13,4),(14,0)] [15] ?_|refine ZA 3 [] [(0,0),(1,0),(2,0),(3,0),(4,0),(5,0),(6,0),(7,0),(8,0),(9,0),(10,0),(11,0),(12,0),(13,4),(14,0),(15,0),(16,0)] [] ?_|refine ZA 5 [] [(0,0),(1,0),(2,0),(3,0),(4,0),(5,0),(6,0),(7,0),(8,0),(9,0),(10,0),(11,0),(12,0),(13,4),(14,0),(15,0)] [] ?_|refine ZA 8 [] [(0,0),(1,0),(2,0),(3,0),(4,0),(5,0),(6,0),(7,0),(8,0),(9,0),(10,0),(11,0),(12,0),(13,4),(14,0)] [15] ?_|(refine ZG (fun hc=>?_) (fun hc=>?_)<;>(try simp at hc)<;>(try omega)))
   exact Z2 hx ⟨i,by omega,hp,fun h=>absurd h hij⟩ ⟨rfl,rfl,rfl,rfl,rfl,trivial⟩
 rintro ⟨i,hi0,hp0,hAi⟩
 dsimp only at hi0 hp0 hAi ⊢
 refine Yw (Y:={j:Nat // j≤jz∧Pin (fun x=>¬c P x<0) a bb i j P l m∧(i≤j→(fun x=>¬c P x<0) (gt m j))}) (X:={j:Nat // j≤jz∧Pin (fun x=>¬c P x<0) a bb i j P l m}) (fun j=>[(0,.slice (some ⟨bk,0,none⟩) n cap),(1,.int .i64 (a:Int)),(4,.func (.func fv) #[] #[]),(11,.int .i64 ((i:Nat):Int)),(12,.int .i64 ((j.1:Nat):Int))]) (fun _=>[Fc]) (fun _=>[Ax 46 nmf bk m q]) (fun j=>j.1) (fun j=>[(0,.slice (some ⟨bk,0,none⟩) n cap),(1,.int .i64 (a:Int)),(4,.func (.func fv) #[] #[]),(11,.int .i64 ((i:Nat):Int)),(12,.int .i64 ((j.1:Nat):Int))]) (fun _=>[Fc]) (fun _=>[Ax 46 nmf bk m q]) ⟨jz,Nat.le_refl _,hp0⟩ ⟨rfl,rfl,rfl,rfl,rfl,trivial⟩ ?_ ?_
 rotate_left
 ·intro hx
  rintro ⟨j,hj0,hp⟩
  dsimp only at hj0 hp ⊢
  have k1:=hp.h1
  have k2:=hp.h2
  have k3:=hp.h3
  by_cases hij:i≤j
  ·have hi:i<n:=by omega
   have hj:j<n:=by omega
   have ha:a<n:=by omega
   have gi:m[i]? = some (gt m i):=ZI (by omega)
   have gj:m[j]? = some (gt m j):=ZI (by omega)
   have sp:=hcmp P (gt m j) hUP (hUm _ (Zo (by omega)))
   by_cases hA:c P (gt m j)<0
   ·repeat' (first|refine ZE ?_|refine ZD ?_|refine ZL ?_|refine ZF ?_|refine ZS ?_|refine ZO ?_|refine ZV ?_|refine ZR (fun b=>?_)|refine ZX (fun b=>?_)|refine ZH ?_|refine ZB ?_|refine ZT ?_|refine ZZ ?_|refine Zf ?_|refine Za ?_|refine Zd ?_|refine Zj (fun b=>?_)|refine Zm (fun b=>?_)|refine Zk ?_|refine ZU ?_|rw [wi i hi]|rw [wj j (by omega) hj]|refine ZY (m:=n) (j) hj ?_|refine l_ixW (m:=n) (j) hj ?_|refine ZY (m:=n) (a) ha ?_|refine l_ixW (m:=n) (a) ha ?_|refine Zc 5 (j) 0 gj ?_|refine Zn 5 (j) 0 gj ?_|refine Zc 5 (a) 0 ga ?_|refine Zn 5 (a) 0 ga ?_|refine Zi sp (fun _ _=>?_)|(refine ZJ (fun hc=>?_) (fun hc=>?_)<;>(try simp at hc)<;>(try omega))|(refine ZP (fun hc=>?_) (fun hc=>?_)<;>(try simp at hc)<;>(try omega))|refine ZA 1 [] [(0,0),(1,0),(2,0),(3,0),(4,0),(5,0),(6,0),(7,0),(8,0),(9,0),(10,0),(11,0),(12,0),(13,4),(14,0)] [15] ?_|refine ZA 3 [] [(0,0),(1,0),(2,0),(3,0),(4,0),(5,0),(6,0),(7,0),(8,0),(9,0),(10,0),(11,0),(12,0),(13,4),(14,0),(15,0),(16,0)] [] ?_|refine ZA 5 [] [(0,0),(1,0),(2,0),(3,0),(4,0),(5,0),(6,0),(7,0),(8,0),(9,0),(10,0),(11,0),(12,0),(13,4),(14,0),(15,0)] [] ?_|refine ZA 8 [] [(0,0),(1,0),(2,0),(3,0),(4,0),(5,0),(6,0),(7,0),(8,0),(9,0),(10,0),(11,0),(12,0),(13,4),(14,0)] [15] ?_|(refine ZG (fun hc=>?_) (fun hc=>?_)<;>(try simp at hc)<;>(try omega)))
    exact Zb ⟨j - 1,by omega,hp.jj hij (fun h=>h hA)⟩ (by show j - 1<j;omega) ⟨rfl,rfl,rfl,rfl,rfl,trivial⟩
   ·repeat' (first|refine ZE ?_|refine ZD ?_|refine ZL ?_|refine ZF ?_|refine ZS ?_|refine ZO ?_|refine ZV ?_|refine ZR (fun b=>?_)|refine ZX (fun b=>?_)|refine ZH ?_|refine ZB ?_|refine ZT ?_|refine ZZ ?_|refine Zf ?_|refine Za ?_|refine Zd ?_|refine Zj (fun b=>?_)|refine Zm (fun b=>?_)|refine Zk ?_|refine ZU ?_|rw [wi i hi]|rw [wj j (by omega) hj]|refine ZY (m:=n) (j) hj ?_|refine l_ixW (m:=n) (j) hj ?_|refine ZY (m:=n) (a) ha ?_|refine l_ixW (m:=n) (a) ha ?_|refine Zc 5 (j) 0 gj ?_|refine Zn 5 (j) 0 gj ?_|refine Zc 5 (a) 0 ga ?_|refine Zn 5 (a) 0 ga ?_|refine Zi sp (fun _ _=>?_)|(refine ZJ (fun hc=>?_) (fun hc=>?_)<;>(try simp at hc)<;>(try omega))|(refine ZP (fun hc=>?_) (fun hc=>?_)<;>(try simp at hc)<;>(try omega))|refine ZA 1 [] [(0,0),(1,0),(2,0),(3,0),(4,0),(5,0),(6,0),(7,0),(8,0),(9,0),(10,0),(11,0),(12,0),(13,4),(14,0)] [15] ?_|refine ZA 3 [] [(0,0),(1,0),(2,0),(3,0),(4,0),(5,0),(6,0),(7,0),(8,0),(9,0),(10,0),(11,0),(12,0),(13,4),(14,0),(15,0),(16,0)] [] ?_|refine ZA 5 [] [(0,0),(1,0),(2,0),(3,0),(4,0),(5,0),(6,0),(7,0),(8,0),(9,0),(10,0),(11,0),(12,0),(13,4),(14,0),(15,0)] [] ?_|refine ZA 8 [] [(0,0),(1,0),(2,0),(3,0),(4,0),(5,0),(6,0),(7,0),(8,0),(9,0),(10,0),(11,0),(12,0),(13,4),(14,0)] [15] ?_|(refine ZG (fun hc=>?_) (fun hc=>?_)<;>(try simp at hc)<;>(try omega)))
    exact Z2 hx ⟨j,by omega,hp,fun _=>(hA)⟩ ⟨rfl,rfl,rfl,rfl,rfl,trivial⟩
  ·repeat' (first|refine ZE ?_|refine ZD ?_|refine ZL ?_|refine ZF ?_|refine ZS ?_|refine ZO ?_|refine ZV ?_|refine ZR (fun b=>?_)|refine ZX (fun b=>?_)|refine ZH ?_|refine ZB ?_|refine ZT ?_|refine ZZ ?_|refine Zf ?_|refine Za ?_|refine Zd ?_|refine Zj (fun b=>?_)|refine Zm (fun b=>?_)|refine Zk ?_|refine ZU ?_|(refine ZJ (fun hc=>?_) (fun hc=>?_)<;>(try simp at hc)<;>(try omega))|(refine ZP (fun hc=>?_) (fun hc=>?_)<;>(try simp at hc)<;>(try omega))|refine ZA 1 [] [(0,0),(1,0),(2,0),(3,0),(4,0),(5,0),(6,0),(7,0),(8,0),(9,0),(10,0),(11,0),(12,0),(13,4),(14,0)] [15] ?_|refine ZA 3 [] [(0,0),(1,0),(2,0),(3,0),(4,0),(5,0),(6,0),(7,0),(8,0),(9,0),(10,0),(11,0),(12,0),(13,4),(14,0),(15,0),(16,0)] [] ?_|refine ZA 5 [] [(0,0),(1,0),(2,0),(3,0),(4,0),(5,0),(6,0),(7,0),(8,0),(9,0),(10,0),(11,0),(12,0),(13,4),(14,0),(15,0)] [] ?_|refine ZA 8 [] [(0,0),(1,0),(2,0),(3,0),(4,0),(5,0),(6,0),(7,0),(8,0),(9,0),(10,0),(11,0),(12,0),(13,4),(14,0)] [15] ?_|(refine ZG (fun hc=>?_) (fun hc=>?_)<;>(try simp at hc)<;>(try omega)))
   exact Z2 hx ⟨j,by omega,hp,fun h=>absurd h hij⟩ ⟨rfl,rfl,rfl,rfl,rfl,trivial⟩
 rintro ⟨j,hj0,hp,hAj⟩
 dsimp only at hj0 hp hAj ⊢
 have k1:=hp.h1
 have k2:=hp.h2
 have k3:=hp.h3
 have hj:j<n:=by omega
 have kj:j<m.length:=by omega
 have hqm:AxOK (m.length * 5) q:=by rw [hm,←hn];exact hq
 have hqm2:∀k y,AxOK ((m.set k y).length * 5) q:=fun k y=>by rw [List.length_set];exact hqm
 by_cases hij:i≤j
 ·have hij2:=hp.ne hij (hAi (by omega)) (hAj hij)
  have hi:i<n:=by omega
  have ki:i<m.length:=by omega
  have kj2:j<(m.set i (gt m j)).length:=by rw [List.length_set];exact kj
  repeat' (first|refine ZE ?_|refine ZD ?_|refine ZL ?_|refine ZF ?_|refine ZS ?_|refine ZO ?_|refine ZV ?_|refine ZR (fun b=>?_)|refine ZX (fun b=>?_)|refine ZH ?_|refine ZB ?_|refine ZT ?_|refine ZZ ?_|refine Zf ?_|refine Za ?_|refine Zd ?_|refine Zj (fun b=>?_)|refine Zm (fun b=>?_)|refine Zk ?_|refine ZU ?_|rw [wi i hi]|rw [wj j (by omega) hj]|refine ZY (m:=n) (i) hi ?_|refine l_ixW (m:=n) (i) hi ?_|refine ZY (m:=n) (j) hj ?_|refine l_ixW (m:=n) (j) hj ?_|refine Ze 5 (i) 0 (ZI ki) ?_|refine Ze 5 (j) 0 (ZI kj) ?_|refine Z3 5 (i) 0 (gt m (j)) (ZI ki) hqm ?_|refine Zv 5 (i) 0 (gt m (j)) (ZI ki) hqm ?_|refine Zv 5 (j) 0 (gt m (i)) (ZI kj2) (hqm2 _ _) ?_|refine r_up ?_|(refine ZJ (fun hc=>?_) (fun hc=>?_)<;>(try simp at hc)<;>(try omega))|(refine ZP (fun hc=>?_) (fun hc=>?_)<;>(try simp at hc)<;>(try omega))|refine ZA 1 [] [(0,0),(1,0),(2,0),(3,0),(4,0),(5,0),(6,0),(7,0),(8,0),(9,0),(10,0),(11,0),(12,0),(13,4),(14,0)] [15] ?_|refine ZA 8 [Ax _ _ _ _ _] [(0,0),(1,0),(2,0),(3,0),(4,0),(5,0),(6,0),(8,0),(9,0),(10,0),(7,3),(11,3),(12,0),(13,4),(14,0)] [15] ?_|(refine ZG (fun hc=>?_) (fun hc=>?_)<;>(try simp at hc)<;>(try omega)))
  exact Zb ⟨(i+1,j - 1,sw m i j),hp.sw (by omega) hij2 (hAi (by omega)) (hAj hij)⟩ (by show j - 1+1 - (i+1)<j0+1 - i0;omega) ⟨rfl,rfl,rfl,rfl,rfl,trivial⟩
 ·repeat' (first|refine ZE ?_|refine ZD ?_|refine ZL ?_|refine ZF ?_|refine ZS ?_|refine ZO ?_|refine ZV ?_|refine ZR (fun b=>?_)|refine ZX (fun b=>?_)|refine ZH ?_|refine ZB ?_|refine ZW ?_|(refine ZJ (fun hc=>?_) (fun hc=>?_)<;>(try simp at hc)<;>(try omega))|(refine ZG (fun hc=>?_) (fun hc=>?_)<;>(try simp at hc)<;>(try omega)))
  exact ZK ⟨(i,m),hp.w,by omega,by omega,by rw [←hP];exact hp.pa,fun k h1 h2=>by
   by_cases hk:k=a
   ·rw [hk,hp.pa];exact W.i _
   ·rw [hp.pa];exact hp.lo k (by omega) h2⟩ rfl trivial
end
section
variable (bk cap:Nat) (q:List Value×(Nat×Nat)) (fv:FuncId) (Fc:Pf) (c:Nm→Nm→Int) (W:Wk0 c) (U:Nm→Prop) (hcmp:∀x y,U x→U y→Enters fv∧Spec prog fv #[x.v,y.v] [Fc] [] (RetV (.int .i64 (c x y))))
include hcmp W in
set_option maxHeartbeats 8000000 in
theorem pinsN_ok (l:List Nm) (n:Nat) (hn:n=l.length) (hn2:n≤1000000) (hq:AxOK (n * 5) q) (hU:∀x ∈ l,U x) (a bb:Nat) (hab:a<bb) (hb:bb≤n) (hlw:Lw c a bb l) :
  Enters 191∧Spec prog 191 #[.slice (some ⟨bk,0,none⟩) n cap,.int .i64 (a:Int),.int .i64 (bb:Int),.func (.func fv) #[] #[]] [Fc] [Ax 46 nmf bk l q]
   ⟨{t:Bool×List Nm // Win a bb l t.2∧(t.1=true→Sw c a bb t.2)},fun t=>.bool t.1.1,fun _=>True,fun _=>[],fun t=>[Ax 46 nmf bk t.1.2 q]⟩:=by
 have w0:IntKind.i64.wrap ((a:Int)+1)=((a+1:Nat):Int):=by simp (disch:=omega) only [wrapi];omega
 have wi:∀i,i<n→IntKind.i64.wrap ((i:Int)+1)=((i+1:Nat):Int):=fun i hi=>by simp (disch:=omega) only [wrapi];omega
 have wj:∀j,0<j→j<n→IntKind.i64.wrap ((j:Int) - 1)=((j - 1:Nat):Int):=fun j h0 hi=>by simp (disch:=omega) only [wrapi];omega
 have wba:IntKind.i64.wrap ((bb:Int) - (a:Int))=((bb - a:Nat):Int):=by simp (disch:=omega) only [wrapi];omega
 refine ZM [_,_,_,_] func191 ntmps191 fun G w hp=>?_
 repeat' (first|refine ZE ?_|refine ZD ?_|refine ZL ?_|refine ZF ?_|refine ZS ?_|refine ZO ?_|refine ZV ?_|refine ZR (fun b=>?_)|refine ZX (fun b=>?_)|refine ZH ?_|refine ZB ?_|rw [w0]|(refine ZJ (fun hc=>?_) (fun hc=>?_)<;>(try simp at hc))|(refine ZG (fun hc=>?_) (fun hc=>?_)<;>(try simp at hc)))
 refine Z8 (X:={t:Nat×Nat×List Nm // t.1≤5∧a<t.2.1∧t.2.1≤bb∧Win a bb l t.2.2∧Sw c a t.2.1 t.2.2}) (fun t=>[(0,.slice (some ⟨bk,0,none⟩) n cap),(1,.int .i64 (a:Int)),(2,.int .i64 (bb:Int)),(3,.func (.func fv) #[] #[]),(9,.int .i64 (t.1.2.1:Int)),(10,.int .i64 (t.1.1:Int))]) (fun _=>[Fc]) (fun t=>[Ax 46 nmf bk t.1.2.2 q]) (fun t=>5 - t.1.1)
  ⟨(0,a+1,l),by omega,by show a<a+1;omega,by show a+1≤bb;omega,Win.refl,Sw.nil (Nat.le_refl _)⟩ ⟨rfl,rfl,rfl,rfl,rfl,rfl,trivial⟩ ?_
 rintro ⟨⟨r,i0,m⟩,hr,h1,h2,h3,h4⟩
 dsimp only at hr h1 h2 h3 h4 ⊢
 have hm:=h3.len
 have hUm:=h3.sub hU
 by_cases hr5:r<5
 rotate_left
 ·repeat' (first|refine ZE ?_|refine ZD ?_|refine ZL ?_|refine ZF ?_|refine ZS ?_|refine ZO ?_|refine ZV ?_|refine ZR (fun b=>?_)|refine ZX (fun b=>?_)|refine ZH ?_|refine ZB ?_|refine ZW ?_|(refine ZJ (fun hc=>?_) (fun hc=>?_)<;>(try simp at hc)<;>(try omega))|(refine ZG (fun hc=>?_) (fun hc=>?_)<;>(try simp at hc)<;>(try omega)))
  exact ZK ⟨(false,m),h3,fun h=>by cases h⟩ rfl trivial
 have wr:IntKind.i64.wrap ((r:Int)+1)=((r+1:Nat):Int):=by simp (disch:=omega) only [wrapi];omega
 repeat' (first|refine ZE ?_|refine ZD ?_|refine ZL ?_|refine ZF ?_|refine ZS ?_|refine ZO ?_|refine ZV ?_|refine ZR (fun b=>?_)|refine ZX (fun b=>?_)|refine ZH ?_|refine ZB ?_|(refine ZJ (fun hc=>?_) (fun hc=>?_)<;>(try simp at hc)<;>(try omega))|(refine ZG (fun hc=>?_) (fun hc=>?_)<;>(try simp at hc)<;>(try omega)))
 refine Yw (Y:={i:Nat // a<i∧i≤bb∧Sw c a i m∧(i<bb→c (gt m i) (gt m (i - 1))<0)}) (X:={i:Nat // a<i∧i≤bb∧Sw c a i m}) (fun i=>[(0,.slice (some ⟨bk,0,none⟩) n cap),(1,.int .i64 (a:Int)),(2,.int .i64 (bb:Int)),(3,.func (.func fv) #[] #[]),(9,.int .i64 (i.1:Int)),(10,.int .i64 (r:Int))]) (fun _=>[Fc]) (fun _=>[Ax 46 nmf bk m q]) (fun i=>bb - i.1)
  (fun i=>[(0,.slice (some ⟨bk,0,none⟩) n cap),(1,.int .i64 (a:Int)),(2,.int .i64 (bb:Int)),(3,.func (.func fv) #[] #[]),(9,.int .i64 (i.1:Int)),(10,.int .i64 (r:Int))]) (fun _=>[Fc]) (fun _=>[Ax 46 nmf bk m q]) ⟨i0,h1,h2,h4⟩ ⟨rfl,rfl,rfl,rfl,rfl,rfl,trivial⟩ ?_ ?_
 rotate_left
 ·intro hx
  rintro ⟨i,g1,g2,g3⟩
  dsimp only at g1 g2 g3 ⊢
  by_cases hib:i<bb
  ·have hi:i<n:=by omega
   have hj:i - 1<n:=by omega
   have ki:i<m.length:=by omega
   have kj:i - 1<m.length:=by omega
   have sp:=hcmp (gt m i) (gt m (i - 1)) (hUm _ (Zo ki)) (hUm _ (Zo kj))
   by_cases hc0:c (gt m i) (gt m (i - 1))<0
   ·repeat' (first|refine ZE ?_|refine ZD ?_|refine ZL ?_|refine ZF ?_|refine ZS ?_|refine ZO ?_|refine ZV ?_|refine ZR (fun b=>?_)|refine ZX (fun b=>?_)|refine ZH ?_|refine ZB ?_|refine ZT ?_|refine ZZ ?_|refine Zf ?_|refine Za ?_|refine Zd ?_|refine Zj (fun b=>?_)|refine Zm (fun b=>?_)|refine Zk ?_|refine ZU ?_|refine ZY (m:=n) (i) hi ?_|refine l_ixW (m:=n) (i) hi ?_|refine ZY (m:=n) (i - 1) hj ?_|refine l_ixW (m:=n) (i - 1) hj ?_|refine Zc 5 (i) 0 (ZI ki) ?_|refine Zn 5 (i) 0 (ZI ki) ?_|refine Zc 5 (i - 1) 0 (ZI kj) ?_|refine Zn 5 (i - 1) 0 (ZI kj) ?_|refine Zi sp (fun _ _=>?_)|(refine ZJ (fun hc=>?_) (fun hc=>?_)<;>(try simp at hc)<;>(try omega))|(refine ZP (fun hc=>?_) (fun hc=>?_)<;>(try simp at hc)<;>(try omega))|refine ZA 5 [] [(0,0),(1,0),(2,0),(3,0),(4,0),(5,0),(6,0),(7,0),(8,0),(9,0),(10,0),(11,0),(12,0),(13,0),(14,4),(15,0),(16,0),(17,0)] [] ?_|refine ZA 11 [] [(0,0),(1,0),(2,0),(3,0),(4,0),(5,0),(6,0),(7,0),(8,0),(9,0),(10,0),(11,0),(12,0),(13,0),(14,0),(15,4),(16,0)] [17] ?_|refine ZA 16 [] [(0,0),(1,0),(2,0),(3,0),(4,0),(5,0),(6,0),(7,0),(8,0),(9,0),(10,4),(11,0),(12,0)] [] ?_|refine ZA 17 [] [(0,0),(1,0),(2,0),(3,0),(4,0),(5,0),(6,0),(7,0),(8,0),(9,0),(10,0),(11,0),(12,0),(13,0),(14,0),(15,4),(16,0)] [17] ?_|refine ZA 22 [] [(0,0),(1,0),(2,0),(3,0),(4,0),(5,0),(6,0),(7,0),(8,0),(9,0),(10,4),(11,0),(12,0)] [] ?_|refine ZA 23 [] [(0,0),(1,0),(2,0),(3,0),(4,0),(5,0),(6,0),(7,0),(8,0),(9,0),(10,0),(11,0),(12,0),(13,0),(14,0),(15,4),(16,0)] [17] ?_|(refine ZG (fun hc=>?_) (fun hc=>?_)<;>(try simp at hc)<;>(try omega)))
    exact Z2 hx ⟨i,g1,g2,g3,fun _=>hc0⟩ ⟨rfl,rfl,rfl,rfl,rfl,rfl,trivial⟩
   ·repeat' (first|refine ZE ?_|refine ZD ?_|refine ZL ?_|refine ZF ?_|refine ZS ?_|refine ZO ?_|refine ZV ?_|refine ZR (fun b=>?_)|refine ZX (fun b=>?_)|refine ZH ?_|refine ZB ?_|refine ZT ?_|refine ZZ ?_|refine Zf ?_|refine Za ?_|refine Zd ?_|refine Zj (fun b=>?_)|refine Zm (fun b=>?_)|refine Zk ?_|refine ZU ?_|refine ZY (m:=n) (i) hi ?_|refine l_ixW (m:=n) (i) hi ?_|refine ZY (m:=n) (i - 1) hj ?_|refine l_ixW (m:=n) (i - 1) hj ?_|refine Zc 5 (i) 0 (ZI ki) ?_|refine Zn 5 (i) 0 (ZI ki) ?_|refine Zc 5 (i - 1) 0 (ZI kj) ?_|refine Zn 5 (i - 1) 0 (ZI kj) ?_|refine Zi sp (fun _ _=>?_)|rw [wi i hi]|(refine ZJ (fun hc=>?_) (fun hc=>?_)<;>(try simp at hc)<;>(try omega))|(refine ZP (fun hc=>?_) (fun hc=>?_)<;>(try simp at hc)<;>(try omega))|refine ZA 5 [] [(0,0),(1,0),(2,0),(3,0),(4,0),(5,0),(6,0),(7,0),(8,0),(9,0),(10,0),(11,0),(12,0),(13,0),(14,4),(15,0),(16,0),(17,0)] [] ?_|refine ZA 11 [] [(0,0),(1,0),(2,0),(3,0),(4,0),(5,0),(6,0),(7,0),(8,0),(9,0),(10,0),(11,0),(12,0),(13,0),(14,0),(15,4),(16,0)] [17] ?_|refine ZA 16 [] [(0,0),(1,0),(2,0),(3,0),(4,0),(5,0),(6,0),(7,0),(8,0),(9,0),(10,4),(11,0),(12,0)] [] ?_|refine ZA 17 [] [(0,0),(1,0),(2,0),(3,0),(4,0),(5,0),(6,0),(7,0),(8,0),(9,0),(10,0),(11,0),(12,0),(13,0),(14,0),(15,4),(16,0)] [17] ?_|refine ZA 22 [] [(0,0),(1,0),(2,0),(3,0),(4,0),(5,0),(6,0),(7,0),(8,0),(9,0),(10,4),(11,0),(12,0)] [] ?_|refine ZA 23 [] [(0,0),(1,0),(2,0),(3,0),(4,0),(5,0),(6,0),(7,0),(8,0),(9,0),(10,0),(11,0),(12,0),(13,0),(14,0),(15,4),(16,0)] [17] ?_|(refine ZG (fun hc=>?_) (fun hc=>?_)<;>(try simp at hc)<;>(try omega)))
    exact Zb ⟨i+1,by omega,by omega,g3.snoc W g1 hc0⟩ (by show bb - (i+1)<bb - i;omega) ⟨rfl,rfl,rfl,rfl,rfl,rfl,trivial⟩
  ·repeat' (first|refine ZE ?_|refine ZD ?_|refine ZL ?_|refine ZF ?_|refine ZS ?_|refine ZO ?_|refine ZV ?_|refine ZR (fun b=>?_)|refine ZX (fun b=>?_)|refine ZH ?_|refine ZB ?_|refine ZT ?_|refine ZZ ?_|refine Zf ?_|refine Za ?_|refine Zd ?_|refine Zj (fun b=>?_)|refine Zm (fun b=>?_)|refine Zk ?_|refine ZU ?_|(refine ZJ (fun hc=>?_) (fun hc=>?_)<;>(try simp at hc)<;>(try omega))|(refine ZP (fun hc=>?_) (fun hc=>?_)<;>(try simp at hc)<;>(try omega))|refine ZA 5 [] [(0,0),(1,0),(2,0),(3,0),(4,0),(5,0),(6,0),(7,0),(8,0),(9,0),(10,0),(11,0),(12,0),(13,0),(14,4),(15,0),(16,0),(17,0)] [] ?_|refine ZA 11 [] [(0,0),(1,0),(2,0),(3,0),(4,0),(5,0),(6,0),(7,0),(8,0),(9,0),(10,0),(11,0),(12,0),(13,0),(14,0),(15,4),(16,0)] [17] ?_|refine ZA 16 [] [(0,0),(1,0),(2,0),(3,0),(4,0),(5,0),(6,0),(7,0),(8,0),(9,0),(10,4),(11,0),(12,0)] [] ?_|refine ZA 17 [] [(0,0),(1,0),(2,0),(3,0),(4,0),(5,0),(6,0),(7,0),(8,0),(9,0),(10,0),(11,0),(12,0),(13,0),(14,0),(15,4),(16,0)] [17] ?_|refine ZA 22 [] [(0,0),(1,0),(2,0),(3,0),(4,0),(5,0),(6,0),(7,0),(8,0),(9,0),(10,4),(11,0),(12,0)] [] ?_|refine ZA 23 [] [(0,0),(1,0),(2,0),(3,0),(4,0),(5,0),(6,0),(7,0),(8,0),(9,0),(10,0),(11,0),(12,0),(13,0),(14,0),(15,4),(16,0)] [17] ?_|(refine ZG (fun hc=>?_) (fun hc=>?_)<;>(try simp at hc)<;>(try omega)))
   exact Z2 hx ⟨i,g1,g2,g3,fun h=>absurd h hib⟩ ⟨rfl,rfl,rfl,rfl,rfl,rfl,trivial⟩
 rintro ⟨i,g1,g2,g3,g4⟩
 dsimp only at g1 g2 g3 g4 ⊢
 by_cases hib:i=bb
 ·subst hib
  have e0:decide ((i:Int)=(i:Int))=true:=decide_eq_true rfl
  repeat' (first|refine ZE ?_|refine ZD ?_|refine ZL ?_|refine ZF ?_|refine ZS ?_|refine ZO ?_|refine ZV ?_|refine ZR (fun b=>?_)|refine ZX (fun b=>?_)|refine ZH ?_|refine ZB ?_|(refine ZJ (fun hc=>?_) (fun hc=>?_)<;>(try simp at hc)<;>(try omega))|(refine ZG (fun hc=>?_) (fun hc=>?_)<;>(try simp at hc)<;>(try omega)))
  exact Ym (Yx (YD ⟨(true,m),h3,fun _=>g3⟩ rfl trivial))
 by_cases h50:bb - a<50
 ·repeat' (first|refine ZE ?_|refine ZD ?_|refine ZL ?_|refine ZF ?_|refine ZS ?_|refine ZO ?_|refine ZV ?_|refine ZR (fun b=>?_)|refine ZX (fun b=>?_)|refine ZH ?_|refine ZB ?_|rw [wba]|(refine ZJ (fun hc=>?_) (fun hc=>?_)<;>(try simp at hc)<;>(try omega))|(refine ZG (fun hc=>?_) (fun hc=>?_)<;>(try simp at hc)<;>(try omega)))
  exact Ym (Yx (YD ⟨(false,m),h3,fun h=>by cases h⟩ rfl trivial))
 have hc0:=g4 (by omega)
 have hi:i<n:=by omega
 have hj:i - 1<n:=by omega
 have ki:i<m.length:=by omega
 have kj:i - 1<m.length:=by omega
 have kj2:i - 1<(m.set i (gt m (i - 1))).length:=by rw [List.length_set];exact kj
 have hqm:AxOK (m.length * 5) q:=by rw [hm,←hn];exact hq
 have hqm2:∀k y,AxOK ((m.set k y).length * 5) q:=fun k y=>by rw [List.length_set];exact hqm
 have wia:IntKind.i64.wrap ((i:Int) - (a:Int))=((i - a:Nat):Int):=by simp (disch:=omega) only [wrapi];omega
 have wbi:IntKind.i64.wrap ((bb:Int) - (i:Int))=((bb - i:Nat):Int):=by simp (disch:=omega) only [wrapi];omega
 have b1:((i:Int) == (bb:Int))=false:=by rw [beq_eq_false_iff_ne];omega
 have b2:decide (((bb - a:Nat):Int)<50)=false:=decide_eq_false (by omega)
 repeat' (first|refine ZE ?_|refine ZD ?_|refine ZL ?_|refine ZF ?_|refine ZS ?_|refine ZO ?_|refine ZV ?_|refine ZR (fun b=>?_)|refine ZX (fun b=>?_)|refine ZH ?_|refine ZB ?_|refine ZT ?_|refine ZZ ?_|refine Zf ?_|refine Za ?_|refine Zd ?_|refine Zj (fun b=>?_)|refine Zm (fun b=>?_)|refine Zk ?_|refine ZU ?_|refine ZY (m:=n) (i) hi ?_|refine l_ixW (m:=n) (i) hi ?_|refine ZY (m:=n) (i - 1) hj ?_|refine l_ixW (m:=n) (i - 1) hj ?_|refine Ze 5 (i) 0 (ZI ki) ?_|refine Ze 5 (i - 1) 0 (ZI kj) ?_|refine Z3 5 (i) 0 (gt m (i - 1)) (ZI ki) hqm ?_|refine Zv 5 (i) 0 (gt m (i - 1)) (ZI ki) hqm ?_|refine Zv 5 (i - 1) 0 (gt m (i)) (ZI kj2) (hqm2 _ _) ?_|rw [wba]|rw [wia]|rw [b1]|rw [b2]|refine r_up ?_|(refine ZJ (fun hc=>?_) (fun hc=>?_)<;>(try simp at hc))|(refine ZP (fun hc=>?_) (fun hc=>?_)<;>(try simp at hc))|refine ZA 5 [] [(0,0),(1,0),(2,0),(3,0),(4,0),(5,0),(6,0),(7,0),(8,0),(9,0),(10,0),(11,0),(12,0),(13,0),(14,4),(15,0),(16,0),(17,0)] [] ?_|refine ZA 11 [Ax _ _ _ _ _] [(0,0),(1,0),(2,0),(3,0),(4,0),(5,0),(6,0),(7,0),(8,0),(10,0),(11,0),(12,0),(9,3),(13,3),(14,0),(15,4),(16,0)] [17] ?_)
 obtain ⟨m1,hm1⟩:∃m1,m1=sw m i (i - 1):=⟨_,rfl⟩
 have hw1:Win a bb l m1:=by rw [hm1];exact h3.trans (Win.sw (by omega) (by omega) (by omega) (by omega) (by omega))
 have hl1:Lsh c a i (i - 1) m1:=by rw [hm1];exact Lsh.init g3 (by omega) g1
 have hm1l:=hw1.len
 refine k_ax m1 hm1.symm ?_
 refine k_cut (Y:={m2:List Nm // Win a bb l m2∧Sw c a i m2}) (fun _=>[(0,.slice (some ⟨bk,0,none⟩) n cap),(1,.int .i64 (a:Int)),(2,.int .i64 (bb:Int)),(3,.func (.func fv) #[] #[]),(9,.int .i64 (i:Int)),(10,.int .i64 (r:Int))]) (fun _=>[Fc]) (fun m2=>[Ax 46 nmf bk m2.1 q]) ?_ ?_
 ·rintro ⟨m2,hw2,hs2⟩
  dsimp only at hw2 hs2 ⊢
  have hm2l:=hw2.len
  by_cases hbi:bb - i<2
  ·repeat' (first|refine ZE ?_|refine ZD ?_|refine ZL ?_|refine ZF ?_|refine ZS ?_|refine ZO ?_|refine ZV ?_|refine ZR (fun b=>?_)|refine ZX (fun b=>?_)|refine ZH ?_|refine ZB ?_|rw [wbi]|rw [wr]|(refine ZJ (fun hc=>?_) (fun hc=>?_)<;>(try simp at hc)<;>(try omega))|(refine ZG (fun hc=>?_) (fun hc=>?_)<;>(try simp at hc)<;>(try omega)))
   exact Zb ⟨(r+1,i,m2),by show r+1≤5;omega,g1,g2,hw2,hs2⟩ (by show 5 - (r+1)<5 - r;omega) ⟨rfl,rfl,rfl,rfl,rfl,rfl,trivial⟩
  ·repeat' (first|refine ZE ?_|refine ZD ?_|refine ZL ?_|refine ZF ?_|refine ZS ?_|refine ZO ?_|refine ZV ?_|refine ZR (fun b=>?_)|refine ZX (fun b=>?_)|refine ZH ?_|refine ZB ?_|rw [wbi]|rw [wi i hi]|(refine ZJ (fun hc=>?_) (fun hc=>?_)<;>(try simp at hc)<;>(try omega))|(refine ZG (fun hc=>?_) (fun hc=>?_)<;>(try simp at hc)<;>(try omega)))
   refine Yw (Y:={m3:List Nm // Win i bb m2 m3}) (X:={t:Nat×List Nm // i<t.1∧t.1≤bb∧Win i bb m2 t.2}) (fun t=>[(0,.slice (some ⟨bk,0,none⟩) n cap),(1,.int .i64 (a:Int)),(2,.int .i64 (bb:Int)),(3,.func (.func fv) #[] #[]),(9,.int .i64 (i:Int)),(10,.int .i64 (r:Int)),(12,.int .i64 (t.1.1:Int))]) (fun _=>[Fc]) (fun t=>[Ax 46 nmf bk t.1.2 q]) (fun t=>bb - t.1.1)
    (fun _=>[(0,.slice (some ⟨bk,0,none⟩) n cap),(1,.int .i64 (a:Int)),(2,.int .i64 (bb:Int)),(3,.func (.func fv) #[] #[]),(9,.int .i64 (i:Int)),(10,.int .i64 (r:Int))]) (fun _=>[Fc]) (fun m3=>[Ax 46 nmf bk m3.1 q]) ⟨(i+1,m2),by show i<i+1;omega,by show i+1≤bb;omega,Win.refl⟩ ⟨rfl,rfl,rfl,rfl,rfl,rfl,rfl,trivial⟩ ?_ ?_
   rotate_left
   ·intro hx
    rintro ⟨⟨j,m3⟩,j1,j2,j3⟩
    dsimp only at j1 j2 j3 ⊢
    have hm3l:=j3.len
    by_cases hjb:j<bb
    ·have hja:j<n:=by omega
     have hjb2:j - 1<n:=by omega
     have kja:j<m3.length:=by omega
     have kjb:j - 1<m3.length:=by omega
     have kjb2:j - 1<(m3.set j (gt m3 (j - 1))).length:=by rw [List.length_set];exact kjb
     have hU3:=(hw2.trans (j3.mono (by omega) (Nat.le_refl _))).sub hU
     have hq3:AxOK (m3.length * 5) q:=by rw [hm3l,hm2l,←hn];exact hq
     have hq32:∀k y,AxOK ((m3.set k y).length * 5) q:=fun k y=>by rw [List.length_set];exact hq3
     have sp:=hcmp (gt m3 j) (gt m3 (j - 1)) (hU3 _ (Zo kja)) (hU3 _ (Zo kjb))
     by_cases hc1:c (gt m3 j) (gt m3 (j - 1))<0
     ·repeat' (first|refine ZE ?_|refine ZD ?_|refine ZL ?_|refine ZF ?_|refine ZS ?_|refine ZO ?_|refine ZV ?_|refine ZR (fun b=>?_)|refine ZX (fun b=>?_)|refine ZH ?_|refine ZB ?_|refine ZT ?_|refine ZZ ?_|refine Zf ?_|refine Za ?_|refine Zd ?_|refine Zj (fun b=>?_)|refine Zm (fun b=>?_)|refine Zk ?_|refine ZU ?_|refine ZY (m:=n) (j) hja ?_|refine l_ixW (m:=n) (j) hja ?_|refine ZY (m:=n) (j - 1) hjb2 ?_|refine l_ixW (m:=n) (j - 1) hjb2 ?_|refine Ze 5 (j) 0 (ZI kja) ?_|refine Ze 5 (j - 1) 0 (ZI kjb) ?_|refine Z3 5 (j) 0 (gt m3 (j - 1)) (ZI kja) hq3 ?_|refine Zv 5 (j) 0 (gt m3 (j - 1)) (ZI kja) hq3 ?_|refine Zv 5 (j - 1) 0 (gt m3 (j)) (ZI kjb2) (hq32 _ _) ?_|refine ZY (m:=n) (j) hja ?_|refine l_ixW (m:=n) (j) hja ?_|refine ZY (m:=n) (j - 1) hjb2 ?_|refine l_ixW (m:=n) (j - 1) hjb2 ?_|refine Zc 5 (j) 0 (ZI kja) ?_|refine Zn 5 (j) 0 (ZI kja) ?_|refine Zc 5 (j - 1) 0 (ZI kjb) ?_|refine Zn 5 (j - 1) 0 (ZI kjb) ?_|refine Zi sp (fun _ _=>?_)|rw [wi j hja]|refine r_up ?_|(refine ZJ (fun hc=>?_) (fun hc=>?_)<;>(try simp at hc)<;>(try omega))|(refine ZP (fun hc=>?_) (fun hc=>?_)<;>(try simp at hc)<;>(try omega))|refine ZA 5 [] [(0,0),(1,0),(2,0),(3,0),(4,0),(5,0),(6,0),(7,0),(8,0),(9,0),(10,0),(11,0),(12,0),(13,0),(14,4),(15,0),(16,0),(17,0)] [] ?_|refine ZA 11 [] [(0,0),(1,0),(2,0),(3,0),(4,0),(5,0),(6,0),(7,0),(8,0),(9,0),(10,0),(11,0),(12,0),(13,0),(14,0),(15,4),(16,0)] [17] ?_|refine ZA 16 [] [(0,0),(1,0),(2,0),(3,0),(4,0),(5,0),(6,0),(7,0),(8,0),(9,0),(10,4),(11,0),(12,0)] [] ?_|refine ZA 17 [] [(0,0),(1,0),(2,0),(3,0),(4,0),(5,0),(6,0),(7,0),(8,0),(9,0),(10,0),(11,0),(12,0),(13,0),(14,0),(15,4),(16,0)] [17] ?_|refine ZA 22 [] [(0,0),(1,0),(2,0),(3,0),(4,0),(5,0),(6,0),(7,0),(8,0),(9,0),(10,4),(11,0),(12,0)] [] ?_|refine ZA 23 [Ax _ _ _ _ _] [(0,0),(1,0),(2,0),(3,0),(4,0),(5,0),(6,0),(7,0),(8,0),(10,0),(11,0),(12,0),(9,3),(13,3),(14,0),(15,4),(16,0)] [17] ?_|(refine ZG (fun hc=>?_) (fun hc=>?_)<;>(try simp at hc)<;>(try omega)))
      exact Zb ⟨(j+1,sw m3 j (j - 1)),by show i<j+1;omega,by show j+1≤bb;omega,j3.trans (Win.sw (by omega) hjb (by omega) (by omega) (by omega))⟩ (by show bb - (j+1)<bb - j;omega) ⟨rfl,rfl,rfl,rfl,rfl,rfl,rfl,trivial⟩
     ·repeat' (first|refine ZE ?_|refine ZD ?_|refine ZL ?_|refine ZF ?_|refine ZS ?_|refine ZO ?_|refine ZV ?_|refine ZR (fun b=>?_)|refine ZX (fun b=>?_)|refine ZH ?_|refine ZB ?_|refine ZT ?_|refine ZZ ?_|refine Zf ?_|refine Za ?_|refine Zd ?_|refine Zj (fun b=>?_)|refine Zm (fun b=>?_)|refine Zk ?_|refine ZU ?_|refine ZY (m:=n) (j) hja ?_|refine l_ixW (m:=n) (j) hja ?_|refine ZY (m:=n) (j - 1) hjb2 ?_|refine l_ixW (m:=n) (j - 1) hjb2 ?_|refine Zc 5 (j) 0 (ZI kja) ?_|refine Zn 5 (j) 0 (ZI kja) ?_|refine Zc 5 (j - 1) 0 (ZI kjb) ?_|refine Zn 5 (j - 1) 0 (ZI kjb) ?_|refine Zi sp (fun _ _=>?_)|(refine ZJ (fun hc=>?_) (fun hc=>?_)<;>(try simp at hc)<;>(try omega))|(refine ZP (fun hc=>?_) (fun hc=>?_)<;>(try simp at hc)<;>(try omega))|refine ZA 5 [] [(0,0),(1,0),(2,0),(3,0),(4,0),(5,0),(6,0),(7,0),(8,0),(9,0),(10,0),(11,0),(12,0),(13,0),(14,4),(15,0),(16,0),(17,0)] [] ?_|refine ZA 11 [] [(0,0),(1,0),(2,0),(3,0),(4,0),(5,0),(6,0),(7,0),(8,0),(9,0),(10,0),(11,0),(12,0),(13,0),(14,0),(15,4),(16,0)] [17] ?_|refine ZA 16 [] [(0,0),(1,0),(2,0),(3,0),(4,0),(5,0),(6,0),(7,0),(8,0),(9,0),(10,4),(11,0),(12,0)] [] ?_|refine ZA 17 [] [(0,0),(1,0),(2,0),(3,0),(4,0),(5,0),(6,0),(7,0),(8,0),(9,0),(10,0),(11,0),(12,0),(13,0),(14,0),(15,4),(16,0)] [17] ?_|refine ZA 22 [] [(0,0),(1,0),(2,0),(3,0),(4,0),(5,0),(6,0),(7,0),(8,0),(9,0),(10,4),(11,0),(12,0)] [] ?_|refine ZA 23 [] [(0,0),(1,0),(2,0),(3,0),(4,0),(5,0),(6,0),(7,0),(8,0),(9,0),(10,0),(11,0),(12,0),(13,0),(14,0),(15,4),(16,0)] [17] ?_|(refine ZG (fun hc=>?_) (fun hc=>?_)<;>(try simp at hc)<;>(try omega)))
      exact Z2 hx ⟨m3,j3⟩ ⟨rfl,rfl,rfl,rfl,rfl,rfl,trivial⟩
    ·repeat' (first|refine ZE ?_|refine ZD ?_|refine ZL ?_|refine ZF ?_|refine ZS ?_|refine ZO ?_|refine ZV ?_|refine ZR (fun b=>?_)|refine ZX (fun b=>?_)|refine ZH ?_|refine ZB ?_|(refine ZJ (fun hc=>?_) (fun hc=>?_)<;>(try simp at hc)<;>(try omega))|(refine ZG (fun hc=>?_) (fun hc=>?_)<;>(try simp at hc)<;>(try omega)))
     exact Z2 hx ⟨m3,j3⟩ ⟨rfl,rfl,rfl,rfl,rfl,rfl,trivial⟩
   rintro ⟨m3,j3⟩
   repeat' (first|refine ZE ?_|refine ZD ?_|refine ZL ?_|refine ZF ?_|refine ZS ?_|refine ZO ?_|refine ZV ?_|refine ZR (fun b=>?_)|refine ZX (fun b=>?_)|refine ZH ?_|refine ZB ?_|rw [wr]|(refine ZJ (fun hc=>?_) (fun hc=>?_)<;>(try simp at hc)<;>(try omega))|(refine ZG (fun hc=>?_) (fun hc=>?_)<;>(try simp at hc)<;>(try omega)))
   exact Zb ⟨(r+1,i,m3),by show r+1≤5;omega,g1,g2,hw2.trans (j3.mono (by omega) (Nat.le_refl _)),hs2.out j3⟩ (by show 5 - (r+1)<5 - r;omega) ⟨rfl,rfl,rfl,rfl,rfl,rfl,trivial⟩
 ·intro hcut
  by_cases hia:i - a<2
  ·repeat' (first|refine XJ ?_|refine Xb hcut ⟨m1,hw1,Sw.nil (by omega)⟩ ⟨rfl,rfl,rfl,rfl,rfl,rfl,trivial⟩|refine ZE ?_|refine ZD ?_|refine ZL ?_|refine ZF ?_|refine ZS ?_|refine ZO ?_|refine ZV ?_|refine ZR (fun b=>?_)|refine ZX (fun b=>?_)|refine ZH ?_|refine ZB ?_|(refine ZJ (fun hc=>?_) (fun hc=>?_)<;>(try simp at hc)<;>(try omega))|(refine ZG (fun hc=>?_) (fun hc=>?_)<;>(try simp at hc)<;>(try omega)))
  ·repeat' (first|refine ZE ?_|refine ZD ?_|refine ZL ?_|refine ZF ?_|refine ZS ?_|refine ZO ?_|refine ZV ?_|refine ZR (fun b=>?_)|refine ZX (fun b=>?_)|refine ZH ?_|refine ZB ?_|rw [wj i (by omega) hi]|(refine ZJ (fun hc=>?_) (fun hc=>?_)<;>(try simp at hc)<;>(try omega))|(refine ZG (fun hc=>?_) (fun hc=>?_)<;>(try simp at hc)<;>(try omega)))
   refine Yw (Y:={m3:List Nm // Win a i m1 m3∧Sw c a i m3}) (X:={t:Nat×List Nm // a≤t.1∧t.1<i∧Win a i m1 t.2∧Lsh c a i t.1 t.2}) (fun t=>[(0,.slice (some ⟨bk,0,none⟩) n cap),(1,.int .i64 (a:Int)),(2,.int .i64 (bb:Int)),(3,.func (.func fv) #[] #[]),(9,.int .i64 (i:Int)),(10,.int .i64 (r:Int)),(11,.int .i64 (t.1.1:Int))]) (fun _=>[Fc]) (fun t=>[Ax 46 nmf bk t.1.2 q]) (fun t=>t.1.1)
    (fun _=>[(0,.slice (some ⟨bk,0,none⟩) n cap),(1,.int .i64 (a:Int)),(2,.int .i64 (bb:Int)),(3,.func (.func fv) #[] #[]),(9,.int .i64 (i:Int)),(10,.int .i64 (r:Int))]) (fun _=>[Fc]) (fun m3=>[Ax 46 nmf bk m3.1 q]) ⟨(i - 1,m1),by show a≤i - 1;omega,by show i - 1<i;omega,Win.refl,hl1⟩ ⟨rfl,rfl,rfl,rfl,rfl,rfl,rfl,trivial⟩ ?_ ?_
   rotate_left
   ·intro hx
    rintro ⟨⟨j,m3⟩,j1,j2,j3,j4⟩
    dsimp only at j1 j2 j3 j4 ⊢
    have hm3l:=j3.len
    have hw3:=hw1.trans (j3.mono (Nat.le_refl _) g2)
    by_cases hj0:1≤j
    ·have hja:j<n:=by omega
     have hjb2:j - 1<n:=by omega
     have kja:j<m3.length:=by omega
     have kjb:j - 1<m3.length:=by omega
     have kjb2:j - 1<(m3.set j (gt m3 (j - 1))).length:=by rw [List.length_set];exact kjb
     have hU3:=hw3.sub hU
     have hq3:AxOK (m3.length * 5) q:=by rw [hm3l,hm1l,←hn];exact hq
     have hq32:∀k y,AxOK ((m3.set k y).length * 5) q:=fun k y=>by rw [List.length_set];exact hq3
     have sp:=hcmp (gt m3 j) (gt m3 (j - 1)) (hU3 _ (Zo kja)) (hU3 _ (Zo kjb))
     by_cases hc1:c (gt m3 j) (gt m3 (j - 1))<0
     ·have haj:a<j:=by
       by_cases hj:j=a
       ·subst hj
        exact absurd hc1 (hlw.win hw3 (by omega) (by omega) j (Nat.le_refl _) hab)
       ·omega
      repeat' (first|refine ZE ?_|refine ZD ?_|refine ZL ?_|refine ZF ?_|refine ZS ?_|refine ZO ?_|refine ZV ?_|refine ZR (fun b=>?_)|refine ZX (fun b=>?_)|refine ZH ?_|refine ZB ?_|refine ZT ?_|refine ZZ ?_|refine Zf ?_|refine Za ?_|refine Zd ?_|refine Zj (fun b=>?_)|refine Zm (fun b=>?_)|refine Zk ?_|refine ZU ?_|refine ZY (m:=n) (j) hja ?_|refine l_ixW (m:=n) (j) hja ?_|refine ZY (m:=n) (j - 1) hjb2 ?_|refine l_ixW (m:=n) (j - 1) hjb2 ?_|refine Ze 5 (j) 0 (ZI kja) ?_|refine Ze 5 (j - 1) 0 (ZI kjb) ?_|refine Z3 5 (j) 0 (gt m3 (j - 1)) (ZI kja) hq3 ?_|refine Zv 5 (j) 0 (gt m3 (j - 1)) (ZI kja) hq3 ?_|refine Zv 5 (j - 1) 0 (gt m3 (j)) (ZI kjb2) (hq32 _ _) ?_|refine ZY (m:=n) (j) hja ?_|refine l_ixW (m:=n) (j) hja ?_|refine ZY (m:=n) (j - 1) hjb2 ?_|refine l_ixW (m:=n) (j - 1) hjb2 ?_|refine Zc 5 (j) 0 (ZI kja) ?_|refine Zn 5 (j) 0 (ZI kja) ?_|refine Zc 5 (j - 1) 0 (ZI kjb) ?_|refine Zn 5 (j - 1) 0 (ZI kjb) ?_|refine Zi sp (fun _ _=>?_)|rw [wj j hj0 hja]|refine r_up ?_|(refine ZJ (fun hc=>?_) (fun hc=>?_)<;>(try simp at hc)<;>(try omega))|(refine ZP (fun hc=>?_) (fun hc=>?_)<;>(try simp at hc)<;>(try omega))|refine ZA 5 [] [(0,0),(1,0),(2,0),(3,0),(4,0),(5,0),(6,0),(7,0),(8,0),(9,0),(10,0),(11,0),(12,0),(13,0),(14,4),(15,0),(16,0),(17,0)] [] ?_|refine ZA 11 [] [(0,0),(1,0),(2,0),(3,0),(4,0),(5,0),(6,0),(7,0),(8,0),(9,0),(10,0),(11,0),(12,0),(13,0),(14,0),(15,4),(16,0)] [17] ?_|refine ZA 16 [] [(0,0),(1,0),(2,0),(3,0),(4,0),(5,0),(6,0),(7,0),(8,0),(9,0),(10,4),(11,0),(12,0)] [] ?_|refine ZA 17 [Ax _ _ _ _ _] [(0,0),(1,0),(2,0),(3,0),(4,0),(5,0),(6,0),(7,0),(8,0),(10,0),(11,0),(12,0),(9,3),(13,3),(14,0),(15,4),(16,0)] [17] ?_|refine ZA 22 [] [(0,0),(1,0),(2,0),(3,0),(4,0),(5,0),(6,0),(7,0),(8,0),(9,0),(10,4),(11,0),(12,0)] [] ?_|refine ZA 23 [] [(0,0),(1,0),(2,0),(3,0),(4,0),(5,0),(6,0),(7,0),(8,0),(9,0),(10,0),(11,0),(12,0),(13,0),(14,0),(15,4),(16,0)] [17] ?_|(refine ZG (fun hc=>?_) (fun hc=>?_)<;>(try simp at hc)<;>(try omega)))
      exact Zb ⟨(j - 1,sw m3 j (j - 1)),by show a≤j - 1;omega,by show j - 1<i;omega,j3.trans (Win.sw j1 j2 (by omega) (by omega) (by omega)),j4.step W haj j2 (by omega) hc1⟩ (by show j - 1<j;omega) ⟨rfl,rfl,rfl,rfl,rfl,rfl,rfl,trivial⟩
     ·repeat' (first|refine ZE ?_|refine ZD ?_|refine ZL ?_|refine ZF ?_|refine ZS ?_|refine ZO ?_|refine ZV ?_|refine ZR (fun b=>?_)|refine ZX (fun b=>?_)|refine ZH ?_|refine ZB ?_|refine ZT ?_|refine ZZ ?_|refine Zf ?_|refine Za ?_|refine Zd ?_|refine Zj (fun b=>?_)|refine Zm (fun b=>?_)|refine Zk ?_|refine ZU ?_|refine ZY (m:=n) (j) hja ?_|refine l_ixW (m:=n) (j) hja ?_|refine ZY (m:=n) (j - 1) hjb2 ?_|refine l_ixW (m:=n) (j - 1) hjb2 ?_|refine Zc 5 (j) 0 (ZI kja) ?_|refine Zn 5 (j) 0 (ZI kja) ?_|refine Zc 5 (j - 1) 0 (ZI kjb) ?_|refine Zn 5 (j - 1) 0 (ZI kjb) ?_|refine Zi sp (fun _ _=>?_)|(refine ZJ (fun hc=>?_) (fun hc=>?_)<;>(try simp at hc)<;>(try omega))|(refine ZP (fun hc=>?_) (fun hc=>?_)<;>(try simp at hc)<;>(try omega))|refine ZA 5 [] [(0,0),(1,0),(2,0),(3,0),(4,0),(5,0),(6,0),(7,0),(8,0),(9,0),(10,0),(11,0),(12,0),(13,0),(14,4),(15,0),(16,0),(17,0)] [] ?_|refine ZA 11 [] [(0,0),(1,0),(2,0),(3,0),(4,0),(5,0),(6,0),(7,0),(8,0),(9,0),(10,0),(11,0),(12,0),(13,0),(14,0),(15,4),(16,0)] [17] ?_|refine ZA 16 [] [(0,0),(1,0),(2,0),(3,0),(4,0),(5,0),(6,0),(7,0),(8,0),(9,0),(10,4),(11,0),(12,0)] [] ?_|refine ZA 17 [] [(0,0),(1,0),(2,0),(3,0),(4,0),(5,0),(6,0),(7,0),(8,0),(9,0),(10,0),(11,0),(12,0),(13,0),(14,0),(15,4),(16,0)] [17] ?_|refine ZA 22 [] [(0,0),(1,0),(2,0),(3,0),(4,0),(5,0),(6,0),(7,0),(8,0),(9,0),(10,4),(11,0),(12,0)] [] ?_|refine ZA 23 [] [(0,0),(1,0),(2,0),(3,0),(4,0),(5,0),(6,0),(7,0),(8,0),(9,0),(10,0),(11,0),(12,0),(13,0),(14,0),(15,4),(16,0)] [17] ?_|(refine ZG (fun hc=>?_) (fun hc=>?_)<;>(try simp at hc)<;>(try omega)))
      exact Z2 hx ⟨m3,j3,j4.stop W fun _=>hc1⟩ ⟨rfl,rfl,rfl,rfl,rfl,rfl,trivial⟩
    ·repeat' (first|refine ZE ?_|refine ZD ?_|refine ZL ?_|refine ZF ?_|refine ZS ?_|refine ZO ?_|refine ZV ?_|refine ZR (fun b=>?_)|refine ZX (fun b=>?_)|refine ZH ?_|refine ZB ?_|(refine ZJ (fun hc=>?_) (fun hc=>?_)<;>(try simp at hc)<;>(try omega))|(refine ZG (fun hc=>?_) (fun hc=>?_)<;>(try simp at hc)<;>(try omega)))
     exact Z2 hx ⟨m3,j3,j4.stop W fun h=>by omega⟩ ⟨rfl,rfl,rfl,rfl,rfl,rfl,trivial⟩
   rintro ⟨m3,j3,j4⟩
   dsimp only at j3 j4 ⊢
   exact Xb hcut ⟨m3,hw1.trans (j3.mono (Nat.le_refl _) g2),j4⟩ ⟨rfl,rfl,rfl,rfl,rfl,rfl,trivial⟩
end
section
variable (bk cap:Nat) (q:List Value×(Nat×Nat)) (fv:FuncId) (Fc:Pf) (c:Nm→Nm→Int) (W:Wk0 c) (U:Nm→Prop) (hcmp:∀x y,U x→U y→Enters fv∧Spec prog fv #[x.v,y.v] [Fc] [] (RetV (.int .i64 (c x y))))
include hcmp W in
theorem insSN_ok (l:List Nm) (n:Nat) (hn:n=l.length) (hn2:n≤1000000) (hq:AxOK (n * 5) q) (hU:∀x ∈ l,U x) (a bb:Nat) (hab:a≤bb) (hb:bb≤n) :
  Enters 186∧Spec prog 186 #[.slice (some ⟨bk,0,none⟩) n cap,.int .i64 (a:Int),.int .i64 (bb:Int),.func (.func fv) #[] #[]] [Fc] [Ax 46 nmf bk l q]
   ⟨{l':List Nm // Win a bb l l'∧Sw c a bb l'},fun _=>.tuple #[],fun _=>True,fun _=>[],fun l'=>[Ax 46 nmf bk l'.1 q]⟩:=by
 obtain ⟨A,M,B,hl,hA,hM⟩:∃A M B,l=A++(M++B)∧A.length=a∧M.length=bb - a:=⟨l.take a,(l.drop a).take (bb - a),(l.drop a).drop (bb - a),by rw [List.take_append_drop,List.take_append_drop],by rw [List.length_take];omega,by rw [List.length_take,List.length_drop];omega⟩
 subst hl hA
 have e:bb=A.length+M.length:=by omega
 subst e
 have s:=insWN_ok bk cap q fv Fc c U hcmp A M B n (by rw [hn];simp) hn2 hq hU
 have h:=sw_of (A:=A) (B:=B) (isR_srd W M)
 rw [isR_len] at h
 exact ⟨s.1,s.2.imp fun G w hp x w' hx hs=>⟨⟨A++(isR c M++B),win_of (W1 M),h⟩,rfl,trivial,hs⟩⟩
include hcmp W in
set_option maxHeartbeats 8000000 in
theorem pdqWN_ok:∀(N:Nat) (l:List Nm) (n:Nat) (_:n=l.length) (_:n<256) (_:AxOK (n * 5) q) (_:∀x ∈ l,U x) (a bb:Nat) (_:a≤bb) (_:bb≤n) (_:bb - a≤N) (_:Lw c a bb l) (lim:Int),
  Enters 136∧Spec prog 136 #[.slice (some ⟨bk,0,none⟩) n cap,.int .i64 (a:Int),.int .i64 (bb:Int),.int .i64 lim,.func (.func fv) #[] #[]] [Fc] [Ax 46 nmf bk l q]
   ⟨{l':List Nm // Win a bb l l'∧Sw c a bb l'},fun _=>.tuple #[],fun _=>True,fun _=>[],fun l'=>[Ax 46 nmf bk l'.1 q]⟩:=by
 intro N
 induction N using Nat.strongRecOn with
 | ind N ih=>
 intro l n hn hn2 hq hU a bb hab hb hN hlw lim
 have ih2:=fun (m:List Nm) (hm:n=m.length) (hUm:∀x ∈ m,U x) (a' b':Nat) (h1:a'≤b') (h2:b'≤n) (h3:b' - a'<bb - a) (h4:Lw c a' b' m) lim=>ih (b' - a') (by omega) m n hm hn2 hq hUm a' b' h1 h2 (Nat.le_refl _) h4 lim
 clear ih
 refine ZM [_,_,_,_,_] func136 ntmps136 fun G w hp=>?_
 repeat' (first|refine ZE ?_|refine ZD ?_|refine ZL ?_|refine ZF ?_|refine ZS ?_|refine ZO ?_|refine ZV ?_|refine ZR (fun b=>?_)|refine ZX (fun b=>?_)|refine ZH ?_|refine ZB ?_|(refine ZJ (fun hc=>?_) (fun hc=>?_)<;>(try simp at hc))|(refine ZG (fun hc=>?_) (fun hc=>?_)<;>(try simp at hc)))
 refine Z8 (X:={t:Nat×Nat×Int×Bool×Bool×List Nm // t.1≤t.2.1∧Jw c a bb t.1 t.2.1 l t.2.2.2.2.2}) (fun t=>[(0,.slice (some ⟨bk,0,none⟩) n cap),(1,.int .i64 (t.1.1:Int)),(2,.int .i64 (t.1.2.1:Int)),(3,.int .i64 t.1.2.2.1),(4,.func (.func fv) #[] #[]),(10,.bool t.1.2.2.2.1),(11,.bool t.1.2.2.2.2.1)]) (fun _=>[Fc]) (fun t=>[Ax 46 nmf bk t.1.2.2.2.2.2 q]) (fun t=>t.1.2.1 - t.1.1)
  ⟨(a,bb,lim,true,true,l),hab,Jw.init⟩ ⟨rfl,rfl,rfl,rfl,rfl,rfl,rfl,trivial⟩ ?_
 rintro ⟨⟨a1,b1,li,wb,wp,m⟩,h1,hJ⟩
 dsimp only at h1 hJ ⊢
 have hm:=hJ.w.len
 have ha1:=hJ.h1
 have hb1:=hJ.h2
 have hUm:=hJ.w.sub hU
 have hbl:bb≤l.length:=by omega
 obtain ⟨L,hL⟩:∃L,L=b1 - a1:=⟨_,rfl⟩
 have w0:IntKind.i64.wrap ((b1:Int) - (a1:Int))=(L:Int):=by simp (disch:=omega) only [wrapi];omega
 by_cases h12:L≤12
 ·have s1:=insSN_ok bk cap q fv Fc c W U hcmp m n (by omega) (by omega) hq hUm a1 b1 h1 (by omega)
  repeat' (first|refine ZE ?_|refine ZD ?_|refine ZL ?_|refine ZF ?_|refine ZS ?_|refine ZO ?_|refine ZV ?_|refine ZR (fun b=>?_)|refine ZX (fun b=>?_)|refine ZH ?_|refine ZB ?_|refine ZC (s1) (fun _ _=>?_)|refine l_call0 (s1) (fun _ _=>?_)|rw [w0]|(refine ZJ (fun hc=>?_) (fun hc=>?_)<;>(try simp at hc)<;>(try omega))|(refine ZG (fun hc=>?_) (fun hc=>?_)<;>(try simp at hc)<;>(try omega)))
  rename_i l' _
  obtain ⟨l',g1,g2⟩:=l'
  exact Ym (Yx (YD ⟨l',(hJ.win hbl g1).done g2⟩ rfl trivial))
 by_cases hli:li=0
 ·have s1:=heapN_ok bk cap q fv Fc c W U hcmp m n (by omega) (by omega) hq hUm a1 b1 (by omega) (by omega)
  repeat' (first|refine ZE ?_|refine ZD ?_|refine ZL ?_|refine ZF ?_|refine ZS ?_|refine ZO ?_|refine ZV ?_|refine ZR (fun b=>?_)|refine ZX (fun b=>?_)|refine ZH ?_|refine ZB ?_|refine ZC (s1) (fun _ _=>?_)|refine l_call0 (s1) (fun _ _=>?_)|rw [w0]|(refine ZJ (fun hc=>?_) (fun hc=>?_)<;>(try simp at hc)<;>(try omega))|(refine ZG (fun hc=>?_) (fun hc=>?_)<;>(try simp at hc)<;>(try omega)))
  rename_i l' _
  obtain ⟨l',g1,g2⟩:=l'
  exact Ym (Yx (YD ⟨l',(hJ.win hbl g1).done g2⟩ rfl trivial))
 have e12:decide ((L:Int)≤12)=false:=decide_eq_false (by omega)
 have eli:(li == 0)=false:=by rw [beq_eq_false_iff_ne];exact hli
 repeat' (first|refine ZE ?_|refine ZD ?_|refine ZL ?_|refine ZF ?_|refine ZS ?_|refine ZO ?_|refine ZV ?_|refine ZR (fun b=>?_)|refine ZX (fun b=>?_)|refine ZH ?_|refine ZB ?_|rw [w0]|rw [e12]|rw [eli]|(refine ZJ (fun hc=>?_) (fun hc=>?_)<;>(try simp at hc)))
 refine k_cut (Y:={t:Int×List Nm // Win a1 b1 m t.2}) (fun t=>[(0,.slice (some ⟨bk,0,none⟩) n cap),(1,.int .i64 (a1:Int)),(2,.int .i64 (b1:Int)),(3,.int .i64 t.1.1),(4,.func (.func fv) #[] #[]),(10,.bool wb),(11,.bool wp),(12,.int .i64 (L:Int))]) (fun _=>[Fc]) (fun t=>[Ax 46 nmf bk t.1.2 q]) ?_ ?_
 rotate_left
 ·intro hcut
  cases wb with
  | true=>
   repeat' (first|refine XJ ?_|refine Xb hcut ⟨(li,m),Win.refl⟩ ⟨rfl,rfl,rfl,rfl,rfl,rfl,rfl,rfl,trivial⟩|refine ZE ?_|refine ZD ?_|refine ZL ?_|refine ZF ?_|refine ZS ?_|refine ZO ?_|refine ZV ?_|refine ZR (fun b=>?_)|refine ZX (fun b=>?_)|refine ZH ?_|refine ZB ?_|(refine ZJ (fun hc=>?_) (fun hc=>?_)<;>(try simp at hc))|(refine ZG (fun hc=>?_) (fun hc=>?_)<;>(try simp at hc)))
  | false=>
   have s1:=brkN_ok bk cap q fv Fc m n (by omega) hn2 hq a1 b1 (by omega) (by omega)
   repeat' (first|refine XJ ?_|refine Xb hcut ⟨(_,_),?_⟩ ⟨rfl,rfl,rfl,rfl,rfl,rfl,rfl,rfl,trivial⟩|refine ZE ?_|refine ZD ?_|refine ZL ?_|refine ZF ?_|refine ZS ?_|refine ZO ?_|refine ZV ?_|refine ZR (fun b=>?_)|refine ZX (fun b=>?_)|refine ZH ?_|refine ZB ?_|refine ZC (s1) (fun _ _=>?_)|refine l_call0 (s1) (fun _ _=>?_)|(refine ZJ (fun hc=>?_) (fun hc=>?_)<;>(try simp at hc))|(refine ZG (fun hc=>?_) (fun hc=>?_)<;>(try simp at hc)))
   rename_i l' _
   exact l'.2
 rintro ⟨⟨li1,m1⟩,hw1⟩
 dsimp only at hw1 ⊢
 have hm1:=hw1.len
 have hJ1:=hJ.win hbl hw1
 have sp:=chpN_ok bk cap q fv Fc c U hcmp m1 n (by omega) (by omega) (hJ1.w.sub hU) a1 b1 (by omega) (by omega)
 repeat' (first|refine ZE ?_|refine ZD ?_|refine ZL ?_|refine ZF ?_|refine ZS ?_|refine ZO ?_|refine ZV ?_|refine ZR (fun b=>?_)|refine ZX (fun b=>?_)|refine ZH ?_|refine ZB ?_|refine ZC (sp) (fun _ _=>?_)|refine l_call0 (sp) (fun _ _=>?_)|(refine ZJ (fun hc=>?_) (fun hc=>?_)<;>(try simp at hc)))
 rename_i p _
 obtain ⟨⟨p,z⟩,hp1,hp2,hz⟩:=p
 dsimp only at hp1 hp2 hz ⊢
 refine k_cut (Y:={t:Nat×Int×List Nm // a1≤t.1∧t.1<b1∧Win a1 b1 m1 t.2.2}) (fun t=>[(0,.slice (some ⟨bk,0,none⟩) n cap),(1,.int .i64 (a1:Int)),(2,.int .i64 (b1:Int)),(3,.int .i64 li1),(4,.func (.func fv) #[] #[]),(10,.bool wb),(11,.bool wp),(12,.int .i64 (L:Int)),(13,.int .i64 (t.1.1:Int)),(14,.int .i64 t.1.2.1)]) (fun _=>[Fc]) (fun t=>[Ax 46 nmf bk t.1.2.2 q]) ?_ ?_
 rotate_left
 ·intro hcut
  by_cases hz2:z=2
  ·subst hz2
   have s1:=revN_ok bk cap q fv Fc m1 n (by omega) (by omega) hq a1 b1 (by omega) (by omega)
   have w1:IntKind.i64.wrap (IntKind.i64.wrap ((b1:Int) - 1) - IntKind.i64.wrap ((p:Int) - (a1:Int)))=((b1 - 1 - (p - a1):Nat):Int):=by simp (disch:=omega) only [wrapi];omega
   refine ZH ?_
   refine ZF ?_
   repeat' (first|refine ZE ?_|refine l_call0 s1 (fun _ _=>?_)|refine ZC s1 (fun _ _=>?_))
   refine ZD ?_
   refine ZF ?_
   repeat' (first|refine ZE ?_)
   rw [w1]
   refine ZD ?_
   refine ZF ?_
   repeat' (first|refine ZE ?_)
   refine ZD ?_
   rename_i l' _
   refine Xb hcut ⟨(b1 - 1 - (p - a1),_,_),?_⟩ ⟨rfl,rfl,rfl,rfl,rfl,rfl,rfl,rfl,rfl,rfl,trivial⟩
   exact ⟨by show a1≤b1 - 1 - (p - a1);omega,by show b1 - 1 - (p - a1)<b1;omega,l'.2⟩
  ·have ez:(z == 2)=false:=by rw [beq_eq_false_iff_ne];exact hz2
   rw [ez]
   repeat' (first|refine XJ ?_|refine Xb hcut ⟨(p,z,m1),hp1,hp2,Win.refl⟩ ⟨rfl,rfl,rfl,rfl,rfl,rfl,rfl,rfl,rfl,rfl,trivial⟩|refine ZE ?_|refine ZD ?_|refine ZL ?_|refine ZF ?_|refine ZS ?_|refine ZO ?_|refine ZV ?_|refine ZR (fun b=>?_)|refine ZX (fun b=>?_)|refine ZH ?_|refine ZB ?_|(refine ZJ (fun hc=>?_) (fun hc=>?_)<;>(try simp at hc))|(refine ZG (fun hc=>?_) (fun hc=>?_)<;>(try simp at hc)))
 rintro ⟨⟨p,z,m2⟩,hp1,hp2,hw2⟩
 dsimp only at hp1 hp2 hw2 ⊢
 have hm2:=hw2.len
 have hJ2:=hJ1.win hbl hw2
 have hlw2:=hJ2.low hbl hlw
 have sp:=pinsN_ok bk cap q fv Fc c W U hcmp m2 n (by omega) (by omega) hq (hJ2.w.sub hU) a1 b1 (by omega) (by omega) hlw2
 refine Vc (Y:={m3:List Nm // Win a1 b1 m2 m3}) 1 (fun _=>[(0,.slice (some ⟨bk,0,none⟩) n cap),(1,.int .i64 (a1:Int)),(2,.int .i64 (b1:Int)),(3,.int .i64 li1),(4,.func (.func fv) #[] #[]),(10,.bool wb),(11,.bool wp),(12,.int .i64 (L:Int)),(13,.int .i64 (p:Int))]) (fun _=>[Fc]) (fun m3=>[Ax 46 nmf bk m3.1 q]) ?_ ?_
 rotate_left
 ·intro hcut
  repeat' (first|refine XJ ?_|refine Xb hcut ⟨_,?_⟩ ⟨rfl,rfl,rfl,rfl,rfl,rfl,rfl,rfl,rfl,trivial⟩|refine ZE ?_|refine ZD ?_|refine ZL ?_|refine ZF ?_|refine ZS ?_|refine ZO ?_|refine ZV ?_|refine ZR (fun b=>?_)|refine ZX (fun b=>?_)|refine ZH ?_|refine ZB ?_|refine ZC (sp) (fun _ _=>?_)|refine l_call0 (sp) (fun _ _=>?_)|(refine ZJ (fun hc=>?_) (fun hc=>?_)<;>(try simp at hc))|(refine ZG (fun hc=>?_) (fun hc=>?_)<;>(try simp at hc)))
  ·rename_i x _
   obtain ⟨⟨f,m3⟩,g1,g2⟩:=x
   obtain rfl:f=true:=hc
   exact Ym (Yx (YD ⟨m3,(hJ2.win hbl g1).done (g2 rfl)⟩ rfl trivial))
  ·rename_i x _
   exact x.2.1
  all_goals exact Win.refl
 rintro ⟨m3,hw3⟩
 dsimp only at hw3 ⊢
 have hm3:=hw3.len
 have hJ3:=hJ2.win hbl hw3
 have hlw3:=hJ3.low hbl hlw
 have hU3:=hJ3.w.sub hU
 have hn3:n=m3.length:=by omega
 have hp:p<n:=by omega
 have kp:p<m3.length:=by omega
 have ga:=fun (h:0<a1)=>ZI (l:=m3) (i:=a1 - 1) (by omega)
 have wa1:0<a1→IntKind.i64.wrap ((a1:Int) - 1)=((a1 - 1:Nat):Int):=fun h=>by simp (disch:=omega) only [wrapi];omega
 by_cases h0:0<a1∧¬c (gt m3 (a1 - 1)) (gt m3 p)<0
 ·have g1:=ga h0.1
  have hh1:a1 - 1<n:=by omega
  have sp2:=hcmp (gt m3 (a1 - 1)) (gt m3 p) (hU3 _ (Zo (by omega))) (hU3 _ (Zo kp))
  have s1:=parEN_ok bk cap q fv Fc c W U hcmp m3 n hn3 (by omega) hq hU3 a1 b1 p (by omega) (by omega) hp1 hp2
  have h01:=h0.1
  have h02:=h0.2
  repeat' (first|refine ZE ?_|refine ZD ?_|refine ZL ?_|refine ZF ?_|refine ZS ?_|refine ZO ?_|refine ZV ?_|refine ZR (fun b=>?_)|refine ZX (fun b=>?_)|refine ZH ?_|refine ZB ?_|refine ZT ?_|refine ZZ ?_|refine Zf ?_|refine Za ?_|refine Zd ?_|refine Zj (fun b=>?_)|refine Zm (fun b=>?_)|refine Zk ?_|refine ZU ?_|refine ZC (s1) (fun _ _=>?_)|refine l_call0 (s1) (fun _ _=>?_)|refine ZN (s1) (fun _ _=>?_)|rw [wa1 h01]|refine ZY (m:=n) (a1 - 1) hh1 ?_|refine ZY (m:=n) p hp ?_|refine Zc 5 (a1 - 1) 0 g1 ?_|refine Zc 5 p 0 (ZI kp) ?_|refine Zi sp2 (fun _ _=>?_)|(refine ZJ (fun hc=>?_) (fun hc=>?_)<;>(try simp at hc)<;>(try omega))|(refine ZP (fun hc=>?_) (fun hc=>?_)<;>(try simp at hc)<;>(try omega))|refine ZA 17 [] [(0,0),(1,0),(2,0),(3,0),(4,0),(5,0),(6,0),(7,0),(8,0),(9,0),(10,0),(11,0),(12,0),(13,4),(14,0),(15,0),(16,0)] [] ?_|(refine ZG (fun hc=>?_) (fun hc=>?_)<;>(try simp at hc)<;>(try omega)))
  rename_i x _
  obtain ⟨⟨mid,m4⟩,f1,f2,f3,f4,f5⟩:=x
  dsimp only at f1 f2 f3 f4 f5 ⊢
  have hlow:∀k,a1≤k→k<b1→¬c (gt m4 k) (gt m4 a1)<0:=fun k k1 k2=>by
   rw [f4]
   exact f1.all (by omega) (P:=fun x=>¬c x (gt m3 p)<0) (fun k k1 k2=>W.t _ _ _ h02 (hlw3 h01 k k1 k2)) k k1 k2
  exact Zb ⟨(mid,b1,li1,wb,wp,m4),f3,(hJ3.win hbl f1).shrink (by omega) (Nat.le_refl _) (eq_shrink W hlow f5)⟩ (by show b1 - mid<b1 - a1;omega) ⟨rfl,rfl,rfl,rfl,rfl,rfl,rfl,trivial⟩
 ·have s1:=partN_ok bk cap q fv Fc c U hcmp m3 n hn3 (by omega) hq hU3 a1 b1 p (by omega) (by omega) hp1 hp2
  have w8:IntKind.i64.wrap ((L:Int).tdiv 8)=((L / 8:Nat):Int):=by
   have:(L:Int).tdiv 8=((L / 8:Nat):Int):=(Int.ofNat_tdiv _ _).symm
   rw [this,wrapi (by omega) (by omega)]
  have key:∀(mid:Nat) (ap:Bool) (m4:List Nm),Win a1 b1 m3 m4→Pt0 c a1 b1 mid m4→True:=fun _ _ _ _ _=>trivial
  clear key
  refine Vc (Y:={t:Nat×Bool×List Nm // Win a1 b1 m3 t.2.2∧Pt0 c a1 b1 t.1 t.2.2}) 2 (fun t=>[(0,.slice (some ⟨bk,0,none⟩) n cap),(1,.int .i64 (a1:Int)),(2,.int .i64 (b1:Int)),(3,.int .i64 li1),(4,.func (.func fv) #[] #[]),(12,.int .i64 (L:Int)),(16,.int .i64 (t.1.1:Int)),(17,.bool t.1.2.1)]) (fun _=>[Fc]) (fun t=>[Ax 46 nmf bk t.1.2.2 q]) ?_ ?_
  rotate_left
  ·intro hcut
   by_cases h01:0<a1
   ·have g1:=ga h01
    have hh1:a1 - 1<n:=by omega
    have sp2:=hcmp (gt m3 (a1 - 1)) (gt m3 p) (hU3 _ (Zo (by omega))) (hU3 _ (Zo kp))
    have h02:c (gt m3 (a1 - 1)) (gt m3 p)<0:=Classical.byContradiction fun h=>h0 ⟨h01,h⟩
    repeat' (first|refine XJ ?_|refine Xb hcut ⟨(_,_,_),?_⟩ ⟨rfl,rfl,rfl,rfl,rfl,rfl,rfl,rfl,trivial⟩|refine ZE ?_|refine ZD ?_|refine ZL ?_|refine ZF ?_|refine ZS ?_|refine ZO ?_|refine ZV ?_|refine ZR (fun b=>?_)|refine ZX (fun b=>?_)|refine ZH ?_|refine ZB ?_|refine ZT ?_|refine ZZ ?_|refine Zf ?_|refine Za ?_|refine Zd ?_|refine Zj (fun b=>?_)|refine Zm (fun b=>?_)|refine Zk ?_|refine ZU ?_|refine ZC (s1) (fun _ _=>?_)|refine l_call0 (s1) (fun _ _=>?_)|refine ZN (s1) (fun _ _=>?_)|rw [wa1 h01]|refine ZY (m:=n) (a1 - 1) hh1 ?_|refine ZY (m:=n) p hp ?_|refine Zc 5 (a1 - 1) 0 g1 ?_|refine Zc 5 p 0 (ZI kp) ?_|refine Zi sp2 (fun _ _=>?_)|(refine ZJ (fun hc=>?_) (fun hc=>?_)<;>(try simp at hc)<;>(try omega))|(refine ZP (fun hc=>?_) (fun hc=>?_)<;>(try simp at hc)<;>(try omega))|refine ZA 17 [] [(0,0),(1,0),(2,0),(3,0),(4,0),(5,0),(6,0),(7,0),(8,0),(9,0),(10,0),(11,0),(12,0),(13,4),(14,0),(15,0),(16,0)] [] ?_|(refine ZG (fun hc=>?_) (fun hc=>?_)<;>(try simp at hc)<;>(try omega)))
   ·repeat' (first|refine XJ ?_|refine Xb hcut ⟨(_,_,_),?_⟩ ⟨rfl,rfl,rfl,rfl,rfl,rfl,rfl,rfl,trivial⟩|refine ZE ?_|refine ZD ?_|refine ZL ?_|refine ZF ?_|refine ZS ?_|refine ZO ?_|refine ZV ?_|refine ZR (fun b=>?_)|refine ZX (fun b=>?_)|refine ZH ?_|refine ZB ?_|refine ZT ?_|refine ZZ ?_|refine Zf ?_|refine Za ?_|refine Zd ?_|refine Zj (fun b=>?_)|refine Zm (fun b=>?_)|refine Zk ?_|refine ZU ?_|refine ZC (s1) (fun _ _=>?_)|refine l_call0 (s1) (fun _ _=>?_)|refine ZN (s1) (fun _ _=>?_)|(refine ZJ (fun hc=>?_) (fun hc=>?_)<;>(try simp at hc)<;>(try omega))|(refine ZP (fun hc=>?_) (fun hc=>?_)<;>(try simp at hc)<;>(try omega))|refine ZA 17 [] [(0,0),(1,0),(2,0),(3,0),(4,0),(5,0),(6,0),(7,0),(8,0),(9,0),(10,0),(11,0),(12,0),(13,4),(14,0),(15,0),(16,0)] [] ?_|(refine ZG (fun hc=>?_) (fun hc=>?_)<;>(try simp at hc)<;>(try omega)))
  clear s1
  rintro ⟨⟨mid,ap,m4⟩,f1,f2⟩
  dsimp only at f1 f2 ⊢
  have f3:=f2.h1
  have f4:=f2.h2
  have hJ4:=hJ3.win hbl f1
  have hlw4:=hJ4.low hbl hlw
  have hm4:=f1.len
  have hU4:=hJ4.w.sub hU
  have w1:IntKind.i64.wrap ((mid:Int) - (a1:Int))=((mid - a1:Nat):Int):=by simp (disch:=omega) only [wrapi];omega
  have w2:IntKind.i64.wrap ((b1:Int) - (mid:Int))=((b1 - mid:Nat):Int):=by simp (disch:=omega) only [wrapi];omega
  have w3:IntKind.i64.wrap ((mid:Int)+1)=((mid+1:Nat):Int):=by simp (disch:=omega) only [wrapi];omega
  by_cases hlr:mid - a1<b1 - mid
  ·have s1:=ih2 m4 (by omega) hU4 a1 mid f3 (by omega) (by omega) (hlw4.sub (by omega)) li1
   repeat' (first|refine ZE ?_|refine ZD ?_|refine ZL ?_|refine ZF ?_|refine ZS ?_|refine ZO ?_|refine ZV ?_|refine ZR (fun b=>?_)|refine ZX (fun b=>?_)|refine ZH ?_|refine ZB ?_|refine ZC (s1) (fun _ _=>?_)|refine l_call0 (s1) (fun _ _=>?_)|rw [w1]|rw [w2]|rw [w3]|rw [w8]|(refine ZJ (fun hc=>?_) (fun hc=>?_)<;>(try simp at hc)<;>(try omega))|(refine ZG (fun hc=>?_) (fun hc=>?_)<;>(try simp at hc)<;>(try omega)))
   rename_i x _
   obtain ⟨m5,k1,k2⟩:=x
   exact Zb ⟨(mid+1,b1,li1,_,ap,m5),by show mid+1≤b1;omega,(hJ4.win hbl (k1.mono (Nat.le_refl _) (by omega))).shrink (by omega) (Nat.le_refl _) (f2.left W (by omega) k1 k2)⟩ (by show b1 - (mid+1)<b1 - a1;omega) ⟨rfl,rfl,rfl,rfl,rfl,rfl,rfl,trivial⟩
  ·have s1:=ih2 m4 (by omega) hU4 (mid+1) b1 (by omega) (by omega) (by omega) f2.lw li1
   repeat' (first|refine ZE ?_|refine ZD ?_|refine ZL ?_|refine ZF ?_|refine ZS ?_|refine ZO ?_|refine ZV ?_|refine ZR (fun b=>?_)|refine ZX (fun b=>?_)|refine ZH ?_|refine ZB ?_|refine ZC (s1) (fun _ _=>?_)|refine l_call0 (s1) (fun _ _=>?_)|rw [w1]|rw [w2]|rw [w3]|rw [w8]|(refine ZJ (fun hc=>?_) (fun hc=>?_)<;>(try simp at hc)<;>(try omega))|(refine ZG (fun hc=>?_) (fun hc=>?_)<;>(try simp at hc)<;>(try omega)))
   rename_i x _
   obtain ⟨m5,k1,k2⟩:=x
   exact Zb ⟨(a1,mid,li1,_,ap,m5),f3,(hJ4.win hbl (k1.mono (by omega) (Nat.le_refl _))).shrink (Nat.le_refl _) (by show mid≤b1;omega) (f2.right W (by omega) k1 k2)⟩ (by show mid - a1<b1 - a1;omega) ⟨rfl,rfl,rfl,rfl,rfl,rfl,rfl,trivial⟩
end
theorem insN0_ok (o:Option Addr) (cap:Nat) (fv:FuncId) :
  Enters 186∧Spec prog 186 #[.slice o 0 cap,.int .i64 0,.int .i64 0,.func (.func fv) #[] #[]] [] [] ⟨Unit,fun _=>.tuple #[],fun _=>True,fun _=>[],fun _=>[]⟩:=by
 refine ZM [_,_,_,_] func186 ntmps186 fun G w hp=>?_
 repeat' (first|refine ZE ?_|refine ZD ?_|refine ZL ?_|refine ZF ?_|refine ZS ?_|refine ZO ?_|refine ZV ?_|refine ZR (fun b=>?_)|refine ZX (fun b=>?_)|refine ZH ?_|refine ZB ?_|refine ZW ?_|refine ZT ?_|refine ZZ ?_|refine Zf ?_|refine Za ?_|refine Zd ?_|refine Zj (fun b=>?_)|refine Zm (fun b=>?_)|refine Zk ?_|refine ZU ?_|refine ZJ (fun hc=>?_) (fun hc=>?_)|refine ZP (fun hc=>?_) (fun hc=>?_)|refine ZA 4 [] [(0,0),(1,0),(2,0),(3,0),(4,0),(5,0),(6,0),(7,0),(8,0),(9,0),(10,0),(11,0),(12,0),(13,0),(14,4),(15,0),(16,0)] [] ?_|refine ZA 6 [] [(0,0),(1,0),(2,0),(3,0),(4,0),(5,0),(6,0),(7,0),(8,0),(9,0),(10,0),(11,0),(12,0),(13,0),(14,0),(15,4),(16,0)] [17] ?_|refine ZG (fun hc=>?_) (fun hc=>?_))
 refine Z8 (X:=Unit) (fun _=>[(2,.int .i64 0),(8,.int .i64 1)]) (fun _=>[]) (fun _=>[]) (fun _=>0) () ⟨rfl,rfl,trivial⟩ ?_
 rintro ⟨⟩
 repeat' (first|refine ZE ?_|refine ZD ?_|refine ZL ?_|refine ZF ?_|refine ZS ?_|refine ZO ?_|refine ZV ?_|refine ZR (fun b=>?_)|refine ZX (fun b=>?_)|refine ZH ?_|refine ZB ?_|refine ZW ?_|(refine ZJ (fun hc=>?_) (fun hc=>?_)<;>(try simp at hc)<;>(try omega))|(refine ZG (fun hc=>?_) (fun hc=>?_)<;>(try simp at hc)<;>(try omega)))
 exact Yc () rfl trivial
theorem pdqN0_ok (o:Option Addr) (cap:Nat) (lim:Int) (fv:FuncId) :
  Enters 136∧Spec prog 136 #[.slice o 0 cap,.int .i64 0,.int .i64 0,.int .i64 lim,.func (.func fv) #[] #[]] [] [] ⟨Unit,fun _=>.tuple #[],fun _=>True,fun _=>[],fun _=>[]⟩:=by
 have s1:=insN0_ok o cap fv
 refine ZM [_,_,_,_,_] func136 ntmps136 fun G w hp=>?_
 repeat' (first|refine ZE ?_|refine ZD ?_|refine ZL ?_|refine ZF ?_|refine ZS ?_|refine ZO ?_|refine ZV ?_|refine ZR (fun b=>?_)|refine ZX (fun b=>?_)|refine ZH ?_|refine ZB ?_|refine ZW ?_|refine ZJ (fun hc=>?_) (fun hc=>?_)|refine ZG (fun hc=>?_) (fun hc=>?_))
 refine Z8 (X:=Unit) (fun _=>[(0,.slice o 0 cap),(1,.int .i64 0),(2,.int .i64 0),(3,.int .i64 lim),(4,.func (.func fv) #[] #[])]) (fun _=>[]) (fun _=>[]) (fun _=>0) () ⟨rfl,rfl,rfl,rfl,rfl,trivial⟩ ?_
 rintro ⟨⟩
 repeat' (first|refine ZE ?_|refine ZD ?_|refine ZL ?_|refine ZF ?_|refine ZS ?_|refine ZO ?_|refine ZV ?_|refine ZR (fun b=>?_)|refine ZX (fun b=>?_)|refine ZH ?_|refine ZB ?_|refine ZW ?_|refine ZC (s1) (fun _ _=>?_)|refine l_call0 (s1) (fun _ _=>?_)|(refine ZJ (fun hc=>?_) (fun hc=>?_)<;>(try simp at hc)<;>(try omega))|(refine ZG (fun hc=>?_) (fun hc=>?_)<;>(try simp at hc)<;>(try omega)))
 exact Ym (Yx (YD () rfl trivial))
theorem sortN_ok (o:Option Addr) (cap:Nat) (es:List Nm) (fv:FuncId) (Fc:Pf) (c:Nm→Nm→Int) (hn:es.length≤200)
  (ha:∀a b,c a b<0→¬c b a<0) (ht:∀a b d,¬c b a<0→¬c d b<0→¬c d a<0) (hcmp:∀x y,x ∈ es→y ∈ es→Enters fv∧Spec prog fv #[x.v,y.v] [Fc] [] (RetV (.int .i64 (c x y)))) :
  Enters 81∧Spec prog 81 #[.slice o es.length cap,.func (.func fv) #[] #[]] [Fc] [Row 46 5 o es.length cap (es.flatMap nmf)]
   ⟨List Nm,fun _=>.tuple #[],fun l=>l.Perm es∧Srd c l,fun _=>[],fun l=>[Row 46 5 o es.length cap (l.flatMap nmf)]⟩:=by
 have hu:IntKind.u64.wrap ((es.length:Nat):Int)=(es.length:Int):=Wc (by omega)
 have s2:=bitsLen_ok es.length (by omega)
 by_cases h0:es=[]
 ·subst h0
  refine ZM [_,_] func81 ntmps81 fun G w hp=>?_
  have s3:=fun lim=>pdqN0_ok o cap lim fv
  repeat' (first|refine ZE ?_|refine ZD ?_|refine ZL ?_|refine ZF ?_|refine ZS ?_|refine ZO ?_|refine ZV ?_|refine ZR (fun b=>?_)|refine ZX (fun b=>?_)|refine ZH ?_|refine ZB ?_|refine ZW ?_|refine ZC (s2) (fun _ _=>?_)|refine l_call0 (s2) (fun _ _=>?_)|refine ZC (s3 _) (fun _ _=>?_)|refine l_call0 (s3 _) (fun _ _=>?_)|rw [hu]|(refine ZJ (fun hc=>?_) (fun hc=>?_)<;>(try simp at hc))|(refine ZG (fun hc=>?_) (fun hc=>?_)<;>(try simp at hc)))
  exact Yc [] rfl ⟨List.Perm.refl _,List.Pairwise.nil⟩
 ·have hlen:0<es.length:=List.length_pos_iff.2 h0
  refine ZM [_,_] func81 ntmps81 fun G w hp=>?_
  refine k_row hlen fun p hp=>?_
  have hq:AxOK (es.length * 5) p.2:=by
   rcases hp.f with h|h
   ·exact .inl h
   ·exact .inr (by rw [List.length_append,hp.l] at h;exact h)
  have ho:=hp.o
  subst ho
  have s4:=fun lim=>pdqWN_ok p.1 cap p.2 fv Fc c ⟨ha,fun x y z=>ht x y z⟩ (fun x=>x ∈ es) (fun x y hx hy=>hcmp x y hx hy) es.length es es.length rfl (by omega) hq (fun x hx=>hx) 0 es.length (Nat.zero_le _) (Nat.le_refl _) (Nat.le_refl _) (fun h=>absurd h (Nat.lt_irrefl _)) lim
  have s3:∀lim,Enters 136∧Spec prog 136 #[.slice (some ⟨p.1,0,none⟩) es.length cap,.int .i64 0,.int .i64 (es.length:Int),.int .i64 lim,.func (.func fv) #[] #[]] [Fc] [Ax 46 nmf p.1 es p.2]
    ⟨List Nm,fun _=>.tuple #[],fun l=>l.Perm es∧Srd c l,fun _=>[],fun l=>[Ax 46 nmf p.1 l p.2]⟩:=fun lim=>⟨(s4 lim).1,(s4 lim).2.imp fun G w hp x w' hx hs=>⟨x.1,rfl,⟨x.2.1.perm,Sw.srdn x.2.1.len x.2.2⟩,hs⟩⟩
  repeat' (first|refine ZE ?_|refine ZD ?_|refine ZL ?_|refine ZF ?_|refine ZS ?_|refine ZO ?_|refine ZV ?_|refine ZR (fun b=>?_)|refine ZX (fun b=>?_)|refine ZH ?_|refine ZB ?_|refine ZW ?_|refine ZC (s2) (fun _ _=>?_)|refine l_call0 (s2) (fun _ _=>?_)|refine ZC (s3 _) (fun _ _=>?_)|refine l_call0 (s3 _) (fun _ _=>?_)|rw [hu]|(refine ZJ (fun hc=>?_) (fun hc=>?_)<;>(try simp at hc))|(refine ZG (fun hc=>?_) (fun hc=>?_)<;>(try simp at hc)))
  rename_i l hl
  have hll:=hl.1.length_eq
  refine Zs (r:=Row 46 5 (some ⟨p.1,0,none⟩) es.length cap (l.flatMap nmf)) (Lx:=[Ax 46 nmf p.1 l p.2]) (fun h hh=>WD (q:=p) ⟨rfl,by rw [Zy (f:=nmf) (sz:=5) (fun _=>rfl),hll],by rw [←hp.c,List.length_append,List.length_append,Zy (f:=nmf) (sz:=5) (fun _=>rfl),Zy (f:=nmf) (sz:=5) (fun _=>rfl),hll],hp.m,by rw [List.length_append,Zy (f:=nmf) (sz:=5) (fun _=>rfl),hll];rcases hp.f with h|h;exact .inl h;exact .inr (by rw [List.length_append,hp.l] at h;exact h)⟩ h hh) ?_
  exact Yc l rfl hl
instance instChEq:DecidableEq Ch:=fun ⟨a,b,c⟩ ⟨a',b',c'⟩=>if h:a=a'∧b=b'∧c=c' then .isTrue (by rw [h.1,h.2.1,h.2.2]) else .isFalse fun e=>h (by cases e;exact ⟨rfl,rfl,rfl⟩)
structure Ky where
 t:Int
 c:Int
 n:Int
 l:ByteArray
 deriving DecidableEq
structure Ak where
 k:Ky
 rd:List Ch
 wr:List Ch
structure Rn where
 k:Ky
 kd:Int
 nm:Nm
def nmZ:Nm:=⟨0,⟨#[]⟩,0,0,⟨#[]⟩⟩
def kyZ:Ky:=⟨0,0,0,⟨#[]⟩⟩
def chZ:Ch:=⟨nmZ,⟨#[]⟩,false⟩
def rnZ:Rn:=⟨kyZ,0,nmZ⟩
def kcmp (a b:Ky):Int:=or0 [cmpI a.t b.t,cmpI a.c b.c,cmpI a.n b.n,cmpN a.l b.l]
def incrF:List Ak→Bool
 | a::b::l=>decide (kcmp a.k b.k<0) && incrF (b::l)
 | _=>true
def bsF (p:Nat→Bool):Nat→Nat→Nat→Nat
 | 0,i,_=>i
 | f+1,i,j=>if i<j then (if p ((i+j) / 2) then bsF p f i ((i+j) / 2) else bsF p f ((i+j) / 2+1) j) else i
def srchF (l:List Ak) (k:Ky):Nat:=bsF (fun i=>match l[i]? with|some a=>decide (0≤kcmp a.k k)|none=>true) l.length 0 l.length
def atF (l:List Ak) (k:Ky):Option Ak:=match l[srchF l k]? with
 | some a=>if kcmp a.k k=0 then some a else none
 | none=>none
def wrsF (l:List Ak) (n:Nm):List Nat:=(List.range l.length).flatMap fun i=>match l[i]? with
 | some a=>(a.wr.filter fun c=>decide (c.nm=n)).map fun _=>i
 | none=>[]
def wriF (l:List Ak) (n:Nm) (k:Ky):Option Nat:=
 let w:=wrsF l n
 let i:=bsF (fun h=>match w[h]? with|some x=>decide (srchF l k≤x)|none=>true) w.length 0 w.length
 if 0<i then w[i - 1]? else none
def wtnL (n:Nm):List Ch→Option Ch
 | []=>none
 | c::l=>match wtnL n l with
  | some d=>some d
  | none=>if c.nm=n then some c else none
def wtnF (n:Nm) (a:Ak):Ch:=(wtnL n a.wr).getD chZ
def diffF (a b:Ch):Bool:=a.abs != b.abs || (!a.abs && decide (a.val≠b.val))
def vdifF (f s:List Ak) (n:Nm) (k:Ky):Bool:=match wriF f n k,wriF s n k with
 | none,none=>false
 | some i,some j=>diffF (match f[i]? with|some a=>wtnF n a|none=>chZ) (match s[j]? with|some a=>wtnF n a|none=>chZ)
 | _,_=>true
def keyF (l:List Ak) (n:Nm) (k:Ky):Option Ky:=match wriF l n k with
 | some i=>l[i]?.map Ak.k
 | none=>none
def orgF (f s:List Ak) (n:Nm) (k:Ky):Option Ky:=match keyF f n k,keyF s n k with
 | some a,some b=>if 0<kcmp b a then some b else some a
 | some a,none=>some a
 | none,x=>x
def turnF (t:Int):Ky:=⟨t,1,0,⟨#[]⟩⟩
def ofPro (l:ByteArray):Nm:=⟨1,l,0,0,⟨#[]⟩⟩
def ofEpo:Nm:=⟨20,⟨#[]⟩,0,0,⟨#[]⟩⟩
def aloneF (f s:List Ak) (k:Ky) (kd:Int):Rn:=
 if k.c=0 then ⟨k,kd,nmZ⟩
 else if vdifF f s (ofPro k.l) (turnF k.t) then ⟨k,kd,ofPro k.l⟩
 else if vdifF f s ofEpo (turnF k.t) then ⟨k,kd,ofEpo⟩
 else ⟨k,kd,nmZ⟩
def bestF (b:List Ch):List Ch→Option Nm→Option Nm
 | [],x=>x
 | c::l,x=>bestF b l (match wtnL c.nm b with
  | some o=>if diffF c o && (match x with|none=>true|some m=>decide (cmpO c.nm m<0)) then some c.nm else x
  | none=>x)
def chgF (a b:Ak):Rn×Int:=if a.rd=b.rd then (rnZ,8) else match bestF b.rd a.rd none with
 | none=>(rnZ,10)
 | some n=>(⟨a.k,1,n⟩,0)
def rsnF (f s:List Ak) (k:Ky):Rn×Int:=match atF f k,atF s k with
 | some a,some b=>chgF a b
 | some _,none=>(aloneF f s k 3,0)
 | none,some _=>(aloneF f s k 2,0)
 | none,none=>(rnZ,8)
def chainF (f s:List Ak):Nat→Rn→List Rn→Except Int (List Rn)
 | 0,_,acc=>.ok acc
 | n+1,r,acc=>if r.nm=nmZ then .ok acc else match orgF f s r.nm (if r.kd=1 then r.k else turnF r.k.t) with
  | none=>.error 10
  | some o=>if 0≤kcmp o r.k then .error 10 else if (rsnF f s o).2≠0 then .error 10 else chainF f s n (rsnF f s o).1 (acc++[(rsnF f s o).1])
def cntF (l:List Ak) (k:Ky):Nat:=l.countP fun a=>decide (kcmp a.k k<0)
def meaF (f s:List Ak) (k:Ky):Nat:=cntF f k+cntF s k
def explF (f s:List Ak) (k:Ky):Except Int (List Rn):=
 if incrF f && incrF s then (if (rsnF f s k).2≠0 then .error (rsnF f s k).2 else chainF f s (f.length+s.length+1) (rsnF f s k).1 [(rsnF f s k).1]) else .error 32
def hasW (n:Nm) (a:Ak):Bool:=a.wr.any fun c=>decide (c.nm=n) && !c.abs
def lstF (l:List Ak) (n:Nm):Nat→Option Nat
 | 0=>none
 | m+1=>match l[m]? with
  | some a=>if hasW n a then some m else lstF l n m
  | none=>lstF l n m
structure Akc where
 k:Ky
 ro:Option Addr
 rl:Nat
 rc:Nat
 wo:Option Addr
 wl:Nat
 wc:Nat
abbrev kyf (k:Ky):List Value:=[.int .i64 k.t,.int .i64 k.c,.int .i64 k.n,.string k.l]
abbrev kyv (k:Ky):Value:=.agg #[.int .i64 k.t,.int .i64 k.c,.int .i64 k.n,.string k.l]
abbrev akf (x:Akc):List Value:=[.int .i64 x.k.t,.int .i64 x.k.c,.int .i64 x.k.n,.string x.k.l,.slice x.ro x.rl x.rc,.slice x.wo x.wl x.wc]
abbrev akv (x:Akc):Value:=.agg #[.int .i64 x.k.t,.int .i64 x.k.c,.int .i64 x.k.n,.string x.k.l,.slice x.ro x.rl x.rc,.slice x.wo x.wl x.wc]
abbrev ChS (o:Option Addr) (cap:Nat) (es:List Ch):Pf:=Sl 108 chf o cap es
def AkP (h:H) (a:Ak) (x:Akc):Prop:=(x.k=a.k∧x.rl=a.rd.length∧x.wl=a.wr.length)∧(ChS x.ro x.rc a.rd).p h∧(ChS x.wo x.wc a.wr).p h
theorem akP_mono {h k:H} (s:Sub h k) (a:Ak) (x:Akc) (hh:AkP h a x):AkP k a x:=⟨hh.1,(ChS x.ro x.rc a.rd).m h k s hh.2.1,(ChS x.wo x.wc a.wr).m h k s hh.2.2⟩
def AkF (a:Ak) (x:Akc):Pf:=⟨fun h=>AkP h a x,fun _ _ s hh=>akP_mono s a x hh⟩
def AksP (h:H):List Ak→List Akc→Prop
 | [],vs=>vs=[]
 | a::l,vs=>∃v ws,vs=v::ws∧AkP h a v∧AksP h l ws
theorem aksP_mono {h k:H} (s:Sub h k):∀(l:List Ak) (vs:List Akc),AksP h l vs→AksP k l vs
 | [],_,hh=>hh
 | a::l,_,⟨v,ws,h1,h2,h3⟩=>⟨v,ws,h1,akP_mono s a v h2,aksP_mono s l ws h3⟩
def AksF (l:List Ak) (vs:List Akc):Pf:=⟨fun h=>AksP h l vs,fun _ _ s hh=>aksP_mono s l vs hh⟩
abbrev AkS (o:Option Addr) (cap:Nat) (vs:List Akc):Pf:=Sl 44 akf o cap vs
structure Aq where
 wt:UInt8
 who:UInt8
 rd:UInt8
 wr:UInt8
 it:It
def aqf (x:Aq):List Value:=[.int .u8 x.wt.toNat,.int .u8 x.who.toNat,.int .u8 x.rd.toNat,.int .u8 x.wr.toNat,.int .u8 x.it.who.toNat,.int .u8 x.it.nu.toNat,.int .u8 x.it.tk.toNat,.int .u8 x.it.ch.toNat,.string x.it.tx]
def Aq.v (x:Aq):Value:=.agg #[.int .u8 x.wt.toNat,.int .u8 x.who.toNat,.int .u8 x.rd.toNat,.int .u8 x.wr.toNat,.int .u8 x.it.who.toNat,.int .u8 x.it.nu.toNat,.int .u8 x.it.tk.toNat,.int .u8 x.it.ch.toNat,.string x.it.tx]
def ChOK (c:Ch):Prop:=c.nm.owner.size≤1000∧c.nm.text.size≤1000
def AkOK (a:Ak):Prop:=a.k.l.size≤1000∧a.rd.length≤100∧a.wr.length≤100∧(∀c ∈ a.rd,ChOK c)∧∀c ∈ a.wr,ChOK c
theorem blkSl {α:Type} {b:Nat} {cs:Array Value} {T U:Nat} {f:α→List Value} {es:List α} {cap:Nat} {h:H} (hb:(Blk b (.cells cs U)).p h) (e:cs.toList=es.flatMap f) (hc:es.length≤cap):(Sl T f (some ⟨b,0,none⟩) cap es).p h:=
 ⟨hc,.inr ⟨b,cs,(U,0,0),[],[],rfl,hb,by rw [e];simp⟩⟩
theorem specF0 {P:Program} {f:FuncId} {args:Array Value} {F:List Pf} {R:List HP} {post:Post} (s:Spec P f args [] R post):Spec P f args F R post:=fun G w hp hs=>s G w hp (hs.facts fun _ _ x hx=>by cases hx)
theorem cloneNm_ok (a:Addr) (cap:Nat) (us:List Nm) (hl:us.length≤1000000):Enters 80∧Spec prog 80 #[.slice (some a) us.length cap] [Sl 46 nmf (some a) cap us] []
  ⟨Option Addr×Nat,fun q=>.slice q.1 us.length q.2,fun _=>True,fun _=>[],fun q=>[Row 46 5 q.1 us.length q.2 (us.flatMap nmf)]⟩:=by
 refine ZM [_] func80 ntmps80 fun G w hp=>?_
 repeat' (first|refine ZE ?_|refine ZD ?_|refine ZL ?_|refine ZF ?_|refine ZS ?_|refine ZO ?_|refine ZV ?_|refine ZR (fun b=>?_)|refine ZX (fun b=>?_)|refine ZH ?_|refine ZB ?_|refine ZW ?_|refine l_shut (row_zero (sz:=5)) ?_|refine l_appF (es:=us) (fun o' cap'=>?_)|(refine ZJ (fun hc=>?_) (fun hc=>?_)<;>(try simp at hc))|(refine ZG (fun hc=>?_) (fun hc=>?_)<;>(try simp at hc)))
 rw [Nat.zero_add]
 exact ZK (o',cap') rfl trivial
theorem eqNm (a b:Nm):eqC eqS 20 46 a.v b.v=some (decide (a=b)):=by
 rw [show eqC eqS 20 46 a.v b.v=some ((a.kind == b.kind) && ((a.owner.toList == b.owner.toList) && ((a.number == b.number) && ((a.index == b.index) && ((a.text.toList == b.text.toList) && true))))) from rfl]
 congr 1
 obtain ⟨a1,a2,a3,a4,a5⟩:=a
 obtain ⟨b1,b2,b3,b4,b5⟩:=b
 have hs:∀x y:ByteArray,(x.toList == y.toList)=decide (x=y):=beqSv
 have hi:∀x y:Int,(x == y)=decide (x=y):=fun x y=>by rw [Bool.eq_iff_iff];simp
 simp only [hs,hi,Nm.mk.injEq]
 rw [Bool.eq_iff_iff];simp
abbrev NmW (o:Option Addr) (cap:Nat) (es:List Nm):Pf:=Sl 46 nmf o cap es
set_option maxHeartbeats 1000000 in
theorem compactD_ok (o:Option Addr) (cap:Nat) (xs:List Nm) (hn:xs.Nodup) (hl:xs.length≤1000):Enters 83∧Spec prog 83 #[.slice o xs.length cap] [NmW o cap xs] [] (RetV (.slice o xs.length cap)):=by
 by_cases h2:xs.length<2
 ·refine ZM [_] func83 ntmps83 fun G w hp=>?_
  repeat' (first|refine ZE ?_|refine ZD ?_|refine ZL ?_|refine ZF ?_|refine ZS ?_|refine ZO ?_|refine ZV ?_|refine ZR (fun b=>?_)|refine ZX (fun b=>?_)|refine ZH ?_|refine ZB ?_|refine ZW ?_|(refine ZJ (fun hc=>?_) (fun hc=>?_)<;>(try simp at hc)<;>(try omega))|(refine ZG (fun hc=>?_) (fun hc=>?_)<;>(try simp at hc)<;>(try omega)))
  exact ZK () rfl trivial
 ·refine ZM [_] func83 ntmps83 fun G w hp=>?_
  repeat' (first|refine ZE ?_|refine ZD ?_|refine ZL ?_|refine ZF ?_|refine ZS ?_|refine ZO ?_|refine ZV ?_|refine ZR (fun b=>?_)|refine ZX (fun b=>?_)|refine ZH ?_|refine ZB ?_|(refine ZJ (fun hc=>?_) (fun hc=>?_)<;>(try simp at hc)<;>(try omega))|(refine ZG (fun hc=>?_) (fun hc=>?_)<;>(try simp at hc)<;>(try omega)))
  refine Z8 (X:={i:Nat // 1≤i∧i≤xs.length}) (fun i=>[(0,.slice o xs.length cap),(3,.int .i64 (i.1:Int))]) (fun _=>[NmW o cap xs]) (fun _=>[]) (fun i=>xs.length - i.1) ⟨1,by omega,by omega⟩ ⟨rfl,rfl,trivial⟩ ?_
  rintro ⟨i,hi0,hi⟩
  dsimp only
  by_cases hlt:i<xs.length
  ·obtain ⟨x,hx⟩:∃x,xs[i]? = some x:=⟨_,List.getElem?_eq_getElem hlt⟩
   obtain ⟨y,hy⟩:∃y,xs[i - 1]? = some y:=⟨_,List.getElem?_eq_getElem (by omega)⟩
   have hne:x≠y:=fun e=>by
    have:=(List.getElem?_inj (by omega) hn).1 (hx.trans (e ▸ hy.symm))
    omega
   have he:eqC eqS 20 46 x.v y.v=some false:=by rw [eqNm,decide_eq_false hne]
   have w1:IntKind.i64.wrap ((i:Int) - 1)=((i - 1:Nat):Int):=by rw [wrapi (by omega) (by omega)];omega
   have w2:IntKind.i64.wrap ((i:Int)+1)=((i+1:Nat):Int):=by rw [wrapi (by omega) (by omega)];omega
   repeat' (first|refine ZE ?_|refine ZD ?_|refine ZL ?_|refine ZF ?_|refine ZS ?_|refine ZO ?_|refine ZV ?_|refine ZR (fun b=>?_)|refine ZX (fun b=>?_)|refine ZH ?_|refine ZB ?_|refine ZT ?_|refine ZZ ?_|refine Zf ?_|refine Za ?_|refine Zd ?_|refine Zj (fun b=>?_)|refine Zm (fun b=>?_)|refine Zk ?_|refine ZU ?_|rw [w1]|rw [w2]|refine r_ixe (es:=xs) (f:=nmf) i x hx (fun b off=>?_)|refine r_ldC ?_|refine r_ixe (es:=xs) (f:=nmf) (i - 1) y hy (fun b off=>?_)|refine r_seq ?_ (he:=he)|(refine ZJ (fun hc=>?_) (fun hc=>?_)<;>(try simp at hc)<;>(try omega))|(refine ZP (fun hc=>?_) (fun hc=>?_)<;>(try simp at hc)<;>(try omega))|refine ZA 6 [] [(0,0),(1,0),(2,0),(3,0),(4,0),(5,0),(6,0),(7,0),(8,0),(9,0)] [] ?_|(refine ZG (fun hc=>?_) (fun hc=>?_)<;>(try simp at hc)<;>(try omega)))
   exact Zb ⟨i+1,by omega,by omega⟩ (by show xs.length - (i+1)<xs.length - i;omega) ⟨rfl,rfl,trivial⟩
  ·obtain rfl:i=xs.length:=by omega
   repeat' (first|refine ZE ?_|refine ZD ?_|refine ZL ?_|refine ZF ?_|refine ZS ?_|refine ZO ?_|refine ZV ?_|refine ZR (fun b=>?_)|refine ZX (fun b=>?_)|refine ZH ?_|refine ZB ?_|refine ZW ?_|(refine ZJ (fun hc=>?_) (fun hc=>?_)<;>(try simp at hc)<;>(try omega))|(refine ZG (fun hc=>?_) (fun hc=>?_)<;>(try simp at hc)<;>(try omega)))
   exact ZK () rfl trivial
theorem sortN7_ok (o:Option Addr) (cap:Nat) (xs:List Nm) (hl:xs.length≤200) (hz:∀x ∈ xs,x.owner.size≤1000) :
  Enters 81∧Spec prog 81 #[.slice o xs.length cap,.func (.func 82) #[] #[]] [Usg] [Row 46 5 o xs.length cap (xs.flatMap nmf)]
   ⟨List Nm,fun _=>.tuple #[],fun l=>l.Perm xs∧Srd cmpO l,fun _=>[],fun l=>[Row 46 5 o xs.length cap (l.flatMap nmf)]⟩:=
 sortN_ok o cap xs 82 Usg cmpO hl (fun a b h=>by have:=(Y7.anti a b).1 h;omega) (fun a b d h1 h2=>by
  have e1:=Y7.anti b a
  have e2:=Y7.anti d b
  intro h3
  rcases Int.lt_or_le 0 (cmpO b a) with g1|g1
  ·rcases Int.lt_or_le 0 (cmpO d b) with g2|g2
   ·have k1:=(Y7.anti a b).2 g1
    have k2:=(Y7.anti b d).2 g2
    have k3:=Y7.trans a b d k1 k2
    have:=(Y7.anti a d).1 k3
    omega
   ·have:cmpO d b=0:=by omega
    rw [(Y7.eq d b).1 this] at h3
    exact h1 h3
  ·have:cmpO b a=0:=by omega
   rw [(Y7.eq b a).1 this] at h2
   exact h2 h3) (fun u v hu hv=>by
  have:=XW u v (by have:=hz u hu;omega) (by have:=hz v hv;omega)
  exact ⟨this.1,specF0 this.2⟩)
def SortP (n:Nat) (xs:List Nm):Post:=⟨List Nm×Option Addr×Nat,fun q=>.slice q.2.1 n q.2.2,fun q=>q.1.Perm xs∧Srd cmpO q.1,fun q=>[NmW q.2.1 q.2.2 q.1],fun _=>[]⟩
set_option maxHeartbeats 1000000 in
theorem sortD_ok (o:Option Addr) (cap:Nat) (xs:List Nm) (h0:0<xs.length) (hn:xs.Nodup) (hl:xs.length≤200) (hz:∀x ∈ xs,x.owner.size≤1000):Enters 30∧Spec prog 30 #[.slice o xs.length cap] [Usg] [Row 46 5 o xs.length cap (xs.flatMap nmf)] (SortP xs.length xs):=by
 refine ZM [_] func30 ntmps30 fun G w hp=>?_
 refine Z6 (X:=Nat×(List Value×(Nat×Nat))) (Lx:=fun x=>[Ax 46 nmf x.1 xs x.2]) (p:=fun x=>o=some ⟨x.1,0,none⟩∧xs.length * 5+x.2.1.length=cap * 5∧AxOK (xs.length * 5) x.2) (r:=Row 46 5 o xs.length cap (xs.flatMap nmf)) .here (fun h hh=>row_ax (f:=nmf) (fun _=>rfl) h0 hh) (fun x hx=>?_)
 obtain ⟨rfl,x2,x3⟩:=hx
 have n1:=cloneNm_ok ⟨x.1,0,none⟩ cap xs (by omega)
 have n2:=fun o cap=>sortN7_ok o cap xs hl hz
 refine Zs (r:=Row 46 5 (some ⟨x.1,0,none⟩) xs.length cap (xs.flatMap nmf)) (Lx:=[Ax 46 nmf x.1 xs x.2]) (fun h hh=>ax_row (f:=nmf) (es:=xs) (x:=x.2) (fun _=>rfl) (by decide) x2 x3 h hh) ?_
 refine k_frz (T:=46) (f:=nmf) xs ?_ rfl rfl
 repeat' (first|refine ZE ?_|refine ZD ?_|refine ZL ?_|refine ZF ?_|refine ZS ?_|refine ZO ?_|refine ZV ?_|refine ZR (fun b=>?_)|refine ZX (fun b=>?_)|refine ZH ?_|refine ZB ?_|refine ZW ?_|refine ZC (n1) (fun _ _=>?_)|refine l_call0 (n1) (fun _ _=>?_)|refine ZC (n2 _ _) (fun _ _=>?_)|refine l_call0 (n2 _ _) (fun _ _=>?_)|(refine ZJ (fun hc=>?_) (fun hc=>?_)<;>(try simp at hc))|(refine ZG (fun hc=>?_) (fun hc=>?_)<;>(try simp at hc)))
 rename_i q _ l hl2
 obtain ⟨o,cp⟩:=q
 have hll:l.length=xs.length:=hl2.1.length_eq
 have n3:=fun o cap=>compactD_ok o cap l ((hl2.1.nodup_iff).2 hn) (by omega)
 rw [hll] at n3
 refine l_frz (T:=46) (f:=nmf) l ?_ rfl hll.symm
 repeat' (first|refine ZE ?_|refine ZD ?_|refine ZL ?_|refine ZF ?_|refine ZS ?_|refine ZO ?_|refine ZV ?_|refine ZR (fun b=>?_)|refine ZX (fun b=>?_)|refine ZH ?_|refine ZB ?_|refine ZW ?_|refine ZC (n3 _ _) (fun _ _=>?_)|refine l_call0 (n3 _ _) (fun _ _=>?_)|(refine ZJ (fun hc=>?_) (fun hc=>?_)<;>(try simp at hc))|(refine ZG (fun hc=>?_) (fun hc=>?_)<;>(try simp at hc)))
 exact ZK (post:=SortP xs.length xs) (l,o,cp) rfl hl2
set_option maxHeartbeats 1000000 in
theorem names7_ok (o1 o2:Option Addr) (c1 c2:Nat) (L M:List Nm) (h0:0<M.length) (hn:(L++M).Nodup) (hl:L.length+M.length≤200) (hz:∀x ∈ L++M,x.owner.size≤1000) :
  Enters 70∧Spec prog 70 #[.slice o1 L.length c1,.slice o2 M.length c2] [NmW o1 c1 L,NmW o2 c2 M,Usg] [] (SortP (L.length+M.length) (L++M)):=by
 have hLM:(L++M).length=L.length+M.length:=List.length_append
 have n1:=fun o cap=>sortD_ok o cap (L++M) (by omega) hn (by omega) hz
 rw [hLM] at n1
 refine ZM [_,_] func70 ntmps70 fun G w hp=>?_
 repeat' (first|refine ZE ?_|refine ZD ?_|refine ZL ?_|refine ZF ?_|refine ZS ?_|refine ZO ?_|refine ZV ?_|refine ZR (fun b=>?_)|refine ZX (fun b=>?_)|refine ZH ?_|refine ZB ?_|refine ZW ?_|refine l_shut (row_zero (sz:=5)) ?_|refine l_appF (sz:=5) (es:=L) (f:=nmf) (fun o' cap'=>?_)|refine l_appF (sz:=5) (es:=M) (f:=nmf) (fun o' cap'=>?_)|(refine ZJ (fun hc=>?_) (fun hc=>?_)<;>(try simp at hc))|(refine ZG (fun hc=>?_) (fun hc=>?_)<;>(try simp at hc)))
 rw [Nat.zero_add,List.nil_append,←List.flatMap_append]
 repeat' (first|refine ZE ?_|refine ZD ?_|refine ZL ?_|refine ZF ?_|refine ZS ?_|refine ZO ?_|refine ZV ?_|refine ZR (fun b=>?_)|refine ZX (fun b=>?_)|refine ZH ?_|refine ZB ?_|refine ZW ?_|refine ZC (n1 _ _) (fun _ _=>?_)|refine l_call0 (n1 _ _) (fun _ _=>?_)|(refine ZJ (fun hc=>?_) (fun hc=>?_)<;>(try simp at hc))|(refine ZG (fun hc=>?_) (fun hc=>?_)<;>(try simp at hc)))
 rename_i q hq
 exact ZK (post:=SortP (L.length+M.length) (L++M)) q rfl hq
section
open VQ
structure SN (l:List Nm) (S:Nm→Prop):Prop where
 o:l.Pairwise fun x y=>cmpO x y<0
 m:∀n,n ∈ l↔S n
theorem SN.nodup {l:List Nm} {S:Nm→Prop} (h:SN l S):l.Nodup:=h.o.imp fun {a b} hab e=>by
 subst e
 have:=(Z4 a a).2 rfl
 omega
theorem sn_uniq:∀{l l':List Nm} {S:Nm→Prop},SN l S→SN l' S→l=l':=by
 intro l l' S h h'
 have hp:l.Perm l':=(List.perm_ext_iff_of_nodup h.nodup h'.nodup).2 fun n=>(h.m n).trans (h'.m n).symm
 refine hp.eq_of_pairwise (le:=fun x y=>cmpO x y<0) (fun a b _ _ h1 h2=>?_) h.o h'.o
 have:=(Z1 a b).1 h1
 omega
theorem SN.cg {l:List Nm} {S T:Nm→Prop} (h:SN l S) (e:∀n,S n↔T n):SN l T:=⟨h.o,fun n=>(h.m n).trans (e n)⟩
theorem YU:SN [] fun _=>False:=⟨List.Pairwise.nil,fun n=>by simp⟩
theorem srd_lt {l:List Nm} (h:Srd cmpO l) (hn:l.Nodup):l.Pairwise fun x y=>cmpO x y<0:=by
 have h2:=List.pairwise_iff_getElem.1 h
 refine List.pairwise_iff_getElem.2 fun i j hi hj hij=>?_
 have h3:=h2 i j hi hj hij
 have hne:l[i]≠l[j]:=fun e=>by
  have:=(List.getElem_inj hn).1 e
  omega
 rcases Int.lt_or_le (cmpO l[i] l[j]) 0 with h4|h4
 ·exact h4
 ·have h5:cmpO l[i] l[j]≠0:=fun e=>hne ((Z4 _ _).1 e)
  have h6:cmpO l[j] l[i]<0:=(Z1 _ _).2 (by omega)
  exact absurd h6 h3
theorem SN.add {L M l:List Nm} {S:Nm→Prop} (h:SN L S) (hn:(L++M).Nodup) (hp:l.Perm (L++M)) (hs:Srd cmpO l):SN l fun n=>S n∨n ∈ M:=
 ⟨srd_lt hs ((hp.nodup_iff).2 hn),fun n=>by rw [hp.mem_iff,List.mem_append,h.m n]⟩
theorem vrd_sn {es:Al} {N:List Nm} (hN:∀n ∈ N,nchk n=0∧ShN n):SN ((vrd (rsq es N [])).map (·.nm)) (· ∈ N):=by
 have hR:=rsq_ok (es:=es) hN
 have hp:(vrd (rsq es N [])).Perm ((rsq es N []).map (·.2)):=Yh _
 have hnn:((rsq es N []).map (·.2)).map (·.nm)=(rsq es N []).map (·.1):=by
  rw [List.map_map]
  exact List.map_congr_left fun p hp=>hR.nm p hp
 have hpm:((vrd (rsq es N [])).map (·.nm)).Perm ((rsq es N []).map (·.1)):=hnn ▸ hp.map (·.nm)
 have hs:Srd cmpO ((vrd (rsq es N [])).map (·.nm)):=by
  have h1:Srd cmpC (vrd (rsq es N [])):=W0 _
  exact List.pairwise_map.2 (h1.imp fun {a b} h=>h)
 refine ⟨srd_lt hs ((hpm.nodup_iff).2 hR.nd),fun n=>?_⟩
 rw [hpm.mem_iff,rsq_keys]
theorem vwr_sn (cs:List Ch):SN ((vwr cs).map (·.nm)) (· ∈ cs.map (·.nm)):=by
 have hs:Srd cmpO ((vwr cs).map (·.nm)):=by
  have h1:Srd cmpC (vwr cs):=W0 _
  exact List.pairwise_map.2 (h1.imp fun {a b} h=>h)
 refine ⟨srd_lt hs (UH cs),fun n=>?_⟩
 constructor
 ·intro h
  obtain ⟨c,hc,rfl⟩:=List.mem_map.1 h
  exact List.mem_map.2 ⟨c,(XX (vwr_mem.1 hc)).2,rfl⟩
 ·intro h
  obtain ⟨c,hc,rfl⟩:=List.mem_map.1 h
  cases hv:vcall cs c.nm with
  | none=>
   unfold vcall at hv
   have:=List.find?_eq_none.1 hv c (List.mem_reverse.2 hc)
   simp at this
  | some d=>
   obtain ⟨h1,h2⟩:=XX hv
   exact List.mem_map.2 ⟨d,vwr_mem.2 (by rw [h1];exact hv),h1⟩
theorem Xe:∀(n a t:Nat),t - a≤n→∀p:Pp,p ∈ pts a t↔∃j,a / 64≤j∧64 * j<t∧a<t∧p=⟨j,max a (64 * j) - 64 * j,min t (64 * j+64) - 64 * j⟩
 | 0,a,t,hn,p=>by
  rw [pts,if_neg (by omega)]
  constructor
  ·intro h;cases h
  ·rintro ⟨j,h1,h2,h3,_⟩;omega
 | n+1,a,t,hn,p=>by
  rw [pts]
  split
  ·rename_i hlt
   rw [List.mem_cons,Xe n (min t (a / 64 * 64+64)) t (by omega) p]
   constructor
   ·rintro (rfl|⟨j,h1,h2,h3,rfl⟩)
    ·exact ⟨a / 64,Nat.le_refl _,by omega,hlt,by
      congr 1
      ·omega
      ·omega⟩
    ·refine ⟨j,by omega,h2,hlt,?_⟩
     congr 1
     omega
   ·rintro ⟨j,h1,h2,h3,rfl⟩
    by_cases hj:j=a / 64
    ·left
     subst hj
     congr 1
     ·omega
     ·omega
    ·right
     refine ⟨j,by omega,h2,by omega,?_⟩
     congr 1
     omega
  ·rename_i hge
   constructor
   ·intro h;cases h
   ·rintro ⟨j,h1,h2,h3,_⟩;omega
theorem pts_bl {a t j:Nat}:(∃p ∈ pts a t,p.bl=j)↔a / 64≤j∧64 * j<t∧a<t:=by
 constructor
 ·rintro ⟨p,hp,rfl⟩
  obtain ⟨i,h1,h2,h3,rfl⟩:=(Xe (t - a) a t (Nat.le_refl _) p).1 hp
  exact ⟨h1,h2,h3⟩
 ·rintro ⟨h1,h2,h3⟩
  exact ⟨_,(Xe (t - a) a t (Nat.le_refl _) _).2 ⟨j,h1,h2,h3,rfl⟩,rfl⟩
section
variable {b:Bi}
theorem rn_no {cs:List Ch} {n:Nm} (h:nchk n=0) (hc:∀c ∈ cs,c.nm≠n):rn cs n=[n]:=by
 unfold rn
 rw [if_neg (by simp [h])]
 cases hv:vcall cs n with
 | none=>rfl
 | some c=>
  obtain ⟨h1,h2⟩:=XX hv
  exact absurd h1 (hc c h2)
theorem iN_eq (hb:bchk b=0):iN [] b=[nnm b]:=by
 unfold iN
 rw [if_neg (by simp [hb]),rn_no (Zx hb) (fun c hc=>by cases hc)]
theorem rdN_mem (hb:bchk b=0) {l:List Pp} (hl:∀p ∈ l,p.bl<64) (n:Nm):n ∈ rdN [] b l↔∃p ∈ l,n=bnm b p.bl:=by
 unfold rdN
 rw [List.mem_flatMap]
 constructor
 ·rintro ⟨p,hp,h⟩;exact ⟨p,hp,(rn_chk h).1⟩
 ·rintro ⟨p,hp,rfl⟩
  refine ⟨p,hp,?_⟩
  rw [rn_no (YJ hb (by have:=hl p hp;omega)) (fun c hc=>by cases hc)]
  exact List.mem_singleton.2 rfl
def IncB (l:List Pp):Prop:=l.Pairwise fun p q=>p.bl<q.bl
theorem pts_inc:∀(n a t:Nat),t - a≤n→IncB (pts a t)
 | 0,a,t,hn=>by rw [pts,if_neg (by omega)];exact List.Pairwise.nil
 | n+1,a,t,hn=>by
  rw [pts]
  split
  ·rename_i hlt
   refine List.pairwise_cons.2 ⟨fun p hp=>?_,pts_inc n _ t (by omega)⟩
   obtain ⟨j,h1,h2,h3,rfl⟩:=(Xe (t - min t (a / 64 * 64+64)) _ t (Nat.le_refl _) p).1 hp
   dsimp only
   omega
  ·exact List.Pairwise.nil
theorem wr_exact (hb:bchk b=0) (f:Nat) (s:ByteArray):∀(l:List Pp) (cs:List Ch),IncB l→(∀p ∈ l,p.bl<64∧∀c ∈ cs,c.nm≠bnm b p.bl)→
  (∀n,n ∈ ((qWrL b f s l).run es cs).2.1↔∃p ∈ l,p.to - p.fr<64∧n=bnm b p.bl)∧(∀n,n ∈ ((qWrL b f s l).run es cs).2.2.map (·.nm)↔n ∈ cs.map (·.nm)∨∃p ∈ l,n=bnm b p.bl)
 | [],cs,_,_=>⟨fun n=>⟨(fun h=>by cases h),(fun ⟨p,hp,_⟩=>by cases hp)⟩,fun n=>⟨fun h=>.inl h,fun h=>h.elim id (fun ⟨p,hp,_⟩=>by cases hp)⟩⟩
 | p::l,cs,hI,hc=>by
  obtain ⟨i1,i2⟩:=List.pairwise_cons.1 hI
  have hp:=hc p (by simp)
  have hnx:∀v:ByteArray,∀r ∈ l,r.bl<64∧∀c ∈ cs++[⟨bnm b p.bl,v,false⟩],c.nm≠bnm b r.bl:=fun v r hr=>by
   refine ⟨(hc r (by simp [hr])).1,fun c hm=>?_⟩
   rcases List.mem_append.1 hm with hm|hm
   ·exact (hc r (by simp [hr])).2 c hm
   ·rw [List.mem_singleton.1 hm]
    intro e
    have:=Xf e
    have:=i1 r hr
    omega
  have hcn:=rn_no (cs:=cs) (YJ hb (i:=(p.bl:Int)) (by omega)) hp.2
  have hmm:∀(v:ByteArray) (n:Nm),(n ∈ (cs++[(⟨bnm b p.bl,v,false⟩:Ch)]).map (·.nm)∨∃r ∈ l,n=bnm b r.bl)↔(n ∈ cs.map (·.nm)∨∃r ∈ p::l,n=bnm b r.bl):=fun v n=>by
   simp only [List.map_append,List.mem_append,List.map_cons,List.map_nil,List.mem_cons,List.not_mem_nil,or_false,exists_eq_or_imp]
   constructor
   ·rintro ((h|h)|h)
    ·exact .inl h
    ·exact .inr (.inl h)
    ·exact .inr (.inr h)
   ·rintro (h|h|h)
    ·exact .inl (.inl h)
    ·exact .inl (.inr h)
    ·exact .inr h
  rw [qWrL]
  by_cases hf:p.to - p.fr<64
  ·rw [if_pos hf]
   simp only [run]
   obtain ⟨g1,g2⟩:=wr_exact hb f s l (cs++[⟨bnm b p.bl,⟨(cpy (Yg (vget es cs (bnm b p.bl)).1) p.fr (s.extract (p.bl * 64+p.fr - f) s.size) (p.to - p.fr)).toArray⟩,false⟩]) i2 (hnx _)
   refine ⟨fun n=>?_,fun n=>(g2 n).trans (hmm _ n)⟩
   rw [hcn,List.mem_append,g1 n,List.mem_singleton]
   simp only [List.mem_cons,exists_eq_or_imp]
   exact ⟨fun h=>h.elim (fun h=>.inl ⟨hf,h⟩) .inr,fun h=>h.elim (fun h=>.inl h.2) .inr⟩
  ·rw [if_neg hf]
   simp only [run]
   obtain ⟨g1,g2⟩:=wr_exact hb f s l (cs++[⟨bnm b p.bl,⟨(cpy (List.replicate 64 0) p.fr (s.extract (p.bl * 64+p.fr - f) s.size) (p.to - p.fr)).toArray⟩,false⟩]) i2 (hnx _)
   refine ⟨fun n=>?_,fun n=>(g2 n).trans (hmm _ n)⟩
   rw [g1 n]
   simp only [List.mem_cons,exists_eq_or_imp]
   exact ⟨.inr,fun h=>h.elim (fun h=>absurd h.1 hf) id⟩
end
end
section
open VQ
def RdC (f t j:Nat):Prop:=max f (64 * j)<min t (64 * j+64)
section
variable {bs:List Bi} {fs:List Fq} {m:List (ByteArray×Int)} {k:Nat}
theorem ex_read0 (h:R7 es [] bs fs m k) (hk:k≤500) (wd:UInt8) (f c:Int) (h0:(mGet bs fs (bthF bs wd)).2≠0∨f<0∨c<0):((qRead (bthF bs wd) f c).run es []).2.1=[nnm (bthF bs wd)]:=by
 obtain ⟨g1,g2⟩:=Y0 h (by omega) wd
 have hbc:=(YX h (by omega) wd).1
 unfold qRead
 rw [run_bind,Z7,iN_eq hbc]
 dsimp only
 by_cases he:(ifile es [] (bthF bs wd)).2≠0
 ·rw [if_pos he];rfl
 ·rw [if_neg he,if_pos (by rw [←g1] at h0;omega)];rfl
theorem ex_read (h:R7 es [] bs fs m k) (hk:k≤500) (wd:UInt8) {x:Fq} (h0:(mGet bs fs (bthF bs wd)).2=0) (hx:fs[(mGet bs fs (bthF bs wd)).1]? = some x) (f c:Nat) (n:Nm) :
  n ∈ ((qRead (bthF bs wd) (f:Int) (c:Int)).run es []).2.1↔n=nnm (bthF bs wd)∨(f<x.ct.size∧∃j,j<64∧RdC f (f+min c (x.ct.size - f)) j∧n=bnm (bthF bs wd) (j:Int)):=by
 obtain ⟨g1,g2⟩:=Y0 h (by omega) wd
 have hbc:=(YX h (by omega) wd).1
 obtain ⟨y,e1,e2,e3,e4,e5⟩:=g2 h0
 rw [hx] at e1
 cases e1
 obtain ⟨z1,z2⟩:=e5.f e3
 have hle:=z2.le
 unfold qRead
 rw [run_bind,Z7,iN_eq hbc]
 dsimp only
 rw [if_neg (by rw [g1];omega),if_neg (by omega),e4,run_bind,WN,z1]
 simp only [run,Int.toNat_natCast,List.append_nil]
 have hb:∀p ∈ pts (min f x.ct.size) (min f x.ct.size+min c (x.ct.size - min f x.ct.size)),p.bl<64:=fun p hp=>by
  obtain ⟨j,h1,h2,h3,rfl⟩:=(Xe _ _ _ (Nat.le_refl _) p).1 hp
  dsimp only
  omega
 rw [List.mem_append,List.mem_singleton,rdN_mem hbc hb]
 refine or_congr Iff.rfl ?_
 constructor
 ·rintro ⟨p,hp,rfl⟩
  obtain ⟨j,h1,h2,h3,rfl⟩:=(Xe _ _ _ (Nat.le_refl _) p).1 hp
  exact ⟨by omega,j,by omega,by unfold RdC;omega,rfl⟩
 ·rintro ⟨h1,j,h2,h3,rfl⟩
  unfold RdC at h3
  obtain ⟨p,hp,hpb⟩:=(pts_bl (a:=min f x.ct.size) (t:=min f x.ct.size+min c (x.ct.size - min f x.ct.size)) (j:=j)).2 ⟨by omega,by omega,by omega⟩
  exact ⟨p,hp,by rw [hpb]⟩
theorem VH (h:R7 es [] bs fs m k) (hk:k≤500) (wd:UInt8) (f:Int) (s:ByteArray) (h0:(mGet bs fs (bthF bs wd)).2≠0∨f<0∨4096<f):((qWrite (bthF bs wd) f s).run es []).2=([nnm (bthF bs wd)],[]):=by
 obtain ⟨g1,g2⟩:=Y0 h (by omega) wd
 have hbc:=(YX h (by omega) wd).1
 unfold qWrite
 rw [run_bind,Z7,iN_eq hbc]
 dsimp only
 by_cases he:(ifile es [] (bthF bs wd)).2≠0
 ·rw [if_pos he];rfl
 ·rw [if_neg he,if_pos (by rw [←g1] at h0;omega)];rfl
theorem ex_write (h:R7 es [] bs fs m k) (hk:k≤500) (wd:UInt8) {x:Fq} (h0:(mGet bs fs (bthF bs wd)).2=0) (hx:fs[(mGet bs fs (bthF bs wd)).1]? = some x) (f:Nat) (hf:f≤4096) (s:ByteArray) :
  (∀n,n ∈ ((qWrite (bthF bs wd) (f:Int) s).run es []).2.1↔n=nnm (bthF bs wd)∨∃j,j<64∧RdC f (f+min s.size (4096 - f)) j∧min (f+min s.size (4096 - f)) (64 * j+64) - max f (64 * j)<64∧n=bnm (bthF bs wd) (j:Int))∧
  (∀n,n ∈ ((qWrite (bthF bs wd) (f:Int) s).run es []).2.2.map (·.nm)↔(∃j,j<64∧RdC f (f+min s.size (4096 - f)) j∧n=bnm (bthF bs wd) (j:Int))∨(x.ct.size<f+min s.size (4096 - f)∧f<f+min s.size (4096 - f)∧n=nnm (bthF bs wd))):=by
 obtain ⟨g1,g2⟩:=Y0 h (by omega) wd
 have hbc:=(YX h (by omega) wd).1
 obtain ⟨y,e1,e2,e3,e4,e5⟩:=g2 h0
 rw [hx] at e1
 cases e1
 obtain ⟨z1,z2⟩:=e5.f e3
 have hle:=z2.le
 unfold qWrite
 rw [run_bind,Z7,iN_eq hbc]
 dsimp only
 rw [if_neg (by rw [g1];omega),if_neg (by omega),e4]
 by_cases h4:(f:Int)=4096∧isE s=false
 ·rw [if_pos h4]
  have hf4:f=4096:=by omega
  refine ⟨fun n=>?_,fun n=>?_⟩
  ·simp only [run,List.append_nil,List.mem_singleton]
   refine ⟨.inl,fun h=>h.elim id fun ⟨j,j1,j2,_⟩=>?_⟩
   unfold RdC at j2
   omega
  ·simp only [run,List.map_nil,List.not_mem_nil,false_iff]
   rintro (⟨j,j1,j2,_⟩|⟨j1,j2,_⟩)
   ·unfold RdC at j2;omega
   ·omega
 ·rw [if_neg h4,run_bind]
  simp only [Int.toNat_natCast]
  have hb:∀p ∈ pts f (f+min s.size (4096 - f)),p.bl<64∧∀c ∈ ([]:List Ch),c.nm≠bnm (bthF bs wd) p.bl:=fun p hp=>by
   obtain ⟨j,h1,h2,h3,rfl⟩:=(Xe _ _ _ (Nat.le_refl _) p).1 hp
   exact ⟨by dsimp only;omega,fun c hc=>by cases hc⟩
  obtain ⟨w1,w2⟩:=wr_exact (es:=es) hbc f s (pts f (f+min s.size (4096 - f))) [] (pts_inc _ _ _ (Nat.le_refl _)) hb
  have hj:∀(P:Pp→Prop) (n:Nm),(∃p ∈ pts f (f+min s.size (4096 - f)),P p∧n=bnm (bthF bs wd) p.bl)↔∃j,j<64∧RdC f (f+min s.size (4096 - f)) j∧P ⟨j,max f (64 * j) - 64 * j,min (f+min s.size (4096 - f)) (64 * j+64) - 64 * j⟩∧n=bnm (bthF bs wd) (j:Int):=fun P n=>by
   constructor
   ·rintro ⟨p,hp,hP,rfl⟩
    obtain ⟨j,h1,h2,h3,rfl⟩:=(Xe _ _ _ (Nat.le_refl _) p).1 hp
    exact ⟨j,by omega,by unfold RdC;omega,hP,rfl⟩
   ·rintro ⟨j,j1,j2,hP,rfl⟩
    unfold RdC at j2
    exact ⟨_,(Xe _ _ _ (Nat.le_refl _) _).2 ⟨j,by omega,by omega,by omega,rfl⟩,hP,rfl⟩
  generalize (qWrL (bthF bs wd) f s (pts f (f+min s.size (4096 - f)))).run es []=G at *
  obtain ⟨G1,G2,G3⟩:=G
  dsimp only at w1 w2 ⊢
  refine ⟨fun n=>?_,fun n=>?_⟩
  ·have hrun:(VQ.run es (if 0<min s.size (4096 - f)∧x.nd.sz<((f+min s.size (4096 - f):Nat):Int) then VQ.set (nnm (bthF bs wd)) (iencS {x.nd with sz:=((f+min s.size (4096 - f):Nat):Int)}) (VQ.ret (((min s.size (4096 - f):Nat):Int),(0:Int))) else VQ.ret (((min s.size (4096 - f):Nat):Int),0)) G3).2.1=[]:=by
    split<;>rfl
   rw [hrun,List.append_nil,List.mem_append,List.mem_singleton,w1 n,hj (fun p=>p.to - p.fr<64) n]
   refine or_congr Iff.rfl (exists_congr fun j=>and_congr Iff.rfl ?_)
   constructor
   ·rintro ⟨a1,a2,a3⟩
    refine ⟨a1,?_,a3⟩
    clear hj w1 w2
    dsimp only at a2
    unfold RdC at a1
    omega
   ·rintro ⟨a1,a2,a3⟩
    refine ⟨a1,?_,a3⟩
    clear hj w1 w2
    dsimp only
    unfold RdC at a1
    omega
  ·have hw:=w2 n
   simp only [List.map_nil,List.not_mem_nil,false_or] at hw
   have hj2:=hj (fun _=>True) n
   simp only [true_and] at hj2
   rw [hj2] at hw
   by_cases hg:0<min s.size (4096 - f)∧x.nd.sz<((f+min s.size (4096 - f):Nat):Int)
   ·rw [if_pos hg]
    simp only [run,List.map_append,List.mem_append,List.map_cons,List.map_nil,List.mem_singleton]
    rw [hw]
    clear hj2 hw hj w1 w2
    exact or_congr Iff.rfl ⟨fun h=>⟨by omega,by omega,h⟩,fun h=>h.2.2⟩
   ·rw [if_neg hg]
    simp only [run]
    rw [hw]
    clear hj2 hw hj w1 w2
    refine ⟨.inl,fun h=>h.elim id fun h=>?_⟩
    obtain ⟨h5,h6,_⟩:=h
    exact absurd ⟨by omega,by omega⟩ hg
theorem WU (h:R7 es [] bs fs m k) (hk:k≤500) (wd:UInt8) (n:Int) (h0:(mGet bs fs (bthF bs wd)).2≠0∨n<0∨4096<n∨∃x,fs[(mGet bs fs (bthF bs wd)).1]? = some x∧n=(x.ct.size:Int)):((qResize (bthF bs wd) n).run es []).2=([nnm (bthF bs wd)],[]):=by
 obtain ⟨g1,g2⟩:=Y0 h (by omega) wd
 have hbc:=(YX h (by omega) wd).1
 unfold qResize
 rw [run_bind,Z7,iN_eq hbc]
 dsimp only
 by_cases he:(ifile es [] (bthF bs wd)).2≠0
 ·rw [if_pos he];rfl
 ·rw [if_neg he]
  obtain ⟨y,e1,e2,e3,e4,e5⟩:=g2 (by rw [←g1];omega)
  by_cases hn:n<0∨4096<n
  ·rw [if_pos hn];rfl
  ·rw [if_neg hn]
   rcases h0 with h0|h0|h0|⟨x,hx,h0⟩
   ·rw [←g1] at h0;exact absurd h0 he
   ·omega
   ·omega
   ·rw [hx] at e1
    cases e1
    rw [e4,(e5.f e3).1,if_pos h0];rfl
theorem ex_resize (h:R7 es [] bs fs m k) (hk:k≤500) (wd:UInt8) {x:Fq} (h0:(mGet bs fs (bthF bs wd)).2=0) (hx:fs[(mGet bs fs (bthF bs wd)).1]? = some x) (c:Nat) (hc:c≤4096) (hne:c≠x.ct.size) :
  (∀n,n ∈ ((qResize (bthF bs wd) (c:Int)).run es []).2.1↔n=nnm (bthF bs wd)∨(c<x.ct.size∧0<c % 64∧n=bnm (bthF bs wd) ((c / 64:Nat):Int)))∧
  (∀n,n ∈ ((qResize (bthF bs wd) (c:Int)).run es []).2.2.map (·.nm)↔(n=nnm (bthF bs wd)∨(c<x.ct.size∧∃j,j<64∧64 * j<x.ct.size∧c≤64 * j∧n=bnm (bthF bs wd) (j:Int)))∨(c<x.ct.size∧0<c % 64∧(mget ((c / 64:Nat):Int) x.bl).getD false=true∧n=bnm (bthF bs wd) ((c / 64:Nat):Int))):=by
 obtain ⟨g1,g2⟩:=Y0 h (by omega) wd
 have hbc:=(YX h (by omega) wd).1
 obtain ⟨y,e1,e2,e3,e4,e5⟩:=g2 h0
 rw [hx] at e1
 cases e1
 obtain ⟨z1,z2⟩:=e5.f e3
 have hle:=z2.le
 unfold qResize
 rw [run_bind,Z7,iN_eq hbc]
 dsimp only
 rw [if_neg (by rw [g1];omega),if_neg (by omega),e4,z1,if_neg (by omega),run_bind]
 generalize bthF bs wd=b at *
 by_cases hlt:c<x.ct.size
 ·rw [if_pos (by omega)]
  simp only [Int.toNat_natCast]
  rw [Vp]
  simp only [run,List.append_nil]
  have hD:cutD [] b c x.ct.size=dls b ((c+63) / 64) ((x.ct.size+63) / 64 - (c+63) / 64):=by rw [cutD,List.nil_append]
  have hDm:∀n,n ∈ (cutD [] b c x.ct.size).map (·.nm)↔∃j,j<64∧64 * j<x.ct.size∧c≤64 * j∧n=bnm b (j:Int):=fun n=>by
   rw [hD]
   unfold dls
   rw [List.map_map,List.mem_map]
   constructor
   ·rintro ⟨j,hj,rfl⟩
    rw [List.mem_range'_1] at hj
    exact ⟨j,by omega,by omega,by omega,rfl⟩
   ·rintro ⟨j,j1,j2,j3,rfl⟩
    exact ⟨j,by rw [List.mem_range'_1];omega,rfl⟩
  have hrn:0<c % 64→rn (cutD [] b c x.ct.size) (bnm b ((c / 64:Nat):Int))=[bnm b ((c / 64:Nat):Int)]:=fun h6=>rn_no (YJ hbc (by omega)) fun d hd e=>by
   obtain ⟨j,j1,j2,j3,j4⟩:=(hDm d.nm).1 (List.mem_map.2 ⟨d,hd,rfl⟩)
   rw [e] at j4
   have:=Xf j4
   omega
  have hpr:0<c % 64→(vget es (cutD [] b c x.ct.size) (bnm b ((c / 64:Nat):Int))).2=(mget ((c / 64:Nat):Int) x.bl).getD false:=fun h6=>by
   rw [←e5.p (c / 64) (by omega),cutD,vg_dls hbc _ _ _ (by omega),if_neg (by omega)]
  refine ⟨fun n=>?_,fun n=>?_⟩
  ·rw [List.mem_append,List.mem_singleton]
   refine or_congr Iff.rfl ?_
   by_cases h6:c % 64=0
   ·rw [if_pos h6]
    exact ⟨(fun h=>by cases h),fun h=>by omega⟩
   ·rw [if_neg h6,hrn (by omega),List.mem_singleton]
    exact ⟨fun h=>⟨hlt,by omega,h⟩,fun h=>h.2.2⟩
  ·rw [List.map_append,List.mem_append]
   simp only [List.map_cons,List.map_nil,List.mem_singleton]
   unfold cutC
   by_cases h6:c % 64=0
   ·rw [if_pos h6,hDm n]
    constructor
    ·rintro (h|h)
     ·exact .inl (.inr ⟨hlt,h⟩)
     ·exact .inl (.inl h)
    ·rintro ((h|h)|h)
     ·exact .inr h
     ·exact .inl h.2
     ·omega
   ·rw [if_neg h6,hpr (by omega)]
    cases hp:(mget ((c / 64:Nat):Int) x.bl).getD false with
    | true=>
     rw [if_pos rfl,List.map_append,List.mem_append,hDm n]
     simp only [List.map_cons,List.map_nil,List.mem_singleton]
     constructor
     ·rintro ((h|h)|h)
      ·exact .inl (.inr ⟨hlt,h⟩)
      ·exact .inr ⟨hlt,by omega,by simp,h⟩
      ·exact .inl (.inl h)
     ·rintro ((h|h)|h)
      ·exact .inr h
      ·exact .inl (.inl h.2)
      ·exact .inl (.inr h.2.2.2)
    | false=>
     rw [if_neg (by simp),hDm n]
     constructor
     ·rintro (h|h)
      ·exact .inl (.inr ⟨hlt,h⟩)
      ·exact .inl (.inl h)
     ·rintro ((h|h)|h)
      ·exact .inr h
      ·exact .inl h.2
      ·cases h.2.2.1
 ·rw [if_neg (by omega)]
  simp only [run,List.append_nil,List.nil_append,List.map_cons,List.map_nil,List.mem_singleton]
  refine ⟨fun n=>⟨.inl,fun h=>h.elim id fun h=>by omega⟩,fun n=>⟨fun h=>.inl (.inl h),fun h=>?_⟩⟩
  rcases h with (h|h)|h
  ·exact h
  ·omega
  ·omega
theorem ex_set (h:R7 es [] bs fs m k) (hk:k≤500) (wd:UInt8) (nd:Ino):((qSet (bthF bs wd) nd).run es []).2.1=(if ichk nd≠0 then [] else [nnm (bthF bs wd)])∧((qSet (bthF bs wd) nd).run es []).2.2.map (·.nm)=if ichk nd≠0 then [] else match fndI bs (bthF bs wd) with
  | none=>[]
  | some i=>match fs[i]? with
   | none=>[]
   | some x=>if x.nd.kd≠nd.kd then [] else [nnm (bthF bs wd)]:=by
 obtain ⟨hbc,hc⟩:=YX h (by omega) wd
 unfold qSet
 by_cases h0:ichk nd≠0
 ·rw [if_pos h0,if_pos h0,if_pos h0];exact ⟨rfl,rfl⟩
 ·rw [if_neg h0,if_neg h0,if_neg h0,run_bind,W4,iN_eq hbc]
  dsimp only
  rcases hc with ⟨i,x,h1,h2,h3⟩|⟨h1,h3⟩
  ·have hf:=h.fl i _ x h1 h2
   rw [iget_in hbc hf,h3]
   dsimp only
   rw [h2,if_neg (show ¬(0:Int)≠0 by simp)]
   dsimp only
   by_cases hd:x.nd.kd≠nd.kd
   ·rw [if_pos hd,if_pos hd];exact ⟨rfl,rfl⟩
   ·rw [if_neg hd,if_neg hd];exact ⟨rfl,rfl⟩
  ·rw [iget_out hbc (h.no _ h1).1,h3]
   dsimp only
   rw [if_pos (show (8:Int)≠0 by decide)]
   exact ⟨rfl,rfl⟩
theorem ex_make (h:R7 es [] bs fs m k) (hk:k≤500) {j:Nat} (hj:j<3) (nd:Ino):((qMake (Zg j) nd).run es []).2.1=(if ichk nd=0∧nd.sz=0 then [cnm (Zg j)] else [])∧((qMake (Zg j) nd).run es []).2.2.map (·.nm)=if ichk nd=0∧nd.sz=0 then [cnm (Zg j),nnm ⟨Zg j,(mget (Zg j) m).getD 0⟩] else []:=by
 obtain ⟨⟨v0,v1⟩,v2⟩:=h.ct j hj
 rw [VO]
 by_cases h1:ichk nd=0∧nd.sz=0
 ·have e1:mkE es [] (Zg j) nd=nbE es [] (Zg j):=by rw [mkE,if_neg (by simp [h1.1]),if_neg (by simp [h1.2])]
  have e2:nbE es [] (Zg j)=(⟨Zg j,(mget (Zg j) m).getD 0⟩,0):=by
   rw [nbE,v2]
   dsimp only
   rw [if_neg (show ¬(0:Int)≠0 by simp),if_neg (by omega)]
  have e3:nbC es [] (Zg j)=[]++[⟨cnm (Zg j),cvs ⟨(mget (Zg j) m).getD 0+1,0,0⟩,false⟩]:=by rw [nbC,e2,v2];rfl
  rw [mkC,e1,e2,e3]
  dsimp only
  rw [if_pos h1,if_pos h1,if_pos h1,if_pos rfl,mN,if_pos (YO j),rn_no (Wb (YO j)) (fun c hc=>by cases hc)]
  exact ⟨rfl,rfl⟩
 ·rw [if_neg h1,if_neg h1,if_neg h1,mkC]
  have e1:(mkE es [] (Zg j) nd).2≠0:=by
   unfold mkE
   by_cases g1:ichk nd≠0
   ·rw [if_pos g1];exact g1
   ·rw [if_neg g1,if_pos (fun g2=>h1 ⟨by omega,g2⟩)];decide
  rw [if_neg e1]
  exact ⟨rfl,rfl⟩
end
end
section
open VQ
abbrev NmQ (k:Nat) (S:Nm→Prop):Post:=⟨List Nm×Option Addr×Nat,fun q=>.slice q.2.1 q.1.length q.2.2,fun q=>SN q.1 S∧q.1.length≤k,fun q=>[NmW q.2.1 q.2.2 q.1],fun _=>[]⟩
set_option maxHeartbeats 1000000 in
theorem nadds_ok (o1:Option Addr) (c1:Nat) (L M:List Nm) (S:Nm→Prop) (b m:Nat) (hS:SN L S) (hm:M.length=m) (h0:0<m) (hM:M.Nodup) (hx:∀x ∈ M,¬S x) (hl:L.length+m≤200) (hz:∀n,S n∨n ∈ M→n.owner.size≤1000) :
  Enters 70∧Spec prog 70 #[.slice o1 L.length c1,.slice (some ⟨b,0,none⟩) m m] [NmW o1 c1 L,Usg] [Pt b (.cells (M.flatMap nmf).toArray 46)] (NmQ (L.length+m) fun n=>S n∨n ∈ M):=by
 subst hm
 have hnd:(L++M).Nodup:=List.nodup_append.2 ⟨hS.nodup,hM,fun a ha c hc e=>hx c hc ((hS.m c).1 (e ▸ ha))⟩
 obtain ⟨h1,h2⟩:=names7_ok o1 (some ⟨b,0,none⟩) c1 M.length L M h0 hnd hl (fun x hx=>hz x ((List.mem_append.1 hx).elim (fun h=>.inl ((hS.m x).1 h)) .inr))
 refine ⟨h1,fun G w hp hs=>?_⟩
 have hs2:=hs.freeze (R:=[])
 have hs3:Sat G w hp [NmW o1 c1 L,NmW (some ⟨b,0,none⟩) M.length M,Usg] [] w:=by
  refine hs2.facts fun hp' hF x hx=>?_
  simp only [List.mem_cons,List.not_mem_nil,or_false] at hx
  rcases hx with rfl|rfl|rfl
  ·exact hF _ (by simp)
  ·exact blkSl (hF (Blk b (.cells (M.flatMap nmf).toArray 46)) (by simp)) (by simp) (Nat.le_refl _)
  ·exact hF _ (by simp)
 refine (h2 G w hp hs3).mono ?_
 rintro e w' ⟨q,rfl,⟨hp1,hp2⟩,hs4⟩
 have hlen:q.1.length=L.length+M.length:=by rw [hp1.length_eq,List.length_append]
 exact ⟨q,by show Ending.returned (Value.slice q.2.1 (L.length+M.length) q.2.2)=Ending.returned (Value.slice q.2.1 q.1.length q.2.2);rw [hlen],⟨hS.add hnd hp1 hp2,by omega⟩,hs4⟩
set_option maxHeartbeats 2000000 in
theorem sameNm_ok (o1 o2:Option Addr) (c1 c2:Nat) (C:List Ch) (L:List Nm) (hCL:C.map (·.nm)=L) (hl:L.length≤1000):Enters 27∧Spec prog 27 #[.slice o1 C.length c1,.slice o2 L.length c2] [NmW o2 c2 L] [ChW o1 c1 C] ⟨Unit,fun _=>.bool true,fun _=>True,fun _=>[],fun _=>[ChW o1 c1 C]⟩:=by
 have hlen:L.length=C.length:=by rw [←hCL,List.length_map]
 rw [hlen]
 by_cases h0:C=[]
 ·subst h0
  refine ZM [_,_] func27 ntmps27 fun G w hp=>?_
  repeat' (first|refine ZE ?_|refine ZD ?_|refine ZF ?_|refine ZB ?_|fail)
  refine Z8 (X:=Unit) (fun _=>[(0,.slice o1 0 c1),(5,.int .i64 0)]) (fun _=>[]) (fun _=>[ChW o1 c1 []]) (fun _=>0) () ⟨rfl,rfl,trivial⟩ ?_
  rintro ⟨⟩
  repeat' (first|refine ZE ?_|refine ZD ?_|refine ZF ?_|refine ZB ?_|refine ZW ?_|fail)
  exact ZK () rfl trivial
 ·have hpos:0<C.length:=List.length_pos_iff.2 h0
  have hll:((C.length:Int) != (C.length:Int))=false:=by simp
  refine ZM [_,_] func27 ntmps27 fun G w hp=>?_
  refine Z6 (X:=Nat×(List Value×(Nat×Nat))) (Lx:=fun x=>[Ax 108 chf x.1 C x.2]) (p:=fun x=>o1=some ⟨x.1,0,none⟩∧C.length * 7+x.2.1.length=c1 * 7∧AxOK (C.length * 7) x.2) (r:=ChW o1 c1 C) .here (fun h hh=>row_ax (f:=chf) (fun _=>rfl) hpos hh) (fun x hx=>?_)
  obtain ⟨rfl,x2,x3⟩:=hx
  repeat' (first|refine ZE ?_|refine ZD ?_|refine ZF ?_|refine ZB ?_|rw [hll]|fail)
  refine Z8 (X:={i:Nat // i≤C.length}) (fun i=>[(0,.slice (some ⟨x.1,0,none⟩) C.length c1),(1,.slice o2 C.length c2),(5,.int .i64 (i.1:Int))]) (fun _=>[NmW o2 c2 L]) (fun _=>[Ax 108 chf x.1 C x.2]) (fun i=>C.length - i.1) ⟨0,Nat.zero_le _⟩ ⟨rfl,rfl,rfl,trivial⟩ ?_
  rintro ⟨i,hi⟩
  dsimp only
  by_cases hlt:i<C.length
  ·obtain ⟨c,hc7⟩:∃c,C[i]? = some c:=⟨_,List.getElem?_eq_getElem hlt⟩
   have hl7:L[i]? = some c.nm:=by rw [←hCL,List.getElem?_map,hc7];rfl
   have he:eqC eqS 20 46 c.nm.v c.nm.v=some true:=by rw [eqNm,decide_eq_true rfl]
   have wi:IntKind.i64.wrap ((i:Int)+1)=((i+1:Nat):Int):=by rw [wrapi (by omega) (by omega)];omega
   obtain ⟨⟨k1,k2,k3,k4,k5⟩,k6,k7⟩:=c
   dsimp only at hl7
   repeat' (first|refine ZE ?_|refine ZD ?_|refine ZF ?_|refine ZB ?_|refine ZT ?_|refine ZU ?_|rw [wi]|refine Y1 (m:=C.length) (sz:=7) i hlt ?_|refine Zc (b:=x.1) 7 i 0 hc7 ?_|refine r_ixe (es:=L) (f:=nmf) i _ hl7 (fun b off=>?_) (hm:=hlen.symm)|refine r_ldC ?_|refine r_sneq (b:=true) ?_ (he:=he)|refine ZA 6 [] [(0,0),(1,0),(2,0),(3,0),(4,0),(5,0),(6,0),(7,0),(8,0),(9,0)] [] ?_|(refine ZG (fun hc=>?_) (fun hc=>?_)<;>(try simp at hc)<;>(try omega))|fail)
   exact Zb ⟨i+1,by omega⟩ (by show C.length - (i+1)<C.length - i;omega) ⟨rfl,rfl,rfl,trivial⟩
  ·obtain rfl:i=C.length:=by omega
   refine Zs (r:=ChW (some ⟨x.1,0,none⟩) c1 C) (Lx:=[Ax 108 chf x.1 C x.2]) (fun h hh=>ax_row (f:=chf) (es:=C) (x:=x.2) (fun _=>rfl) (by decide) x2 x3 h hh) ?_
   repeat' (first|refine ZE ?_|refine ZD ?_|refine ZF ?_|refine ZW ?_|(refine ZG (fun hc=>?_) (fun hc=>?_)<;>(try simp at hc)<;>(try omega))|fail)
   exact ZK () rfl trivial
end
section
open VQ
abbrev TcP (bm:Nat) (q:Mq) (bs:List Bi) (fs:List Fq) (m:List (ByteArray×Int)) (NR NW:Nm→Prop):Post:=⟨(List Nm×Option Addr×Nat)×(List Nm×Option Addr×Nat),fun x=>.tuple #[.slice x.1.2.1 x.1.1.length x.1.2.2,.slice x.2.2.1 x.2.1.length x.2.2.2],fun x=>(SN x.1.1 NR∧SN x.2.1 NW)∧x.1.1.length≤150∧x.2.1.length≤150,fun x=>[NmW x.1.2.1 x.1.2.2 x.1.1,NmW x.2.2.1 x.2.2.2 x.2.1],fun _=>MoL bm q bs fs m⟩
theorem YV (h:H):(NmW none 0 []).p h:=sl_nil 46 nmf h
theorem VF {S:Nm→Prop} (h:∀n,¬S n):SN [] S:=YU.cg fun _=>⟨False.elim,h _⟩
theorem sn_one (x:Nm):SN [x] (· = x):=⟨List.pairwise_singleton _ _,fun _=>List.mem_singleton⟩
section
variable (bm:Nat) (q:Mq) (bs:List Bi) (fs:List Fq) (m:List (ByteArray×Int))
set_option maxHeartbeats 4000000 in
theorem tch5_ok (o:Op7) (hk:o.k.toNat % 6=5) (hD:DoH q bs fs m):Enters 26∧Spec prog 26 #[.pointer (some ⟨bm,0,none⟩),o.v] [Usg] (MoL bm q bs fs m)
  (TcP bm q bs fs m (· ∈ if ichk o.n=0∧o.n.sz=0 then [cnm (Zg (o.w.toNat % 3))] else []) (· ∈ if ichk o.n=0∧o.n.sz=0 then [cnm (Zg (o.w.toNat % 3)),nnm ⟨Zg (o.w.toNat % 3),(mget (Zg (o.w.toNat % 3)) m).getD 0⟩] else [])):=by
 obtain ⟨hl,hlf,hq,hb0,hct,hbs,hmv⟩:=hD
 obtain ⟨ok,ow,of,oc,ot,nd⟩:=o
 dsimp only at *
 have n1:=Zp q bs ow
 have t1:=Yk ok 5 hk
 have w1:=YA (z:=((5:Nat):Int)) (by omega)
 have n2:=Xp nd
 generalize hBI:bthF bs ow=BI at *
 by_cases hg:ichk nd=0∧nd.sz=0
 ·rw [if_pos hg,if_pos hg]
  obtain ⟨h1,h2⟩:=hg
  rw [h1] at n2
  have hw3:ow.toNat % 3<3:=by omega
  have t3:=tmod3 ow
  have w3:=YA (z:=((ow.toNat % 3:Nat):Int)) (by omega)
  have hg:=WW hw3
  have hsz:=XD (ow.toNat % 3)
  have hgm:∀x,mget (Zg (ow.toNat % 3)) m=x→(x.map ziv).getD (.int .i64 0) = .int .i64 ((mget (Zg (ow.toNat % 3)) m).getD 0):=fun x hx=>by
   rw [hx]
   cases x with
   | none=>rfl
   | some x=>rfl
  have hgm':=hgm _ rfl
  generalize (mget (Zg (ow.toNat % 3)) m).getD 0=v at *
  generalize Zg (ow.toNat % 3)=who at *
  have n3:=WZ who
  have n4:=YF ⟨who,v⟩
  have n5:=fun b=>nadds_ok none 0 [] [cnm who,nnm ⟨who,v⟩] (fun _=>False) b 2 YU rfl (by decide) (List.nodup_cons.2 ⟨by simp [VP],List.nodup_cons.2 ⟨by simp,List.nodup_nil⟩⟩) (fun _ _ h=>h) (by simp) (fun n hn=>by
   simp only [List.mem_cons,List.not_mem_nil,or_false,false_or] at hn
   rcases hn with rfl|rfl
   ·show who.size≤_;omega
   ·show who.size≤_;omega)
  obtain ⟨g1,g2⟩:=BI
  obtain ⟨a1,a2,a3,a4,a5,a6,a7⟩:=nd
  dsimp only at h2
  subst h2
  simp only [Op7.v,Bi.v,Ino.v] at *
  refine ZM [_,_] func26 ntmps26 fun G w hp=>?_
  refine XE (f:=NmW none 0 []) (fun h=>YV h) ?_
  refine Z6 (X:=Unit) (Lx:=fun _=>[Mp Yl ziv q.rm m,fun h=>Sep (fs.map BlF) h]) (p:=fun _=>True) (r:=CM q.rm m fs) (by repeat (first|exact Sel.here|apply Sel.there)) (fun h hh=>⟨(),trivial,cm_two.1 hh⟩) (fun _ _=>?_)
  repeat' (first|refine ZE ?_|refine ZD ?_|refine ZL ?_|refine ZF ?_|refine ZS ?_|refine ZV ?_|refine ZR (fun b=>?_)|refine ZH ?_|refine ZB ?_|refine ZT ?_|refine Zf ?_|refine Zj (fun b=>?_)|refine Zm (fun b=>?_)|refine Zk ?_|refine ZU ?_|refine ZN (n1) (fun _ _=>?_)|refine ZC (n2) (fun _ _=>?_)|refine r_callP (n3) (fun _ _=>?_)|refine r_callP (n4) (fun _ _=>?_)|refine ZN (n5 _) (fun _ _=>?_)|refine ZN (Xz) (fun _ _=>?_)|rw [t1]|rw [t3]|refine r_ixK7 (m:=3) (ow.toNat % 3) hw3 ?_|refine Ze 1 (ow.toNat % 3) 0 hg ?_|refine l_mgetQ key_ln who _ rfl ?_|rw [hgm']|refine ZA 1 [BiX _ _] [(0,0),(1,0),(2,0),(3,0),(4,0),(5,0),(6,4),(7,1),(8,4)] [] ?_|refine ZA 6 [] [(1,0),(2,0),(3,0),(0,4),(4,0),(5,3),(6,0)] [] ?_|refine ZA 8 [] [(0,0),(3,0),(5,0),(1,5),(4,5),(6,5),(7,1),(8,4),(2,1),(9,0),(10,0)] [] ?_|fail)
  rename_i y hy
  refine Zs (r:=CM q.rm m fs) (Lx:=[Mp Yl ziv q.rm m,fun h=>Sep (fs.map BlF) h]) (fun h hh=>cm_two.2 hh) ?_
  refine k_fz (b:=b) (o:=.cells (nmf (cnm who)).toArray 46) ?_
  refine k_mk (F1:=[Blk b (.cells (nmf (cnm who)).toArray 46)]) (f:=NmW (some ⟨b,0,none⟩) 1 [cnm who]) (fun hp hF=>blkSl (hF (Blk b (.cells (nmf (cnm who)).toArray 46)) (by simp)) (by simp) (Nat.le_refl _)) ?_
  exact ZK (([cnm who],some ⟨b,0,none⟩,1),y) rfl ⟨⟨(sn_one _).cg fun n=>by simp,hy.1.cg fun n=>by simp⟩,by simp,Nat.le_trans hy.2 (by simp)⟩
 ·rw [if_neg hg,if_neg hg]
  have hbad:∀n:Nm,¬n ∈ ([]:List Nm):=fun n h=>by cases h
  obtain ⟨g1,g2⟩:=BI
  obtain ⟨a1,a2,a3,a4,a5,a6,a7⟩:=nd
  simp only [Op7.v,Bi.v,Ino.v] at *
  generalize ichk ⟨a1,a2,a3,a4,a5,a6,a7⟩=e at *
  refine ZM [_,_] func26 ntmps26 fun G w hp=>?_
  refine XE (f:=NmW none 0 []) (fun h=>YV h) ?_
  repeat' (first|refine ZE ?_|refine ZD ?_|refine ZL ?_|refine ZF ?_|refine ZS ?_|refine ZR (fun b=>?_)|refine ZH ?_|refine ZT ?_|refine Zf ?_|refine Zj (fun b=>?_)|refine Zk ?_|refine ZU ?_|refine ZN (n1) (fun _ _=>?_)|refine ZC (n2) (fun _ _=>?_)|rw [t1]|(refine ZJ (fun hc=>?_) (fun hc=>?_)<;>(try simp at hc)<;>(try omega))|refine ZA 1 [BiX _ _] [(0,0),(1,0),(2,0),(3,0),(4,0),(5,0),(6,4),(7,1),(8,4)] [] ?_|(refine ZG (fun hc=>?_) (fun hc=>?_)<;>(try simp at hc)<;>(try omega))|fail)
  all_goals exact ZK (([],none,0),([],none,0)) rfl ⟨⟨VF hbad,VF hbad⟩,by simp,by simp⟩
end
end
section
open VQ
theorem YH (o1:Option Addr) (c1:Nat) (L:List Nm) (S:Nm→Prop) (x:Nm) (b:Nat) (hS:SN L S) (hx:¬S x) (hl:L.length≤150) (hz:∀n,S n→n.owner.size≤1000) (hxz:x.owner.size≤1000) :
  Enters 70∧Spec prog 70 #[.slice o1 L.length c1,.slice (some ⟨b,0,none⟩) 1 1] [NmW o1 c1 L,Usg] [Pt b (.cells (nmf x).toArray 46)] (NmQ (L.length+1) fun n=>S n∨n=x):=by
 have h:=nadds_ok o1 c1 L [x] S b 1 hS rfl (by decide) (List.nodup_cons.2 ⟨by simp,List.nodup_nil⟩) (fun y hy=>by rw [List.mem_singleton.1 hy];exact hx) (by omega) (fun n hn=>by
  rcases hn with hn|hn
  ·exact hz n hn
  ·rw [List.mem_singleton.1 hn];exact hxz)
 rw [show ([x]:List Nm).flatMap nmf=nmf x by simp] at h
 exact ⟨h.1,h.2.imp fun G w hp q w' hq hs=>⟨q,rfl,⟨hq.1.cg fun n=>by simp,hq.2⟩,hs⟩⟩
theorem ofB_own {b:Bi} {n:Nm} (h:OfB b n) (hb:b.mkr.size≤1000):n.owner.size≤1000:=(ofB_sh h hb).1
section
variable (bm:Nat) (q:Mq) (bs:List Bi) (fs:List Fq) (m:List (ByteArray×Int))
set_option maxHeartbeats 4000000 in
theorem tch3_ok (o:Op7) (hk:o.k.toNat % 6=3) (hD:DoH q bs fs m):Enters 26∧Spec prog 26 #[.pointer (some ⟨bm,0,none⟩),o.v] [Usg] (MoL bm q bs fs m)
  (TcP bm q bs fs m (· ∈ if ichk o.n≠0 then [] else [nnm (bthF bs o.w)]) (· ∈ if ichk o.n≠0 then [] else match fndI bs (bthF bs o.w) with
  | none=>[]
  | some i=>match fs[i]? with
   | none=>[]
   | some x=>if x.nd.kd≠o.n.kd then [] else [nnm (bthF bs o.w)])):=by
 obtain ⟨hl,hlf,hq,hb0,hct,hbs,hmv⟩:=hD
 obtain ⟨ok,ow,of,oc,ot,nd⟩:=o
 dsimp only at *
 have n1:=Zp q bs ow
 have hbz:=Zu hbs ow
 have t1:=Yk ok 3 hk
 have w1:=YA (z:=((3:Nat):Int)) (by omega)
 have n2:=Xp nd
 have hbad:∀n:Nm,¬n ∈ ([]:List Nm):=fun n h=>by cases h
 generalize hBI:bthF bs ow=BI at *
 by_cases hg:ichk nd≠0
 ·rw [if_pos hg,if_pos hg]
  obtain ⟨g1,g2⟩:=BI
  obtain ⟨a1,a2,a3,a4,a5,a6,a7⟩:=nd
  simp only [Op7.v,Bi.v,Ino.v] at *
  generalize ichk ⟨a1,a2,a3,a4,a5,a6,a7⟩=e at *
  refine ZM [_,_] func26 ntmps26 fun G w hp=>?_
  refine XE (f:=NmW none 0 []) (fun h=>YV h) ?_
  repeat' (first|refine ZE ?_|refine ZD ?_|refine ZF ?_|refine ZS ?_|refine ZR (fun b=>?_)|refine ZH ?_|refine ZB ?_|refine ZT ?_|refine Zf ?_|refine Zj (fun b=>?_)|refine Zk ?_|refine ZU ?_|refine ZN (n1) (fun _ _=>?_)|refine ZC (n2) (fun _ _=>?_)|rw [t1]|refine ZA 1 [BiX _ _] [(0,0),(1,0),(2,0),(3,0),(4,0),(5,0),(6,4),(7,1),(8,4)] [] ?_|(refine ZG (fun hc=>?_) (fun hc=>?_)<;>(try simp at hc)<;>(try omega))|fail)
  exact ZK (([],none,0),([],none,0)) rfl ⟨⟨VF hbad,VF hbad⟩,by simp,by simp⟩
 ·rw [if_neg hg,if_neg hg]
  rw [show ichk nd=0 by omega] at n2
  have n3:=YF BI
  have n4:=fun b=>YH none 0 [] (fun _=>False) (nnm BI) b YU (fun h=>h) (by simp) (fun _ h=>h.elim) hbz
  have n5:=UO bm q bs BI fs.length hl
  cases hf:fndI bs BI with
  | none=>
   rw [hf] at n5
   dsimp only
   obtain ⟨g1,g2⟩:=BI
   obtain ⟨a1,a2,a3,a4,a5,a6,a7⟩:=nd
   simp only [Op7.v,Bi.v,Ino.v] at *
   refine ZM [_,_] func26 ntmps26 fun G w hp=>?_
   refine XE (f:=NmW none 0 []) (fun h=>YV h) ?_
   repeat' (first|refine ZE ?_|refine ZD ?_|refine ZF ?_|refine ZS ?_|refine ZR (fun b=>?_)|refine ZX (fun b=>?_)|refine ZH ?_|refine ZB ?_|refine ZT ?_|refine ZZ ?_|refine Zf ?_|refine Zj (fun b=>?_)|refine Zk ?_|refine ZU ?_|refine ZN (n1) (fun _ _=>?_)|refine ZC (n2) (fun _ _=>?_)|refine ZC (n3) (fun _ _=>?_)|refine ZC (n4 _) (fun _ _=>?_)|refine ZC (n5) (fun _ _=>?_)|rw [t1]|refine ZA 1 [BiX _ _] [(0,0),(1,0),(2,0),(3,0),(4,0),(5,0),(6,4),(7,1),(8,4)] [] ?_|refine ZA 14 [] [(0,0),(1,0),(2,0),(3,0),(4,0),(5,0),(6,0),(7,0),(8,0),(9,0),(10,0),(11,0),(12,0),(13,0),(14,0),(15,0),(16,0)] [] ?_|fail)
   rename_i y hy _ _
   exact ZK (y,([],none,0)) rfl ⟨⟨hy.1.cg fun n=>by simp,VF hbad⟩,Nat.le_trans hy.2 (by simp),by simp⟩
  | some i=>
   rw [hf] at n5
   have hib:=(List.getElem?_eq_some_iff.1 (WI hf).1).1
   have hil:i<fs.length:=by omega
   obtain ⟨x,hx⟩:∃x,fs[i]? = some x:=⟨_,List.getElem?_eq_getElem hil⟩
   dsimp only
   rw [hx]
   dsimp only
   obtain ⟨g1,g2⟩:=BI
   obtain ⟨a1,a2,a3,a4,a5,a6,a7⟩:=nd
   simp only [Op7.v,Bi.v,Ino.v] at *
   by_cases h2:x.nd.kd≠a1
   ·rw [if_pos h2]
    have hb:(x.nd.kd == a1)=false:=by simpa using h2
    refine ZM [_,_] func26 ntmps26 fun G w hp=>?_
    refine XE (f:=NmW none 0 []) (fun h=>YV h) ?_
    repeat' (first|refine ZE ?_|refine ZD ?_|refine ZF ?_|refine ZS ?_|refine ZR (fun b=>?_)|refine ZX (fun b=>?_)|refine ZH ?_|refine ZB ?_|refine ZT ?_|refine ZZ ?_|refine Zf ?_|refine Zj (fun b=>?_)|refine Zk ?_|refine ZU ?_|refine ZN (n1) (fun _ _=>?_)|refine ZC (n2) (fun _ _=>?_)|refine ZC (n3) (fun _ _=>?_)|refine ZC (n4 _) (fun _ _=>?_)|refine ZC (n5) (fun _ _=>?_)|rw [t1]|refine Y1 (m:=fs.length) (sz:=9) i hil ?_|refine Zc 9 i 0 hx ?_|rw [hb]|refine ZA 1 [BiX _ _] [(0,0),(1,0),(2,0),(3,0),(4,0),(5,0),(6,4),(7,1),(8,4)] [] ?_|refine ZA 14 [] [(0,0),(1,0),(2,0),(3,0),(4,0),(5,0),(6,0),(7,0),(8,0),(9,0),(10,0),(11,0),(12,0),(13,0),(14,0),(15,0),(16,0)] [] ?_|fail)
    rename_i y hy _ _
    exact ZK (y,([],none,0)) rfl ⟨⟨hy.1.cg fun n=>by simp,VF hbad⟩,Nat.le_trans hy.2 (by simp),by simp⟩
   ·rw [if_neg h2]
    have hb:(x.nd.kd == a1)=true:=by simpa using h2
    refine ZM [_,_] func26 ntmps26 fun G w hp=>?_
    refine XE (f:=NmW none 0 []) (fun h=>YV h) ?_
    repeat' (first|refine ZE ?_|refine ZD ?_|refine ZF ?_|refine ZS ?_|refine ZR (fun b=>?_)|refine ZX (fun b=>?_)|refine ZH ?_|refine ZB ?_|refine ZT ?_|refine ZZ ?_|refine Zf ?_|refine Zj (fun b=>?_)|refine Zk ?_|refine ZU ?_|refine ZN (n1) (fun _ _=>?_)|refine ZC (n2) (fun _ _=>?_)|refine ZC (n3) (fun _ _=>?_)|refine ZC (n4 _) (fun _ _=>?_)|refine ZC (n5) (fun _ _=>?_)|rw [t1]|refine Y1 (m:=fs.length) (sz:=9) i hil ?_|refine Zc 9 i 0 hx ?_|rw [hb]|refine ZA 1 [BiX _ _] [(0,0),(1,0),(2,0),(3,0),(4,0),(5,0),(6,4),(7,1),(8,4)] [] ?_|refine ZA 14 [] [(0,0),(1,0),(2,0),(3,0),(4,0),(5,0),(6,0),(7,0),(8,0),(9,0),(10,0),(11,0),(12,0),(13,0),(14,0),(15,0),(16,0)] [] ?_|fail)
    rename_i y hy _ _
    exact ZK (y,y) rfl ⟨⟨hy.1.cg fun n=>by simp,hy.1.cg fun n=>by simp⟩,Nat.le_trans hy.2 (by simp),Nat.le_trans hy.2 (by simp)⟩
end
end
section
open VQ
def SB (A:Nm→Prop) (b:Bi) (P:Nat→Prop) (i:Nat):Nm→Prop:=fun n=>A n∨∃t:Nat,t<i∧P t∧n=bnm b (t:Int)
section
variable {A:Nm→Prop} {b:Bi} {P:Nat→Prop} {i:Nat}
theorem Vu (n:Nm):A n↔SB A b P 0 n:=⟨.inl,fun h=>h.elim id fun ⟨t,h,_⟩=>absurd h (Nat.not_lt_zero t)⟩
theorem sb_yes (h:P i) (n:Nm):(SB A b P i n∨n=bnm b (i:Int))↔SB A b P (i+1) n:=by
 constructor
 ·rintro ((h1|⟨t,h1,h2,h3⟩)|h1)
  ·exact .inl h1
  ·exact .inr ⟨t,by omega,h2,h3⟩
  ·exact .inr ⟨i,by omega,h,h1⟩
 ·rintro (h1|⟨t,h1,h2,h3⟩)
  ·exact .inl (.inl h1)
  ·by_cases ht:t=i
   ·subst ht;exact .inr h3
   ·exact .inl (.inr ⟨t,by omega,h2,h3⟩)
theorem sb_no (h:¬P i) (n:Nm):SB A b P i n↔SB A b P (i+1) n:=by
 constructor
 ·rintro (h1|⟨t,h1,h2,h3⟩)
  ·exact .inl h1
  ·exact .inr ⟨t,by omega,h2,h3⟩
 ·rintro (h1|⟨t,h1,h2,h3⟩)
  ·exact .inl h1
  ·by_cases ht:t=i
   ·subst ht;exact absurd h2 h
   ·exact .inr ⟨t,by omega,h2,h3⟩
theorem sb_new (hA:¬A (bnm b (i:Int))):¬SB A b P i (bnm b (i:Int)):=by
 rintro (h1|⟨t,h1,h2,h3⟩)
 ·exact hA h1
 ·have:=Xf h3;omega
theorem VV (hA:∀n,A n→OfB b n) (hb:b.mkr.size≤1000):∀n,SB A b P i n→n.owner.size≤1000:=by
 rintro n (h1|⟨t,h1,h2,h3⟩)
 ·exact ofB_own (hA n h1) hb
 ·rw [h3];exact hb
end
theorem nn_ofB (b:Bi):∀n,n=nnm b→OfB b n:=fun _ h=>.inl h
section
variable (bm:Nat) (q:Mq) (bs:List Bi) (fs:List Fq) (m:List (ByteArray×Int))
set_option maxHeartbeats 4000000 in
theorem tchE_ok (o:Op7) (h3:o.k.toNat % 6≠3) (h5:o.k.toNat % 6≠5) (hD:DoH q bs fs m) (he:(mGet bs fs (bthF bs o.w)).2≠0):Enters 26∧Spec prog 26 #[.pointer (some ⟨bm,0,none⟩),o.v] [Usg] (MoL bm q bs fs m)
  (TcP bm q bs fs m (· = nnm (bthF bs o.w)) (fun _=>False)):=by
 obtain ⟨hl,hlf,hq,hb0,hct,hbs,hmv⟩:=hD
 obtain ⟨ok,ow,of,oc,ot,nd⟩:=o
 dsimp only at *
 have n1:=Zp q bs ow
 have hbz:=Zu hbs ow
 have hbad:∀n:Nm,¬n ∈ ([]:List Nm):=fun n h=>by cases h
 generalize hBI:bthF bs ow=BI at *
 have n3:=YF BI
 have n4:=fun b=>YH none 0 [] (fun _=>False) (nnm BI) b YU (fun h=>h) (by simp) (fun _ h=>h.elim) hbz
 have n6:=YY bm q bs fs BI hl hlf hbz
 obtain ⟨j,hj⟩:∃j,ok.toNat % 6=j:=⟨_,rfl⟩
 have t1:=Yk ok j hj
 have hjl:j<6:=by omega
 have w1:=YA (z:=(j:Int)) (by omega)
 have hj3:((j:Int) == 3)=false:=by simp;omega
 have hj5:((j:Int) == 5)=false:=by simp;omega
 generalize mGet bs fs BI=G at *
 obtain ⟨G1,G2⟩:=G
 dsimp only at he n6
 have he2:(G2 != 0)=true:=by simpa using he
 obtain ⟨g1,g2⟩:=BI
 obtain ⟨a1,a2,a3,a4,a5,a6,a7⟩:=nd
 simp only [Op7.v,Bi.v] at *
 refine ZM [_,_] func26 ntmps26 fun G w hp=>?_
 refine XE (f:=NmW none 0 []) (fun h=>YV h) ?_
 repeat' (first|refine ZE ?_|refine ZD ?_|refine ZL ?_|refine ZF ?_|refine ZS ?_|refine ZO ?_|refine ZV ?_|refine ZR (fun b=>?_)|refine ZX (fun b=>?_)|refine ZH ?_|refine ZB ?_|refine ZW ?_|refine ZT ?_|refine ZZ ?_|refine Zf ?_|refine Za ?_|refine Zd ?_|refine Zj (fun b=>?_)|refine Zm (fun b=>?_)|refine Zk ?_|refine ZU ?_|refine ZC (n1) (fun _ _=>?_)|refine l_call0 (n1) (fun _ _=>?_)|refine ZN (n1) (fun _ _=>?_)|refine ZC (n3) (fun _ _=>?_)|refine l_call0 (n3) (fun _ _=>?_)|refine ZN (n3) (fun _ _=>?_)|refine ZC (n4 _) (fun _ _=>?_)|refine l_call0 (n4 _) (fun _ _=>?_)|refine ZN (n4 _) (fun _ _=>?_)|refine ZC (n6) (fun _ _=>?_)|refine l_call0 (n6) (fun _ _=>?_)|refine ZN (n6) (fun _ _=>?_)|rw [t1]|rw [w1]|rw [hj3]|rw [hj5]|rw [he2]|(refine ZJ (fun hc=>?_) (fun hc=>?_)<;>(try simp at hc)<;>(try omega))|(refine ZP (fun hc=>?_) (fun hc=>?_)<;>(try simp at hc)<;>(try omega))|refine ZA 1 [BiX _ _] [(0,0),(1,0),(2,0),(3,0),(4,0),(5,0),(6,4),(7,1),(8,4)] [] ?_|(refine ZG (fun hc=>?_) (fun hc=>?_)<;>(try simp at hc)<;>(try omega)))
 rename (NmQ _ _).X=>y
 rename (NmQ _ _).pure y=>hy
 exact ZK (y,([],none,0)) rfl ⟨⟨hy.1.cg fun n=>by simp,YU⟩,Nat.le_trans hy.2 (by simp),by simp⟩
set_option maxHeartbeats 4000000 in
theorem tchV0_ok (o:Op7) (hk:o.k.toNat % 6=0) (hD:DoH q bs fs m) (he:(mGet bs fs (bthF bs o.w)).2=0) {x:Fq} (hx:fs[(mGet bs fs (bthF bs o.w)).1]? = some x) (hv:o.f<0∨o.c<0∨(x.ct.size:Int)≤o.f):Enters 26∧Spec prog 26 #[.pointer (some ⟨bm,0,none⟩),o.v] [Usg] (MoL bm q bs fs m)
  (TcP bm q bs fs m (· = nnm (bthF bs o.w)) (fun _=>False)):=by
 obtain ⟨hl,hlf,hq,hb0,hct,hbs,hmv⟩:=hD
 obtain ⟨ok,ow,of,oc,ot,nd⟩:=o
 dsimp only at *
 have n1:=Zp q bs ow
 have hbz:=Zu hbs ow
 have hbad:∀n:Nm,¬n ∈ ([]:List Nm):=fun n h=>by cases h
 generalize hBI:bthF bs ow=BI at *
 have n3:=YF BI
 have n4:=fun b=>YH none 0 [] (fun _=>False) (nnm BI) b YU (fun h=>h) (by simp) (fun _ h=>h.elim) hbz
 have n6:=YY bm q bs fs BI hl hlf hbz
 have t1:=Yk ok 0 hk
 have w1:=YA (z:=((0:Nat):Int)) (by omega)
 have hgo:=Y8 (bs:=bs) (fs:=fs) (bi:=BI) he
 generalize mGet bs fs BI=G at *
 obtain ⟨G1,G2⟩:=G
 dsimp only at he n6 hx hgo
 subst he
 have hil:=(List.getElem?_eq_some_iff.1 hx).1
 have hxs:=hct x (List.mem_of_getElem? hx)
 obtain ⟨L,hL⟩:∃L,x.ct.size=L:=⟨_,rfl⟩
 rw [hL] at hxs hv
 obtain ⟨g1,g2⟩:=BI
 obtain ⟨a1,a2,a3,a4,a5,a6,a7⟩:=nd
 simp only [Op7.v,Bi.v] at *
 refine ZM [_,_] func26 ntmps26 fun G w hp=>?_
 refine XE (f:=NmW none 0 []) (fun h=>YV h) ?_
 repeat' (first|refine ZE ?_|refine ZD ?_|refine ZL ?_|refine ZF ?_|refine ZS ?_|refine ZO ?_|refine ZV ?_|refine ZR (fun b=>?_)|refine ZX (fun b=>?_)|refine ZH ?_|refine ZB ?_|refine ZW ?_|refine ZT ?_|refine ZZ ?_|refine Zf ?_|refine Za ?_|refine Zd ?_|refine Zj (fun b=>?_)|refine Zm (fun b=>?_)|refine Zk ?_|refine ZU ?_|refine ZC (n1) (fun _ _=>?_)|refine l_call0 (n1) (fun _ _=>?_)|refine ZN (n1) (fun _ _=>?_)|refine ZC (n3) (fun _ _=>?_)|refine l_call0 (n3) (fun _ _=>?_)|refine ZN (n3) (fun _ _=>?_)|refine ZC (n4 _) (fun _ _=>?_)|refine l_call0 (n4 _) (fun _ _=>?_)|refine ZN (n4 _) (fun _ _=>?_)|refine ZC (n6) (fun _ _=>?_)|refine l_call0 (n6) (fun _ _=>?_)|refine ZN (n6) (fun _ _=>?_)|rw [t1]|rw [w1]|rw [hL]|refine Yv (m:=fs.length) (sz:=9) G1 hil ?_|refine Zn 9 G1 7 hx ?_|(refine ZJ (fun hc=>?_) (fun hc=>?_)<;>(try simp at hc)<;>(try omega))|(refine ZP (fun hc=>?_) (fun hc=>?_)<;>(try simp at hc)<;>(try omega))|refine ZA 1 [BiX _ _] [(0,0),(1,0),(2,0),(3,0),(4,0),(5,0),(6,4),(7,1),(8,4)] [] ?_|refine ZA 25 [] [(0,0),(1,0),(2,0),(3,0),(4,0),(5,0)] [] ?_|(refine ZG (fun hc=>?_) (fun hc=>?_)<;>(try simp at hc)<;>(try omega)))
 all_goals rename (NmQ _ _).X=>y
 all_goals rename (NmQ _ _).pure y=>hy
 all_goals exact ZK (y,([],none,0)) rfl ⟨⟨hy.1.cg fun n=>by simp,YU⟩,Nat.le_trans hy.2 (by simp),by simp⟩
set_option maxHeartbeats 8000000 in
theorem tchG0_ok (o:Op7) (hk:o.k.toNat % 6=0) (hD:DoH q bs fs m) (he:(mGet bs fs (bthF bs o.w)).2=0) {x:Fq} (hx:fs[(mGet bs fs (bthF bs o.w)).1]? = some x) (f c:Nat) (hf:o.f=(f:Int)) (hc:o.c=(c:Int)) (hlt:f<x.ct.size):Enters 26∧Spec prog 26 #[.pointer (some ⟨bm,0,none⟩),o.v] [Usg] (MoL bm q bs fs m)
  (TcP bm q bs fs m (SB (· = nnm (bthF bs o.w)) (bthF bs o.w) (RdC f (f+min c (x.ct.size - f))) 64) (fun _=>False)):=by
 obtain ⟨hl,hlf,hq,hb0,hct,hbs,hmv⟩:=hD
 obtain ⟨ok,ow,of,oc,ot,nd⟩:=o
 dsimp only at *
 have n1:=Zp q bs ow
 have hbz:=Zu hbs ow
 have hbad:∀n:Nm,¬n ∈ ([]:List Nm):=fun n h=>by cases h
 generalize hBI:bthF bs ow=BI at *
 have n3:=YF BI
 have n4:=fun b=>YH none 0 [] (fun _=>False) (nnm BI) b YU (fun h=>h) (by simp) (fun _ h=>h.elim) hbz
 have n6:=YY bm q bs fs BI hl hlf hbz
 have t1:=Yk ok 0 hk
 have w1:=YA (z:=((0:Nat):Int)) (by omega)
 have hgo:=Y8 (bs:=bs) (fs:=fs) (bi:=BI) he
 generalize mGet bs fs BI=G at *
 obtain ⟨G1,G2⟩:=G
 dsimp only at he n6 hx hgo
 subst he
 have hil:=(List.getElem?_eq_some_iff.1 hx).1
 have hxs:=hct x (List.mem_of_getElem? hx)
 subst hf
 subst hc
 obtain ⟨L,hL⟩:∃L,x.ct.size=L:=⟨_,rfl⟩
 rw [hL] at hxs hlt ⊢
 obtain ⟨T,hT⟩:∃T,f+min c (L - f)=T:=⟨_,rfl⟩
 have hTl:T≤4096:=by omega
 have w2:IntKind.i64.wrap ((L:Int) - (f:Int))=((L - f:Nat):Int):=by rw [wrapi (by omega) (by omega)];omega
 have w3:(if ((L - f:Nat):Int)<(c:Int) then ((L - f:Nat):Int) else (c:Int))=((min c (L - f):Nat):Int):=by split<;>omega
 have w4:IntKind.i64.wrap ((f:Int)+((min c (L - f):Nat):Int))=(T:Int):=by rw [wrapi (by omega) (by omega)];omega
 rw [hT]
 have nb:=YM BI
 obtain ⟨g1,g2⟩:=BI
 obtain ⟨a1,a2,a3,a4,a5,a6,a7⟩:=nd
 simp only [Op7.v] at *
 simp only [Bi.v] at n1 n3 n6 nb
 refine ZM [_,_] func26 ntmps26 fun G w hp=>?_
 refine XE (f:=NmW none 0 []) (fun h=>YV h) ?_
 repeat' (first|refine ZE ?_|refine ZD ?_|refine ZL ?_|refine ZF ?_|refine ZS ?_|refine ZO ?_|refine ZV ?_|refine ZR (fun b=>?_)|refine ZX (fun b=>?_)|refine ZH ?_|refine ZB ?_|refine ZT ?_|refine ZZ ?_|refine Zf ?_|refine Za ?_|refine Zd ?_|refine Zj (fun b=>?_)|refine Zm (fun b=>?_)|refine Zk ?_|refine ZU ?_|refine ZC (n1) (fun _ _=>?_)|refine l_call0 (n1) (fun _ _=>?_)|refine ZN (n1) (fun _ _=>?_)|refine ZC (n3) (fun _ _=>?_)|refine l_call0 (n3) (fun _ _=>?_)|refine ZN (n3) (fun _ _=>?_)|refine ZC (n4 _) (fun _ _=>?_)|refine l_call0 (n4 _) (fun _ _=>?_)|refine ZN (n4 _) (fun _ _=>?_)|refine ZC (n6) (fun _ _=>?_)|refine l_call0 (n6) (fun _ _=>?_)|refine ZN (n6) (fun _ _=>?_)|rw [t1]|rw [w1]|rw [hL]|rw [w2]|rw [w3]|rw [w4]|refine Yv (m:=fs.length) (sz:=9) G1 hil ?_|refine Zn 9 G1 7 hx ?_|(refine ZJ (fun hc=>?_) (fun hc=>?_)<;>(try simp at hc)<;>(try omega))|(refine ZP (fun hc=>?_) (fun hc=>?_)<;>(try simp at hc)<;>(try omega))|refine ZA 1 [BiX _ _] [(0,0),(1,0),(2,0),(3,0),(4,0),(5,0),(6,4),(7,1),(8,4)] [] ?_|refine ZA 25 [] [(0,0),(1,0),(2,0),(3,0),(4,0),(5,0)] [] ?_|(refine ZG (fun hc=>?_) (fun hc=>?_)<;>(try simp at hc)<;>(try omega)))
 rename_i bb _ _ y hy _ _
 have ha:=hy.1
 have hb:=hy.2
 clear n1 n3 n4 n6
 refine Z8 (X:={x:Nat×(List Nm×Option Addr×Nat) // x.1≤64∧SN x.2.1 (SB (· = nnm ⟨g1,g2⟩) ⟨g1,g2⟩ (RdC f T) x.1)∧x.2.1.length≤1+x.1}) (fun x=>[(4,.slice x.1.2.2.1 x.1.2.1.length x.1.2.2.2),(5,.slice none 0 0),(6,.pointer (some ⟨bb,0,none⟩)),(14,.int .i64 ((f:Nat):Int)),(16,.int .i64 (T:Int)),(17,.int .i64 (x.1.1:Int))]) (fun x=>[NmW x.1.2.2.1 x.1.2.2.2 x.1.2.1,NmW none 0 [],Usg]) (fun _=>Pt bb (.cells #[.string g1,.int .i64 g2] 68)::MoL bm q bs fs m) (fun x=>64 - x.1.1)
  ⟨(0,y),Nat.zero_le _,(ha.cg fun n=>by simp only [false_or];exact Vu (A:=(· = nnm ⟨g1,g2⟩)) n),Nat.le_trans hb (by simp)⟩ ⟨rfl,rfl,rfl,rfl,rfl,rfl,trivial⟩ ?_
 rintro ⟨⟨i,P,o1,c1⟩,hi,hP,hpl⟩
 dsimp only at hi hP hpl ⊢
 by_cases hlt2:i<64
 ·have v1:IntKind.i64.wrap (64 * (i:Int))=((64 * i:Nat):Int):=by rw [wrapi (by omega) (by omega)];omega
  have v2:IntKind.i64.wrap (((64 * i:Nat):Int)+64)=((64 * i+64:Nat):Int):=by rw [wrapi (by omega) (by omega)];omega
  have v3:(if ((f:Nat):Int)<((64 * i:Nat):Int) then ((64 * i:Nat):Int) else ((f:Nat):Int))=((max f (64 * i):Nat):Int):=by split<;>omega
  have v4:(if ((64 * i+64:Nat):Int)<(T:Int) then ((64 * i+64:Nat):Int) else (T:Int))=((min T (64 * i+64):Nat):Int):=by split<;>omega
  have v5:IntKind.i64.wrap ((i:Int)+1)=((i+1:Nat):Int):=by rw [wrapi (by omega) (by omega)];omega
  have m5:=nb (i:Int)
  have m6:=fun b=>YH o1 c1 P _ (bnm ⟨g1,g2⟩ (i:Int)) b hP (sb_new XS) (by omega) (VV (fun n h=>nn_ofB _ n h) hbz) hbz
  by_cases hR:RdC f T i
  ·have hr:=hR
   unfold RdC at hr
   obtain ⟨X1,hX1⟩:∃X1,max f (64 * i)=X1:=⟨_,rfl⟩
   obtain ⟨X2,hX2⟩:∃X2,min T (64 * i+64)=X2:=⟨_,rfl⟩
   rw [hX1] at v3 hr
   rw [hX2] at v4 hr
   repeat' (first|refine ZE ?_|refine ZD ?_|refine ZL ?_|refine ZF ?_|refine ZS ?_|refine ZO ?_|refine ZV ?_|refine ZR (fun b=>?_)|refine ZX (fun b=>?_)|refine ZH ?_|refine ZB ?_|refine ZW ?_|refine ZT ?_|refine ZZ ?_|refine Zf ?_|refine Za ?_|refine Zd ?_|refine Zj (fun b=>?_)|refine Zm (fun b=>?_)|refine Zk ?_|refine ZU ?_|refine ZC (m5) (fun _ _=>?_)|refine l_call0 (m5) (fun _ _=>?_)|refine ZN (m5) (fun _ _=>?_)|refine ZC (m6 _) (fun _ _=>?_)|refine l_call0 (m6 _) (fun _ _=>?_)|refine ZN (m6 _) (fun _ _=>?_)|rw [v1]|rw [v2]|rw [v3]|rw [v4]|rw [v5]|(refine ZJ (fun hc=>?_) (fun hc=>?_)<;>(try simp at hc)<;>(try omega))|(refine ZP (fun hc=>?_) (fun hc=>?_)<;>(try simp at hc)<;>(try omega))|refine ZA 1 [] [(0,0),(1,0),(2,0),(3,0),(4,0),(5,0),(6,4),(7,1)] [8] ?_|refine ZA 6 [] [(1,0),(2,0),(3,0),(0,4),(4,0),(5,0),(6,0)] [] ?_|refine ZA 8 [] [(0,0),(3,0),(5,0),(1,4),(4,4),(6,4),(7,1),(8,4),(2,1),(9,0),(10,0)] [] ?_|refine ZA 14 [] [(0,0),(1,0),(2,0),(3,0),(4,0),(5,0),(6,0),(7,0),(8,0),(9,0),(10,0),(11,0),(12,0),(13,0),(14,0),(15,0),(16,0)] [] ?_|refine ZA 25 [] [(0,0),(1,0),(2,0),(3,0),(4,0),(5,0)] [] ?_|refine ZA 61 [] [(0,0),(1,0),(2,0),(3,0),(4,0),(5,0),(6,0),(7,0),(8,0),(9,0),(10,0),(11,4)] [] ?_|(refine ZG (fun hc=>?_) (fun hc=>?_)<;>(try simp at hc)<;>(try omega)))
   rename (NmQ _ _).X=>y2
   rename (NmQ _ _).pure y2=>hy2
   exact Zb ⟨(i+1,y2),by dsimp only;omega,(hy2.1.cg fun n=>sb_yes hR n),Nat.le_trans hy2.2 (by dsimp only;omega)⟩ (by show 64 - (i+1)<64 - i;omega) ⟨rfl,rfl,rfl,rfl,rfl,rfl,trivial⟩
  ·have hr:=hR
   unfold RdC at hr
   obtain ⟨X1,hX1⟩:∃X1,max f (64 * i)=X1:=⟨_,rfl⟩
   obtain ⟨X2,hX2⟩:∃X2,min T (64 * i+64)=X2:=⟨_,rfl⟩
   rw [hX1] at v3 hr
   rw [hX2] at v4 hr
   repeat' (first|refine ZE ?_|refine ZD ?_|refine ZL ?_|refine ZF ?_|refine ZS ?_|refine ZO ?_|refine ZV ?_|refine ZR (fun b=>?_)|refine ZX (fun b=>?_)|refine ZH ?_|refine ZB ?_|refine ZW ?_|refine ZT ?_|refine ZZ ?_|refine Zf ?_|refine Za ?_|refine Zd ?_|refine Zj (fun b=>?_)|refine Zm (fun b=>?_)|refine Zk ?_|refine ZU ?_|rw [v1]|rw [v2]|rw [v3]|rw [v4]|rw [v5]|(refine ZJ (fun hc=>?_) (fun hc=>?_)<;>(try simp at hc)<;>(try omega))|(refine ZP (fun hc=>?_) (fun hc=>?_)<;>(try simp at hc)<;>(try omega))|refine ZA 1 [] [(0,0),(1,0),(2,0),(3,0),(4,0),(5,0),(6,4),(7,1)] [8] ?_|refine ZA 6 [] [(1,0),(2,0),(3,0),(0,4),(4,0),(5,0),(6,0)] [] ?_|refine ZA 8 [] [(0,0),(3,0),(5,0),(1,4),(4,4),(6,4),(7,1),(8,4),(2,1),(9,0),(10,0)] [] ?_|refine ZA 14 [] [(0,0),(1,0),(2,0),(3,0),(4,0),(5,0),(6,0),(7,0),(8,0),(9,0),(10,0),(11,0),(12,0),(13,0),(14,0),(15,0),(16,0)] [] ?_|refine ZA 25 [] [(0,0),(1,0),(2,0),(3,0),(4,0),(5,0)] [] ?_|refine ZA 61 [] [(0,0),(1,0),(2,0),(3,0),(4,0),(5,0),(6,0),(7,0),(8,0),(9,0),(10,0),(11,4)] [] ?_|(refine ZG (fun hc=>?_) (fun hc=>?_)<;>(try simp at hc)<;>(try omega)))
   exact Zb ⟨(i+1,P,o1,c1),by dsimp only;omega,(hP.cg fun n=>sb_no hR n),by dsimp only;omega⟩ (by show 64 - (i+1)<64 - i;omega) ⟨rfl,rfl,rfl,rfl,rfl,rfl,trivial⟩
 ·have hi64:i=64:=by omega
  subst hi64
  repeat' (first|refine ZE ?_|refine ZD ?_|refine ZL ?_|refine ZF ?_|refine ZS ?_|refine ZO ?_|refine ZV ?_|refine ZR (fun b=>?_)|refine ZX (fun b=>?_)|refine ZH ?_|refine ZB ?_|refine ZW ?_|refine ZT ?_|refine ZZ ?_|refine Zf ?_|refine Za ?_|refine Zd ?_|refine Zj (fun b=>?_)|refine Zm (fun b=>?_)|refine Zk ?_|refine ZU ?_|(refine ZJ (fun hc=>?_) (fun hc=>?_)<;>(try simp at hc)<;>(try omega))|(refine ZP (fun hc=>?_) (fun hc=>?_)<;>(try simp at hc)<;>(try omega))|refine ZA 1 [] [(0,0),(1,0),(2,0),(3,0),(4,0),(5,0),(6,4),(7,1)] [8] ?_|refine ZA 6 [] [(1,0),(2,0),(3,0),(0,4),(4,0),(5,0),(6,0)] [] ?_|refine ZA 8 [] [(0,0),(3,0),(5,0),(1,4),(4,4),(6,4),(7,1),(8,4),(2,1),(9,0),(10,0)] [] ?_|refine ZA 14 [] [(0,0),(1,0),(2,0),(3,0),(4,0),(5,0),(6,0),(7,0),(8,0),(9,0),(10,0),(11,0),(12,0),(13,0),(14,0),(15,0),(16,0)] [] ?_|refine ZA 25 [] [(0,0),(1,0),(2,0),(3,0),(4,0),(5,0)] [] ?_|refine ZA 61 [] [(0,0),(1,0),(2,0),(3,0),(4,0),(5,0),(6,0),(7,0),(8,0),(9,0),(10,0),(11,4)] [] ?_|(refine ZG (fun hc=>?_) (fun hc=>?_)<;>(try simp at hc)<;>(try omega)))
  exact ZK ((P,o1,c1),([],none,0)) rfl ⟨⟨hP,YU⟩,Nat.le_trans hpl (by omega),by simp⟩
set_option maxHeartbeats 4000000 in
theorem tchV4_ok (o:Op7) (hk:o.k.toNat % 6=4) (hD:DoH q bs fs m) (he:(mGet bs fs (bthF bs o.w)).2=0) {x:Fq} (hx:fs[(mGet bs fs (bthF bs o.w)).1]? = some x) (hv:x.ct.size=0):Enters 26∧Spec prog 26 #[.pointer (some ⟨bm,0,none⟩),o.v] [Usg] (MoL bm q bs fs m)
  (TcP bm q bs fs m (· = nnm (bthF bs o.w)) (fun _=>False)):=by
 obtain ⟨hl,hlf,hq,hb0,hct,hbs,hmv⟩:=hD
 obtain ⟨ok,ow,of,oc,ot,nd⟩:=o
 dsimp only at *
 have n1:=Zp q bs ow
 have hbz:=Zu hbs ow
 have hbad:∀n:Nm,¬n ∈ ([]:List Nm):=fun n h=>by cases h
 generalize hBI:bthF bs ow=BI at *
 have n3:=YF BI
 have n4:=fun b=>YH none 0 [] (fun _=>False) (nnm BI) b YU (fun h=>h) (by simp) (fun _ h=>h.elim) hbz
 have n6:=YY bm q bs fs BI hl hlf hbz
 have t1:=Yk ok 4 hk
 have w1:=YA (z:=((4:Nat):Int)) (by omega)
 have hgo:=Y8 (bs:=bs) (fs:=fs) (bi:=BI) he
 generalize mGet bs fs BI=G at *
 obtain ⟨G1,G2⟩:=G
 dsimp only at he n6 hx hgo
 subst he
 have hil:=(List.getElem?_eq_some_iff.1 hx).1
 have hxs:=hct x (List.mem_of_getElem? hx)
 obtain ⟨L,hL⟩:∃L,x.ct.size=L:=⟨_,rfl⟩
 rw [hL] at hxs hv
 obtain ⟨g1,g2⟩:=BI
 obtain ⟨a1,a2,a3,a4,a5,a6,a7⟩:=nd
 simp only [Op7.v,Bi.v] at *
 refine ZM [_,_] func26 ntmps26 fun G w hp=>?_
 refine XE (f:=NmW none 0 []) (fun h=>YV h) ?_
 repeat' (first|refine ZE ?_|refine ZD ?_|refine ZL ?_|refine ZF ?_|refine ZS ?_|refine ZO ?_|refine ZV ?_|refine ZR (fun b=>?_)|refine ZX (fun b=>?_)|refine ZH ?_|refine ZB ?_|refine ZW ?_|refine ZT ?_|refine ZZ ?_|refine Zf ?_|refine Za ?_|refine Zd ?_|refine Zj (fun b=>?_)|refine Zm (fun b=>?_)|refine Zk ?_|refine ZU ?_|refine ZC (n1) (fun _ _=>?_)|refine l_call0 (n1) (fun _ _=>?_)|refine ZN (n1) (fun _ _=>?_)|refine ZC (n3) (fun _ _=>?_)|refine l_call0 (n3) (fun _ _=>?_)|refine ZN (n3) (fun _ _=>?_)|refine ZC (n4 _) (fun _ _=>?_)|refine l_call0 (n4 _) (fun _ _=>?_)|refine ZN (n4 _) (fun _ _=>?_)|refine ZC (n6) (fun _ _=>?_)|refine l_call0 (n6) (fun _ _=>?_)|refine ZN (n6) (fun _ _=>?_)|rw [t1]|rw [w1]|rw [hL]|refine Yv (m:=fs.length) (sz:=9) G1 hil ?_|refine Zn 9 G1 7 hx ?_|(refine ZJ (fun hc=>?_) (fun hc=>?_)<;>(try simp at hc)<;>(try omega))|(refine ZP (fun hc=>?_) (fun hc=>?_)<;>(try simp at hc)<;>(try omega))|refine ZA 1 [BiX _ _] [(0,0),(1,0),(2,0),(3,0),(4,0),(5,0),(6,4),(7,1),(8,4)] [] ?_|refine ZA 25 [] [(0,0),(1,0),(2,0),(3,0),(4,0),(5,0)] [] ?_|(refine ZG (fun hc=>?_) (fun hc=>?_)<;>(try simp at hc)<;>(try omega)))
 all_goals rename (NmQ _ _).X=>y
 all_goals rename (NmQ _ _).pure y=>hy
 all_goals exact ZK (y,([],none,0)) rfl ⟨⟨hy.1.cg fun n=>by simp,YU⟩,Nat.le_trans hy.2 (by simp),by simp⟩
set_option maxHeartbeats 8000000 in
theorem tchG4_ok (o:Op7) (hk:o.k.toNat % 6=4) (hD:DoH q bs fs m) (he:(mGet bs fs (bthF bs o.w)).2=0) {x:Fq} (hx:fs[(mGet bs fs (bthF bs o.w)).1]? = some x) (hlt:0<x.ct.size):Enters 26∧Spec prog 26 #[.pointer (some ⟨bm,0,none⟩),o.v] [Usg] (MoL bm q bs fs m)
  (TcP bm q bs fs m (SB (· = nnm (bthF bs o.w)) (bthF bs o.w) (RdC 0 (0+min x.ct.size (x.ct.size - 0))) 64) (fun _=>False)):=by
 obtain ⟨hl,hlf,hq,hb0,hct,hbs,hmv⟩:=hD
 obtain ⟨ok,ow,of,oc,ot,nd⟩:=o
 dsimp only at *
 have n1:=Zp q bs ow
 have hbz:=Zu hbs ow
 have hbad:∀n:Nm,¬n ∈ ([]:List Nm):=fun n h=>by cases h
 generalize hBI:bthF bs ow=BI at *
 have n3:=YF BI
 have n4:=fun b=>YH none 0 [] (fun _=>False) (nnm BI) b YU (fun h=>h) (by simp) (fun _ h=>h.elim) hbz
 have n6:=YY bm q bs fs BI hl hlf hbz
 have t1:=Yk ok 4 hk
 have w1:=YA (z:=((4:Nat):Int)) (by omega)
 have hgo:=Y8 (bs:=bs) (fs:=fs) (bi:=BI) he
 generalize mGet bs fs BI=G at *
 obtain ⟨G1,G2⟩:=G
 dsimp only at he n6 hx hgo
 subst he
 have hil:=(List.getElem?_eq_some_iff.1 hx).1
 have hxs:=hct x (List.mem_of_getElem? hx)
 skip
 obtain ⟨L,hL⟩:∃L,x.ct.size=L:=⟨_,rfl⟩
 rw [hL] at hxs hlt ⊢
 obtain ⟨T,hT⟩:∃T,0+min L (L - 0)=T:=⟨_,rfl⟩
 have hTl:T≤4096:=by omega
 have w2:IntKind.i64.wrap ((L:Int) - 0)=((L - 0:Nat):Int):=by rw [wrapi (by omega) (by omega)];omega
 have w3:(if ((L - 0:Nat):Int)<(L:Int) then ((L - 0:Nat):Int) else (L:Int))=((min L (L - 0):Nat):Int):=by split<;>omega
 have w4:IntKind.i64.wrap (0+((min L (L - 0):Nat):Int))=(T:Int):=by rw [wrapi (by omega) (by omega)];omega
 rw [hT]
 have nb:=YM BI
 obtain ⟨g1,g2⟩:=BI
 obtain ⟨a1,a2,a3,a4,a5,a6,a7⟩:=nd
 simp only [Op7.v] at *
 simp only [Bi.v] at n1 n3 n6 nb
 refine ZM [_,_] func26 ntmps26 fun G w hp=>?_
 refine XE (f:=NmW none 0 []) (fun h=>YV h) ?_
 repeat' (first|refine ZE ?_|refine ZD ?_|refine ZL ?_|refine ZF ?_|refine ZS ?_|refine ZO ?_|refine ZV ?_|refine ZR (fun b=>?_)|refine ZX (fun b=>?_)|refine ZH ?_|refine ZB ?_|refine ZT ?_|refine ZZ ?_|refine Zf ?_|refine Za ?_|refine Zd ?_|refine Zj (fun b=>?_)|refine Zm (fun b=>?_)|refine Zk ?_|refine ZU ?_|refine ZC (n1) (fun _ _=>?_)|refine l_call0 (n1) (fun _ _=>?_)|refine ZN (n1) (fun _ _=>?_)|refine ZC (n3) (fun _ _=>?_)|refine l_call0 (n3) (fun _ _=>?_)|refine ZN (n3) (fun _ _=>?_)|refine ZC (n4 _) (fun _ _=>?_)|refine l_call0 (n4 _) (fun _ _=>?_)|refine ZN (n4 _) (fun _ _=>?_)|refine ZC (n6) (fun _ _=>?_)|refine l_call0 (n6) (fun _ _=>?_)|refine ZN (n6) (fun _ _=>?_)|rw [t1]|rw [w1]|rw [hL]|rw [w2]|rw [w3]|rw [w4]|refine Yv (m:=fs.length) (sz:=9) G1 hil ?_|refine Zn 9 G1 7 hx ?_|(refine ZJ (fun hc=>?_) (fun hc=>?_)<;>(try simp at hc)<;>(try omega))|(refine ZP (fun hc=>?_) (fun hc=>?_)<;>(try simp at hc)<;>(try omega))|refine ZA 1 [BiX _ _] [(0,0),(1,0),(2,0),(3,0),(4,0),(5,0),(6,4),(7,1),(8,4)] [] ?_|refine ZA 25 [] [(0,0),(1,0),(2,0),(3,0),(4,0),(5,0)] [] ?_|(refine ZG (fun hc=>?_) (fun hc=>?_)<;>(try simp at hc)<;>(try omega)))
 rename_i bb _ _ y hy _ _
 have ha:=hy.1
 have hb:=hy.2
 clear n1 n3 n4 n6
 refine Z8 (X:={x:Nat×(List Nm×Option Addr×Nat) // x.1≤64∧SN x.2.1 (SB (· = nnm ⟨g1,g2⟩) ⟨g1,g2⟩ (RdC 0 T) x.1)∧x.2.1.length≤1+x.1}) (fun x=>[(4,.slice x.1.2.2.1 x.1.2.1.length x.1.2.2.2),(5,.slice none 0 0),(6,.pointer (some ⟨bb,0,none⟩)),(14,.int .i64 ((0:Nat):Int)),(16,.int .i64 (T:Int)),(17,.int .i64 (x.1.1:Int))]) (fun x=>[NmW x.1.2.2.1 x.1.2.2.2 x.1.2.1,NmW none 0 [],Usg]) (fun _=>Pt bb (.cells #[.string g1,.int .i64 g2] 68)::MoL bm q bs fs m) (fun x=>64 - x.1.1)
  ⟨(0,y),Nat.zero_le _,(ha.cg fun n=>by simp only [false_or];exact Vu (A:=(· = nnm ⟨g1,g2⟩)) n),Nat.le_trans hb (by simp)⟩ ⟨rfl,rfl,rfl,rfl,rfl,rfl,trivial⟩ ?_
 rintro ⟨⟨i,P,o1,c1⟩,hi,hP,hpl⟩
 dsimp only at hi hP hpl ⊢
 by_cases hlt2:i<64
 ·have v1:IntKind.i64.wrap (64 * (i:Int))=((64 * i:Nat):Int):=by rw [wrapi (by omega) (by omega)];omega
  have v2:IntKind.i64.wrap (((64 * i:Nat):Int)+64)=((64 * i+64:Nat):Int):=by rw [wrapi (by omega) (by omega)];omega
  have v3:(if ((0:Nat):Int)<((64 * i:Nat):Int) then ((64 * i:Nat):Int) else ((0:Nat):Int))=((max 0 (64 * i):Nat):Int):=by split<;>omega
  have v4:(if ((64 * i+64:Nat):Int)<(T:Int) then ((64 * i+64:Nat):Int) else (T:Int))=((min T (64 * i+64):Nat):Int):=by split<;>omega
  have v5:IntKind.i64.wrap ((i:Int)+1)=((i+1:Nat):Int):=by rw [wrapi (by omega) (by omega)];omega
  have m5:=nb (i:Int)
  have m6:=fun b=>YH o1 c1 P _ (bnm ⟨g1,g2⟩ (i:Int)) b hP (sb_new XS) (by omega) (VV (fun n h=>nn_ofB _ n h) hbz) hbz
  by_cases hR:RdC 0 T i
  ·have hr:=hR
   unfold RdC at hr
   obtain ⟨X1,hX1⟩:∃X1,max 0 (64 * i)=X1:=⟨_,rfl⟩
   obtain ⟨X2,hX2⟩:∃X2,min T (64 * i+64)=X2:=⟨_,rfl⟩
   rw [hX1] at v3 hr
   rw [hX2] at v4 hr
   repeat' (first|refine ZE ?_|refine ZD ?_|refine ZL ?_|refine ZF ?_|refine ZS ?_|refine ZO ?_|refine ZV ?_|refine ZR (fun b=>?_)|refine ZX (fun b=>?_)|refine ZH ?_|refine ZB ?_|refine ZW ?_|refine ZT ?_|refine ZZ ?_|refine Zf ?_|refine Za ?_|refine Zd ?_|refine Zj (fun b=>?_)|refine Zm (fun b=>?_)|refine Zk ?_|refine ZU ?_|refine ZC (m5) (fun _ _=>?_)|refine l_call0 (m5) (fun _ _=>?_)|refine ZN (m5) (fun _ _=>?_)|refine ZC (m6 _) (fun _ _=>?_)|refine l_call0 (m6 _) (fun _ _=>?_)|refine ZN (m6 _) (fun _ _=>?_)|rw [v1]|rw [v2]|rw [v3]|rw [v4]|rw [v5]|(refine ZJ (fun hc=>?_) (fun hc=>?_)<;>(try simp at hc)<;>(try omega))|(refine ZP (fun hc=>?_) (fun hc=>?_)<;>(try simp at hc)<;>(try omega))|refine ZA 1 [] [(0,0),(1,0),(2,0),(3,0),(4,0),(5,0),(6,4),(7,1)] [8] ?_|refine ZA 6 [] [(1,0),(2,0),(3,0),(0,4),(4,0),(5,0),(6,0)] [] ?_|refine ZA 8 [] [(0,0),(3,0),(5,0),(1,4),(4,4),(6,4),(7,1),(8,4),(2,1),(9,0),(10,0)] [] ?_|refine ZA 14 [] [(0,0),(1,0),(2,0),(3,0),(4,0),(5,0),(6,0),(7,0),(8,0),(9,0),(10,0),(11,0),(12,0),(13,0),(14,0),(15,0),(16,0)] [] ?_|refine ZA 25 [] [(0,0),(1,0),(2,0),(3,0),(4,0),(5,0)] [] ?_|refine ZA 61 [] [(0,0),(1,0),(2,0),(3,0),(4,0),(5,0),(6,0),(7,0),(8,0),(9,0),(10,0),(11,4)] [] ?_|(refine ZG (fun hc=>?_) (fun hc=>?_)<;>(try simp at hc)<;>(try omega)))
   rename (NmQ _ _).X=>y2
   rename (NmQ _ _).pure y2=>hy2
   exact Zb ⟨(i+1,y2),by dsimp only;omega,(hy2.1.cg fun n=>sb_yes hR n),Nat.le_trans hy2.2 (by dsimp only;omega)⟩ (by show 64 - (i+1)<64 - i;omega) ⟨rfl,rfl,rfl,rfl,rfl,rfl,trivial⟩
  ·have hr:=hR
   unfold RdC at hr
   obtain ⟨X1,hX1⟩:∃X1,max 0 (64 * i)=X1:=⟨_,rfl⟩
   obtain ⟨X2,hX2⟩:∃X2,min T (64 * i+64)=X2:=⟨_,rfl⟩
   rw [hX1] at v3 hr
   rw [hX2] at v4 hr
   repeat' (first|refine ZE ?_|refine ZD ?_|refine ZL ?_|refine ZF ?_|refine ZS ?_|refine ZO ?_|refine ZV ?_|refine ZR (fun b=>?_)|refine ZX (fun b=>?_)|refine ZH ?_|refine ZB ?_|refine ZW ?_|refine ZT ?_|refine ZZ ?_|refine Zf ?_|refine Za ?_|refine Zd ?_|refine Zj (fun b=>?_)|refine Zm (fun b=>?_)|refine Zk ?_|refine ZU ?_|rw [v1]|rw [v2]|rw [v3]|rw [v4]|rw [v5]|(refine ZJ (fun hc=>?_) (fun hc=>?_)<;>(try simp at hc)<;>(try omega))|(refine ZP (fun hc=>?_) (fun hc=>?_)<;>(try simp at hc)<;>(try omega))|refine ZA 1 [] [(0,0),(1,0),(2,0),(3,0),(4,0),(5,0),(6,4),(7,1)] [8] ?_|refine ZA 6 [] [(1,0),(2,0),(3,0),(0,4),(4,0),(5,0),(6,0)] [] ?_|refine ZA 8 [] [(0,0),(3,0),(5,0),(1,4),(4,4),(6,4),(7,1),(8,4),(2,1),(9,0),(10,0)] [] ?_|refine ZA 14 [] [(0,0),(1,0),(2,0),(3,0),(4,0),(5,0),(6,0),(7,0),(8,0),(9,0),(10,0),(11,0),(12,0),(13,0),(14,0),(15,0),(16,0)] [] ?_|refine ZA 25 [] [(0,0),(1,0),(2,0),(3,0),(4,0),(5,0)] [] ?_|refine ZA 61 [] [(0,0),(1,0),(2,0),(3,0),(4,0),(5,0),(6,0),(7,0),(8,0),(9,0),(10,0),(11,4)] [] ?_|(refine ZG (fun hc=>?_) (fun hc=>?_)<;>(try simp at hc)<;>(try omega)))
   exact Zb ⟨(i+1,P,o1,c1),by dsimp only;omega,(hP.cg fun n=>sb_no hR n),by dsimp only;omega⟩ (by show 64 - (i+1)<64 - i;omega) ⟨rfl,rfl,rfl,rfl,rfl,rfl,trivial⟩
 ·have hi64:i=64:=by omega
  subst hi64
  repeat' (first|refine ZE ?_|refine ZD ?_|refine ZL ?_|refine ZF ?_|refine ZS ?_|refine ZO ?_|refine ZV ?_|refine ZR (fun b=>?_)|refine ZX (fun b=>?_)|refine ZH ?_|refine ZB ?_|refine ZW ?_|refine ZT ?_|refine ZZ ?_|refine Zf ?_|refine Za ?_|refine Zd ?_|refine Zj (fun b=>?_)|refine Zm (fun b=>?_)|refine Zk ?_|refine ZU ?_|(refine ZJ (fun hc=>?_) (fun hc=>?_)<;>(try simp at hc)<;>(try omega))|(refine ZP (fun hc=>?_) (fun hc=>?_)<;>(try simp at hc)<;>(try omega))|refine ZA 1 [] [(0,0),(1,0),(2,0),(3,0),(4,0),(5,0),(6,4),(7,1)] [8] ?_|refine ZA 6 [] [(1,0),(2,0),(3,0),(0,4),(4,0),(5,0),(6,0)] [] ?_|refine ZA 8 [] [(0,0),(3,0),(5,0),(1,4),(4,4),(6,4),(7,1),(8,4),(2,1),(9,0),(10,0)] [] ?_|refine ZA 14 [] [(0,0),(1,0),(2,0),(3,0),(4,0),(5,0),(6,0),(7,0),(8,0),(9,0),(10,0),(11,0),(12,0),(13,0),(14,0),(15,0),(16,0)] [] ?_|refine ZA 25 [] [(0,0),(1,0),(2,0),(3,0),(4,0),(5,0)] [] ?_|refine ZA 61 [] [(0,0),(1,0),(2,0),(3,0),(4,0),(5,0),(6,0),(7,0),(8,0),(9,0),(10,0),(11,4)] [] ?_|(refine ZG (fun hc=>?_) (fun hc=>?_)<;>(try simp at hc)<;>(try omega)))
  exact ZK ((P,o1,c1),([],none,0)) rfl ⟨⟨hP,YU⟩,Nat.le_trans hpl (by omega),by simp⟩
end
end
end Go.Proofs.YtdkndahndgkmnaaGreatDoor
