/-
  Lists that are changed in a window by exchanges: what sorting algorithms do, without a program.
  The contracts of pdqsort at replevin/state.Change, for windows of less than 50 elements.
  A cut behind the first statements of a function: the rest is walked once.
  Numbers that pdqsort reckons with: the length in bits, the next power of two, xorshift.
  Pivots: median of three, choosePivot. (replevin/state.Change)
  Reversal, sifting down. (replevin/state.Change)
  Sorting by a heap. (replevin/state.Change)
  What a partition keeps while it goes on, without a program.
  Partitions. (replevin/state.Change)
  Insertion that gives up. (replevin/state.Change)
  pdqsort, whole. (replevin/state.Change)
  The contract of slices.SortFunc at replevin/state.Change, for at most 200 elements.
  The contracts of package view: Writes.
  The range over a function whose order is open.
  The contracts of package view: Reads.
  A call may read a block that is set aside while the order is drawn.
  The contract of view's Writes, for a view that is only read.
  The contracts of package view: After, for views whose writes fit.
  The counts of a process: EncodeCounts (for counts that fit), DecodeCounts.
  What is written is read again; no program in sight.
  The counts of a process: EncodeCounts, DecodeCounts, Made, SetMade.
  What a reader accepts is what a writer would have written.
  Conditions: those that each theorem states.
-/
import Derived.Test.YtdkndahndgkmnaaGreatDoorS2
import Derived.Test.YtdkndahndgkmnaaGreatDoorS1
set_option maxRecDepth 10000
namespace Go.Proofs.YtdkndahndgkmnaaGreatDoor
open Go.RowKit Go.Proofs.Tryz
variable {b:Nat}
variable {n:Nat}
section
variable {α:Type} [Inhabited α]
def gt (l:List α) (i:Nat):α:=l.getD i default
theorem ZR {l:List α} {i:Nat} (h:i<l.length):l[i]? = some (gt l i):=by
 unfold gt;rw [List.getD_eq_getElem?_getD,List.getElem?_eq_getElem h];rfl
theorem gt_of {l:List α} {i:Nat} {x:α} (h:l[i]? = some x):gt l i=x:=by
 unfold gt;rw [List.getD_eq_getElem?_getD,h];rfl
theorem Z9 {l:List α} {i:Nat} (h:i<l.length):gt l i ∈ l:=List.mem_of_getElem? (ZR h)
theorem gt_set {l:List α} {i k:Nat} {x:α} (h:i<l.length):gt (l.set i x) k=if k=i then x else gt l k:=by
 unfold gt
 rw [List.getD_eq_getElem?_getD,List.getD_eq_getElem?_getD,List.getElem?_set]
 by_cases hk:k=i
 ·subst hk;simp [h]
 ·rw [if_neg (fun h=>hk h.symm),if_neg hk]
def sw (l:List α) (i j:Nat):List α:=(l.set i (gt l j)).set j (gt l i)
theorem sw_len (l:List α) (i j:Nat):(sw l i j).length=l.length:=by simp [sw]
theorem WW {l:List α} {i j k:Nat} (hi:i<l.length) (hj:j<l.length):gt (sw l i j) k=if k=j then gt l i else if k=i then gt l j else gt l k:=by
 unfold sw
 rw [gt_set (by simpa using hj),gt_set hi]
theorem sw_perm {l:List α} {i j:Nat} (hi:i<l.length) (hj:j<l.length):(sw l i j).Perm l:=by
 have h1:gt l j=l[j]:=gt_of (List.getElem?_eq_getElem hj)
 have h2:gt l i=l[i]:=gt_of (List.getElem?_eq_getElem hi)
 unfold sw
 rw [h1,h2]
 exact List.set_set_perm hi hj
structure Win (a b:Nat) (l l':List α):Prop where
 perm:l'.Perm l
 out:∀k,k<a∨b≤k→gt l' k=gt l k
variable {a a' b':Nat} {l l' l'':List α}
theorem Win.len (h:Win a b l l'):l'.length=l.length:=h.perm.length_eq
theorem Win.refl:Win a b l l:=⟨List.Perm.refl _,fun _ _=>rfl⟩
theorem Win.trans (h:Win a b l l') (k:Win a b l' l''):Win a b l l'':=⟨k.perm.trans h.perm,fun i hi=>(k.out i hi).trans (h.out i hi)⟩
theorem Win.mono (h:Win a' b' l l') (h1:a≤a') (h2:b'≤b):Win a b l l':=⟨h.perm,fun k hk=>h.out k (by omega)⟩
theorem Win.sw {i j:Nat} (h1:a≤i) (h2:i<b) (h3:a≤j) (h4:j<b) (hb:b≤l.length):Win a b l (sw l i j):=⟨sw_perm (by omega) (by omega),fun k hk=>by
 rw [WW (by omega) (by omega),if_neg (by omega),if_neg (by omega)]⟩
theorem Win.sub (h:Win a b l l') {U:α→Prop} (hU:∀x ∈ l,U x):∀x ∈ l',U x:=fun x hx=>hU x (h.perm.mem_iff.1 hx)
def wn (l:List α) (a b:Nat):List α:=(l.drop a).take (b - a)
theorem mem_wn {x:α} (hb:b≤l.length):x ∈ wn l a b↔∃k,a≤k∧k<b∧gt l k=x:=by
 unfold wn
 rw [List.mem_iff_getElem?]
 constructor
 ·rintro ⟨i,hi⟩
  rw [List.getElem?_take] at hi
  split at hi
  ·rw [List.getElem?_drop] at hi
   exact ⟨a+i,by omega,by omega,gt_of hi⟩
  ·cases hi
 ·rintro ⟨k,h1,h2,rfl⟩
  refine ⟨k - a,?_⟩
  rw [List.getElem?_take,if_pos (by omega),List.getElem?_drop,show a+(k - a)=k by omega,ZR (by omega)]
omit [Inhabited α] in
theorem wn_split (hab:a≤b):l=l.take a++(wn l a b++l.drop b):=by
 unfold wn
 rw [show l.drop b=(l.drop a).drop (b - a) by rw [List.drop_drop];congr 1;omega,List.take_append_drop,List.take_append_drop]
theorem Win.wn (h:Win a b l l') (hab:a≤b):(wn l' a b).Perm (wn l a b):=by
 have h1:=h.perm
 have e1:l'.take a=l.take a:=by
  apply List.ext_getElem?
  intro i
  rw [List.getElem?_take,List.getElem?_take]
  split
  ·rename_i hi
   by_cases hl:i<l.length
   ·rw [ZR (by rw [h.len];exact hl),ZR hl,h.out i (by omega)]
   ·rw [List.getElem?_eq_none (by rw [h.len];omega),List.getElem?_eq_none (by omega)]
  ·rfl
 have e2:l'.drop b=l.drop b:=by
  apply List.ext_getElem?
  intro i
  rw [List.getElem?_drop,List.getElem?_drop]
  by_cases hl:b+i<l.length
  ·rw [ZR (by rw [h.len];exact hl),ZR hl,h.out (b+i) (by omega)]
  ·rw [List.getElem?_eq_none (by rw [h.len];omega),List.getElem?_eq_none (by omega)]
 rw [wn_split (l:=l') hab,wn_split (l:=l) hab,e1,e2] at h1
 exact (List.perm_append_right_iff _).1 ((List.perm_append_left_iff _).1 h1)
theorem Win.all (h:Win a b l l') (hb:b≤l.length) {P:α→Prop} (hP:∀k,a≤k→k<b→P (gt l k)) (k:Nat) (h1:a≤k) (h2:k<b):P (gt l' k):=by
 have hm:gt l' k ∈ Go.Proofs.YtdkndahndgkmnaaGreatDoor.wn l' a b:=(mem_wn (by rw [h.len];exact hb)).2 ⟨k,h1,h2,rfl⟩
 obtain ⟨j,h3,h4,h5⟩:=(mem_wn hb).1 ((h.wn (by omega)).mem_iff.1 hm)
 rw [←h5]
 exact hP j h3 h4
structure Wk0 (c:α→α→Int):Prop where
 a:∀x y,c x y<0→¬c y x<0
 t:∀x y z,¬c y x<0→¬c z y<0→¬c z x<0
variable {c:α→α→Int} (W:Wk0 c)
include W
omit [Inhabited α] in
theorem Wk0.i (x:α):¬c x x<0:=fun h=>W.a x x h h
omit [Inhabited α] in
theorem Wk0.lt_of {x y z:α} (h1:c x y<0) (h2:¬c z y<0):c x z<0:=Classical.byContradiction fun h=>W.t y z x h2 h h1
omit W
def Sw (c:α→α→Int) (a b:Nat) (l:List α):Prop:=∀i j,a≤i→i<j→j<b→¬c (gt l j) (gt l i)<0
theorem Sw.srd (h:Sw c 0 l.length l):Srd c l:=by
 unfold Srd
 rw [List.pairwise_iff_getElem]
 intro i j hi hj hij
 have h1:=h i j (by omega) hij hj
 rw [gt_of (List.getElem?_eq_getElem hi),gt_of (List.getElem?_eq_getElem hj)] at h1
 exact h1
theorem Sw.nil (h:b≤a+1):Sw c a b l:=fun i j h1 h2 h3=>by omega
structure Jw (c:α→α→Int) (a b a' b':Nat) (l0 l:List α):Prop where
 w:Win a b l0 l
 h1:a≤a'
 h2:b'≤b
 p:∀i j,a≤i→i<j→j<b→¬(a'≤i∧j<b')→¬c (gt l j) (gt l i)<0
def Lw (c:α→α→Int) (a b:Nat) (l:List α):Prop:=0<a→∀k,a≤k→k<b→¬c (gt l k) (gt l (a - 1))<0
variable {l0 l1 l2:List α} {m:Nat}
theorem Jw.win (h:Jw c a b a' b' l0 l) (hb:b≤l0.length) (hw:Win a' b' l l1):Jw c a b a' b' l0 l1:=by
 refine ⟨h.w.trans (hw.mono h.h1 h.h2),h.h1,h.h2,fun i j hi hij hj hn=>?_⟩
 have hl:=h.w.len
 have h2:=h.h2
 by_cases hi':a'≤i∧i<b'
 ·rw [hw.out j (by omega)]
  exact hw.all (by omega) (P:=fun x=>¬c (gt l j) x<0) (fun k h1 h2=>h.p k j (by have:=h.h1;omega) (by omega) hj (by omega)) i hi'.1 hi'.2
 ·rw [hw.out i (by omega)]
  by_cases hj':a'≤j∧j<b'
  ·exact hw.all (by omega) (P:=fun x=>¬c x (gt l i)<0) (fun k h1 h2=>h.p i k hi (by omega) (by omega) (by omega)) j hj'.1 hj'.2
  ·rw [hw.out j (by omega)]
   exact h.p i j hi hij hj hn
theorem Jw.low (h:Jw c a b a' b' l0 l) (hb:b≤l0.length) (hl:Lw c a b l0):Lw c a' b' l:=fun h0 k h1 h2=>by
 have ha:=h.h1
 have hb':=h.h2
 by_cases he:a'=a
 ·subst he
  rw [h.w.out (a' - 1) (by omega)]
  exact h.w.all hb (P:=fun x=>¬c x (gt l0 (a' - 1))<0) (fun k h3 h4=>hl h0 k h3 h4) k (by omega) (by omega)
 ·exact h.p (a' - 1) k (by omega) (by omega) (by omega) (by omega)
theorem Jw.done (h:Jw c a b a' b' l0 l) (hs:Sw c a' b' l):Win a b l0 l∧Sw c a b l:=⟨h.w,fun i j hi hij hj=>by
 by_cases hn:a'≤i∧j<b'
 ·exact hs i j hn.1 hij hn.2
 ·exact h.p i j hi hij hj hn⟩
theorem Jw.init:Jw c a b a b l l:=⟨Win.refl,Nat.le_refl _,Nat.le_refl _,fun _ _ h1 _ h3 h4=>absurd ⟨h1,h3⟩ h4⟩
theorem Jw.shrink {a2 b2:Nat} (h:Jw c a b a' b' l0 l) (h1:a'≤a2) (h2:b2≤b') (hp:∀i j,a'≤i→i<j→j<b'→¬(a2≤i∧j<b2)→¬c (gt l j) (gt l i)<0):Jw c a b a2 b2 l0 l:=⟨h.w,by have:=h.h1;omega,by have:=h.h2;omega,fun i j hi hij hj hn=>by
 by_cases hn':a'≤i∧j<b'
 ·exact hp i j hn'.1 hij hn'.2 hn
 ·exact h.p i j hi hij hj hn'⟩
structure Pt0 (c:α→α→Int) (a b m:Nat) (l:List α):Prop where
 h1:a≤m
 h2:m<b
 lo:∀k,a≤k→k<m→c (gt l k) (gt l m)<0
 hi:∀k,m<k→k<b→¬c (gt l k) (gt l m)<0
include W in
theorem Pt0.left (hp:Pt0 c a' b' m l) (hb:b'≤l.length) (hw:Win a' m l l1) (hs:Sw c a' m l1):∀i j,a'≤i→i<j→j<b'→¬(m+1≤i∧j<b')→¬c (gt l1 j) (gt l1 i)<0:=fun i j hi hij hj hn=>by
 have h1:=hp.h1
 have h2:=hp.h2
 by_cases hjm:j<m
 ·exact hs i j hi hij hjm
 ·rw [hw.out j (by omega)]
  by_cases him:i<m
  ·have h3:c (gt l1 i) (gt l m)<0:=hw.all (by omega) (P:=fun x=>c x (gt l m)<0) (fun k h1 h2=>hp.lo k h1 h2) i hi him
   by_cases hjm':j=m
   ·rw [hjm'];exact W.a _ _ h3
   ·exact W.a _ _ (W.lt_of h3 (hp.hi j (by omega) hj))
  ·obtain rfl:i=m:=by omega
   rw [hw.out i (by omega)]
   exact hp.hi j (by omega) hj
include W in
theorem Pt0.right (hp:Pt0 c a' b' m l) (hb:b'≤l.length) (hw:Win (m+1) b' l l1) (hs:Sw c (m+1) b' l1):∀i j,a'≤i→i<j→j<b'→¬(a'≤i∧j<m)→¬c (gt l1 j) (gt l1 i)<0:=fun i j hi hij hj hn=>by
 have h1:=hp.h1
 have h2:=hp.h2
 by_cases him:m<i
 ·exact hs i j (by omega) hij hj
 ·rw [hw.out i (by omega)]
  by_cases hjm:m<j
  ·have h3:¬c (gt l1 j) (gt l m)<0:=hw.all (by omega) (P:=fun x=>¬c x (gt l m)<0) (fun k h1 h2=>hp.hi k (by omega) h2) j (by omega) hj
   by_cases him':i=m
   ·rw [him'];exact h3
   ·exact W.a _ _ (W.lt_of (hp.lo i hi (by omega)) h3)
  ·obtain rfl:j=m:=by omega
   rw [hw.out j (by omega)]
   exact W.a _ _ (hp.lo i hi (by omega))
theorem Pt0.lw (hp:Pt0 c a b m l):Lw c (m+1) b l:=fun _ k h1 h2=>hp.hi k (by omega) h2
theorem Lw.sub (h:Lw c a b l) (hm:m≤b):Lw c a m l:=fun h0 k h1 h2=>h h0 k h1 (by omega)
include W in
theorem eq_shrink {q:α} (hlow:∀k,a'≤k→k<b'→¬c (gt l k) q<0) (h1:∀k,a'≤k→k<m→¬c q (gt l k)<0):∀i j,a'≤i→i<j→j<b'→¬(m≤i∧j<b')→¬c (gt l j) (gt l i)<0:=fun i j hi hij hj hn=>
 W.t _ _ _ (h1 i hi (by omega)) (hlow j (by omega) hj)
def Hp (c:α→α→Int) (f lo n x:Nat) (l:List α):Prop:=∀i j,lo≤i→(j=2 * i+1∨j=2 * i+2)→j<n→i≠x→¬c (gt l (f+i)) (gt l (f+j))<0
def Hq (c:α→α→Int) (f lo n x:Nat) (l:List α):Prop:=∀i j,lo≤i→(x=2 * i+1∨x=2 * i+2)→(j=2 * x+1∨j=2 * x+2)→j<n→¬c (gt l (f+i)) (gt l (f+j))<0
variable {f lo x y:Nat}
include W in
theorem Hp.step (h:Hp c f lo n x l) (hq:Hq c f lo n x l) (hx:lo≤x) (hy:y=2 * x+1∨y=2 * x+2) (hyn:y<n) (hn:f+n≤l.length) (hlt:c (gt l (f+x)) (gt l (f+y))<0)
  (hmax:∀z,(z=2 * x+1∨z=2 * x+2)→z<n→¬c (gt l (f+y)) (gt l (f+z))<0):Hp c f lo n y (sw l (f+x) (f+y))∧Hq c f lo n y (sw l (f+x) (f+y)):=by
 have g:=fun k=>WW (l:=l) (i:=f+x) (j:=f+y) (k:=f+k) (by omega) (by omega)
 constructor
 ·intro i j hi hij hj hiy
  rw [g i,g j,if_neg (by omega:¬f+i=f+y)]
  by_cases hix:i=x
  ·subst hix
   rw [if_pos rfl]
   by_cases hjy:j=y
   ·subst hjy;rw [if_pos rfl];exact W.a _ _ hlt
   ·rw [if_neg (by omega),if_neg (by omega)]
    exact hmax j hij hj
  ·rw [if_neg (by omega)]
   have h3:=h i j hi hij hj hix
   by_cases hjy:j=y
   ·omega
   ·rw [if_neg (by omega)]
    by_cases hjx:j=x
    ·subst hjx
     rw [if_pos rfl]
     exact hq i y hi hij hy hyn
    ·rw [if_neg (by omega)];exact h3
 ·intro i j hi hyi hj hjn
  have hix:i=x:=by omega
  subst hix
  rw [g i,g j,if_neg (by omega),if_pos rfl,if_neg (by omega),if_neg (by omega)]
  exact h y j (by omega) hj hjn (by omega)
theorem Hp.stop (h:Hp c f lo n x l) (hs:∀j,(j=2 * x+1∨j=2 * x+2)→j<n→¬c (gt l (f+x)) (gt l (f+j))<0):∀i j,lo≤i→(j=2 * i+1∨j=2 * i+2)→j<n→¬c (gt l (f+i)) (gt l (f+j))<0:=fun i j hi hij hj=>by
 by_cases hx:i=x
 ·subst hx;exact hs j hij hj
 ·exact h i j hi hij hj hx
def He (c:α→α→Int) (f lo n:Nat) (l:List α):Prop:=∀i j,lo≤i→(j=2 * i+1∨j=2 * i+2)→j<n→¬c (gt l (f+i)) (gt l (f+j))<0
include W in
theorem He.top (h:He c f 0 n l):∀j,j<n→¬c (gt l f) (gt l (f+j))<0:=by
 intro j
 induction j using Nat.strongRecOn with
 | ind j ih=>
  intro hj
  by_cases h0:j=0
  ·subst h0;exact W.i _
  ·have h1:=ih ((j - 1) / 2) (by omega) (by omega)
   have h2:=h ((j - 1) / 2) j (by omega) (by omega) hj
   exact W.t _ _ _ h2 h1
structure Hs (c:α→α→Int) (f n N:Nat) (l:List α):Prop where
 he:He c f 0 n l
 so:∀p q,p<q→q<N→n≤q→¬c (gt l (f+q)) (gt l (f+p))<0
include W in
theorem Hs.pop {i N:Nat} (h:Hs c f (i+1) N l) (hi:i<N) (hN:f+N≤l.length) (hw:Win f (f+i) (sw l f (f+i)) l2) (he:He c f 0 i l2):Hs c f i N l2:=by
 refine ⟨he,fun p q hpq hq hiq=>?_⟩
 have g:=fun k=>WW (l:=l) (i:=f) (j:=f+i) (k:=k) (by omega) (by omega)
 have hs:=sw_len l f (f+i)
 have hall:∀P:α→Prop,(∀k,k≤i→P (gt l (f+k)))→∀p,p<i→P (gt l2 (f+p)):=fun P hP p hp=>
  hw.all (by omega) (P:=P) (fun k h1 h2=>by
   rw [g k,if_neg (by omega)]
   by_cases hk:k=f
   ·rw [if_pos hk];exact hP i (Nat.le_refl _)
   ·rw [if_neg hk,show k=f+(k - f) by omega];exact hP (k - f) (by omega)) (f+p) (by omega) (by omega)
 rw [hw.out (f+q) (by omega),g (f+q)]
 by_cases hqi:q=i
 ·subst hqi
  rw [if_pos rfl]
  exact hall (fun x=>¬c (gt l f) x<0) (fun k hk=>h.he.top W k (by omega)) p hpq
 ·rw [if_neg (by omega),if_neg (by omega)]
  by_cases hpi:p<i
  ·exact hall (fun x=>¬c (gt l (f+q)) x<0) (fun k hk=>h.so k q (by omega) hq (by omega)) p hpi
  ·rw [hw.out (f+p) (by omega),g (f+p)]
   by_cases hp':p=i
   ·rw [if_pos (by omega)]
    exact h.so 0 q (by omega) hq (by omega)
   ·rw [if_neg (by omega),if_neg (by omega)]
    exact h.so p q hpq hq (by omega)
theorem Hs.done {N:Nat} (h:Hs c f 0 N l):Sw c f (f+N) l:=fun i j h1 h2 h3=>by
 have:=h.so (i - f) (j - f) (by omega) (by omega) (by omega)
 rwa [show f+(j - f)=j by omega,show f+(i - f)=i by omega] at this
theorem Hs.init {n N:Nat} (h:He c f 0 n l) (hn:N≤n):Hs c f n N l:=⟨h,fun p q h1 h2 h3=>by omega⟩
omit [Inhabited α] in
theorem snocRec {motive:List α→Prop} (l:List α) (nil:motive []) (snoc:∀(l:List α) (x:α),motive l→motive (l++[x])):motive l:=by
 have h:∀n (l:List α),l.length=n→motive l:=by
  intro n
  induction n with
  | zero=>intro l hl;rw [List.length_eq_zero_iff.1 hl];exact nil
  | succ n ih=>
   intro l hl
   rcases List.eq_nil_or_concat l with h|⟨l',x,h⟩
   ·subst h;exact nil
   ·rw [List.concat_eq_append] at h
    subst h
    exact snoc l' x (ih l' (by simpa using hl))
 exact h _ l rfl
def inR (c:α→α→Int) (P:List α) (x:α):List α:=(P.reverse.dropWhile fun s=>decide (c x s<0)).reverse++x::(P.reverse.takeWhile fun s=>decide (c x s<0)).reverse
omit [Inhabited α] in
theorem inR_eq {P S P0:List α} {x:α} (h:P++S=P0) (h1:∀s ∈ S,c x s<0) (h2:∀p,P.getLast? = some p→¬c x p<0):inR c P0 x=P++x::S:=by
 subst h
 have h3:∀s ∈ S.reverse,decide (c x s<0)=true:=fun s hs=>by simpa using h1 s (List.mem_reverse.1 hs)
 have h4:P.reverse.takeWhile (fun s=>decide (c x s<0))=[]∧P.reverse.dropWhile (fun s=>decide (c x s<0))=P.reverse:=by
  rcases List.eq_nil_or_concat P with hP|⟨P',q,hP⟩
  ·subst hP;simp
  ·rw [List.concat_eq_append] at hP
   subst hP
   have:=h2 q (by simp)
   simp [this]
 unfold inR
 rw [List.reverse_append,List.takeWhile_append_of_pos h3,List.dropWhile_append_of_pos h3,h4.1,h4.2]
 simp
def isR (c:α→α→Int) (l:List α):List α:=l.foldl (inR c) []
omit [Inhabited α] in
theorem inR_split (P:List α) (x:α):∃Q S,Q++S=P∧(∀s ∈ S,c x s<0)∧(∀p,Q.getLast? = some p→¬c x p<0)∧inR c P x=Q++x::S:=by
 induction P using snocRec with
 | nil=>exact ⟨[],[],rfl,by simp,by simp,by simp [inR]⟩
 | snoc P q ih=>
  by_cases hq:c x q<0
  ·obtain ⟨Q,S,h1,h2,h3,h4⟩:=ih
   have h5:∀s ∈ S++[q],c x s<0:=by
    intro s hs
    rcases List.mem_append.1 hs with hs|hs
    ·exact h2 s hs
    ·obtain rfl:=List.mem_singleton.1 hs;exact hq
   exact ⟨Q,S++[q],by rw [←h1];simp,h5,h3,inR_eq (by rw [←h1];simp) h5 h3⟩
  ·have h3:∀p,(P++[q]).getLast? = some p→¬c x p<0:=fun p hp=>by
    simp at hp;subst hp;exact hq
   exact ⟨P++[q],[],by simp,by simp,h3,inR_eq (by simp) (by simp) h3⟩
omit [Inhabited α] in
theorem inR_perm (P:List α) (x:α):(inR c P x).Perm (P++[x]):=by
 obtain ⟨Q,S,h1,_,_,h4⟩:=inR_split (c:=c) P x
 rw [h4,←h1,List.append_assoc]
 refine List.Perm.append_left Q ?_
 exact (List.perm_append_comm (l₁:=[x]) (l₂:=S))
omit [Inhabited α] in
theorem isR_snoc (l:List α) (x:α):isR c (l++[x])=inR c (isR c l) x:=by simp [isR]
omit [Inhabited α] in
theorem isR_perm (l:List α):(isR c l).Perm l:=by
 induction l using snocRec with
 | nil=>exact List.Perm.refl _
 | snoc l x ih=>rw [isR_snoc];exact (inR_perm _ _).trans (ih.append_right [x])
omit [Inhabited α] in
include W in
theorem isR_srd (l:List α):Srd c (isR c l):=by
 induction l using snocRec with
 | nil=>exact List.Pairwise.nil
 | snoc l x ih=>
  rw [isR_snoc]
  obtain ⟨Q,S,h1,h2,h3,h4⟩:=inR_split (c:=c) (isR c l) x
  rw [h4]
  exact srt_insr W.a (fun a b d=>W.t a b d) (by rw [h1];exact ih) h2 h3
omit [Inhabited α] in
theorem isR_len (l:List α):(isR c l).length=l.length:=(isR_perm l).length_eq
theorem sw_of {A M B:List α} (h:Srd c M):Sw c A.length (A.length+M.length) (A++(M++B)):=fun i j h1 h2 h3=>by
 have e:∀k,A.length≤k→k<A.length+M.length→gt (A++(M++B)) k=M[k - A.length]!∧k - A.length<M.length:=fun k h1 h2=>by
  refine ⟨gt_of ?_,by omega⟩
  rw [List.getElem?_append_right h1,List.getElem?_append_left (by omega),List.getElem!_eq_getElem?_getD,List.getElem?_eq_getElem (by omega)]
  rfl
 obtain ⟨e1,l1⟩:=e i h1 (by omega)
 obtain ⟨e2,l2⟩:=e j (by omega) h3
 rw [e1,e2]
 unfold Srd at h
 rw [List.pairwise_iff_getElem] at h
 have:=h (i - A.length) (j - A.length) l1 l2 (by omega)
 rw [List.getElem!_eq_getElem?_getD,List.getElem!_eq_getElem?_getD,List.getElem?_eq_getElem l1,List.getElem?_eq_getElem l2]
 exact this
theorem win_of {A M M' B:List α} (h:M'.Perm M):Win A.length (A.length+M.length) (A++(M++B)) (A++(M'++B)):=⟨(h.append_right B).append_left A,fun k hk=>by
 unfold gt
 rw [List.getD_eq_getElem?_getD,List.getD_eq_getElem?_getD]
 have hl:=h.length_eq
 rcases hk with hk|hk
 ·rw [List.getElem?_append_left hk,List.getElem?_append_left hk]
 ·rw [List.getElem?_append_right (by omega),List.getElem?_append_right (by omega),List.getElem?_append_right (by omega),List.getElem?_append_right (by omega),hl]⟩
end
section
variable (b cap:Nat) (q:List Value×(Nat×Nat)) (fv:FuncId) (Fc:Pf) (c:Ch→Ch→Int) (W:Wk0 c) (U:Ch→Prop) (hcmp:∀x y,U x→U y→Enters fv∧Spec prog fv #[x.v,y.v] [Fc] [] (RetV (.int .i64 (c x y))))
include hcmp in
set_option maxHeartbeats 4000000 in
theorem insWC_ok (A M B:List Ch) (n:Nat) (hn:n=A.length+(M.length+B.length)) (hn2:n≤1000000) (hq:AxOK (n * 7) q) (hU:∀x ∈ A++(M++B),U x) :
  Enters 173∧Spec prog 173 #[.slice (some ⟨b,0,none⟩) n cap,.int .i64 (A.length:Int),.int .i64 ((A.length+M.length:Nat):Int),.func (.func fv) #[] #[]] [Fc] [Ax 108 chf b (A++(M++B)) q]
   ⟨Unit,fun _=>.tuple #[],fun _=>True,fun _=>[],fun _=>[Ax 108 chf b (A++(isR c M++B)) q]⟩:=by
 have w0:IntKind.i64.wrap ((A.length:Int)+1)=((A.length+1:Nat):Int):=by rw [wrapi (by omega) (by omega)];omega
 have h1:M.take 1++(M.drop 1++B)=M++B:=by rw [←List.append_assoc,List.take_append_drop]
 have h2:isR c (M.take 1)=M.take 1:=by
  cases M with
  | nil=>rfl
  | cons x M=>simp [isR,inR]
 refine ZV [_,_,_,_] func173 ntmps173 fun G w hp=>?_
 repeat' (first|refine ZH ?_|refine ZI ?_|refine ZK ?_|refine ZG ?_|refine ZM ?_|refine ZJ ?_|refine ZN ?_|refine ZP (fun b=>?_)|refine ZO (fun b=>?_)|refine ZA ?_|refine ZB ?_|refine ZL ?_|refine ZX ?_|refine ZY ?_|refine Zf ?_|refine Za ?_|refine Zb ?_|refine Zc (fun b=>?_)|refine Zd (fun b=>?_)|refine Ze ?_|refine ZZ ?_|refine ZC (fun hc=>?_) (fun hc=>?_)|refine ZQ (fun hc=>?_) (fun hc=>?_)|refine ZD 4 [] [(0,0),(1,0),(2,0),(3,0),(4,0),(5,0),(6,0),(7,0),(8,0),(9,0),(10,0),(11,0),(12,0),(13,0),(14,4),(15,0),(16,0)] [] ?_|refine ZD 6 [] [(0,0),(1,0),(2,0),(3,0),(4,0),(5,0),(6,0),(7,0),(8,0),(9,0),(10,0),(11,0),(12,0),(13,0),(14,0),(15,4),(16,0)] [17] ?_|refine ZF (fun hc=>?_) (fun hc=>?_))
 rw [w0]
 refine YT (X:={i:Nat // 1≤i∧i≤max 1 M.length}) (fun i=>[(0,.slice (some ⟨b,0,none⟩) n cap),(1,.int .i64 (A.length:Int)),(2,.int .i64 ((A.length+M.length:Nat):Int)),(3,.func (.func fv) #[] #[]),(8,.int .i64 ((A.length+i.1:Nat):Int))]) (fun _=>[Fc]) (fun i=>[Ax 108 chf b (A++(isR c (M.take i.1)++(M.drop i.1++B))) q]) (fun i=>M.length - i.1)
  ⟨1,by omega,by omega⟩ ⟨rfl,rfl,rfl,rfl,rfl,trivial⟩ ?_ (hr:=by dsimp only;rw [h2,h1];exact Sels.cons Sel.here Sels.nil)
 rintro ⟨i,hi1,hi2⟩
 dsimp only at hi1 hi2 ⊢
 by_cases hin:i<M.length
 ·obtain ⟨x,hx⟩:∃x,M[i]? = some x:=⟨_,List.getElem?_eq_getElem hin⟩
  have hd:M.drop i=x::M.drop (i+1):=by
   rw [List.getElem?_eq_getElem hin] at hx
   rw [←Option.some.inj hx,List.getElem_cons_drop]
  have ht:M.take (i+1)=M.take i++[x]:=by rw [List.take_add_one,hx];rfl
  have hl0:(isR c (M.take i)).length=i:=by rw [isR_len,List.length_take];omega
  have hUx:U x:=hU x (by simp [List.mem_of_getElem? hx])
  have hUP:∀p ∈ isR c (M.take i),U p:=fun p hp=>hU p (by
   have:=List.mem_of_mem_take ((isR_perm _).mem_iff.1 hp)
   simp [this])
  have hdl:(M.drop (i+1)).length=M.length - (i+1):=List.length_drop
  rw [hd]
  have hR:isR c (M.take (i+1))=inR c (isR c (M.take i)) x:=by rw [ht,isR_snoc]
  generalize isR c (M.take i)=P0 at *
  generalize hDe:M.drop (i+1)=D0 at *
  obtain ⟨D,hD⟩:∃D,D=D0++B:=⟨_,rfl⟩
  have hDl:D.length=D0.length+B.length:=by rw [hD,List.length_append]
  rw [show (x::D0++B)=x::([]++D) by rw [hD];rfl]
  repeat' (first|refine ZH ?_|refine ZI ?_|refine ZK ?_|refine ZG ?_|refine ZM ?_|refine ZJ ?_|refine ZN ?_|refine ZP (fun b=>?_)|refine ZO (fun b=>?_)|refine ZA ?_|refine ZB ?_|refine ZX ?_|refine ZY ?_|refine Zf ?_|refine Za ?_|refine Zb ?_|refine Zc (fun b=>?_)|refine Zd (fun b=>?_)|refine Ze ?_|refine ZZ ?_|(refine ZC (fun hc=>?_) (fun hc=>?_)<;>(try simp at hc)<;>(try omega))|(refine ZQ (fun hc=>?_) (fun hc=>?_)<;>(try simp at hc)<;>(try omega))|refine ZD 4 [] [(0,0),(1,0),(2,0),(3,0),(4,0),(5,0),(6,0),(7,0),(8,0),(9,0),(10,0),(11,0),(12,0),(13,0),(14,4),(15,0),(16,0)] [] ?_|refine ZD 6 [] [(0,0),(1,0),(2,0),(3,0),(4,0),(5,0),(6,0),(7,0),(8,0),(9,0),(10,0),(11,0),(12,0),(13,0),(14,0),(15,4),(16,0)] [17] ?_|(refine ZF (fun hc=>?_) (fun hc=>?_)<;>(try simp at hc)<;>(try omega)))
  refine YT (X:={t:List Ch×List Ch // t.1++t.2=P0∧∀s ∈ t.2,c x s<0}) (fun t=>[(0,.slice (some ⟨b,0,none⟩) n cap),(1,.int .i64 (A.length:Int)),(2,.int .i64 ((A.length+M.length:Nat):Int)),(3,.func (.func fv) #[] #[]),(8,.int .i64 ((A.length+i:Nat):Int)),(9,.int .i64 ((A.length+t.1.1.length:Nat):Int))]) (fun _=>[Fc]) (fun t=>[Ax 108 chf b (A++(t.1.1++x::(t.1.2++D))) q]) (fun t=>t.1.1.length)
   ⟨(P0,[]),by simp,by simp⟩ ⟨rfl,rfl,rfl,rfl,rfl,(by show look _ _=some (Value.int .i64 ((A.length+P0.length:Nat):Int));rw [hl0];rfl),trivial⟩ ?_
  rintro ⟨⟨P,S⟩,hPS,hS⟩
  dsimp only at hPS hS ⊢
  have hout:(∀p,P.getLast? = some p→¬c x p<0)→A++(P++x::(S++D))=A++(isR c (M.take (i+1))++(M.drop (i+1)++B)):=fun h2=>by
   rw [hR,hDe,inR_eq hPS hS h2,←hD];simp
  have wn:IntKind.i64.wrap (((A.length+i:Nat):Int)+1)=((A.length+(i+1):Nat):Int):=by rw [wrapi (by omega) (by omega)];omega
  rcases List.eq_nil_or_concat P with hP|⟨P',p,hP⟩
  ·subst hP
   have h1:=hout (by simp)
   rw [h1]
   simp only [List.length_nil,Nat.add_zero]
   repeat' (first|refine ZH ?_|refine ZI ?_|refine ZK ?_|refine ZG ?_|refine ZM ?_|refine ZJ ?_|refine ZN ?_|refine ZP (fun b=>?_)|refine ZO (fun b=>?_)|refine ZA ?_|refine ZB ?_|refine ZL ?_|refine ZX ?_|refine ZY ?_|refine Zf ?_|refine Za ?_|refine Zb ?_|refine Zc (fun b=>?_)|refine Zd (fun b=>?_)|refine Ze ?_|refine ZZ ?_|(refine ZC (fun hc=>?_) (fun hc=>?_)<;>(try simp at hc)<;>(try omega))|(refine ZQ (fun hc=>?_) (fun hc=>?_)<;>(try simp at hc)<;>(try omega))|refine ZD 4 [] [(0,0),(1,0),(2,0),(3,0),(4,0),(5,0),(6,0),(7,0),(8,0),(9,0),(10,0),(11,0),(12,0),(13,0),(14,4),(15,0),(16,0)] [] ?_|refine ZD 6 [] [(0,0),(1,0),(2,0),(3,0),(4,0),(5,0),(6,0),(7,0),(8,0),(9,0),(10,0),(11,0),(12,0),(13,0),(14,0),(15,4),(16,0)] [17] ?_|(refine ZF (fun hc=>?_) (fun hc=>?_)<;>(try simp at hc)<;>(try omega)))
   rw [wn]
   exact Zi ⟨i+1,by omega,by omega⟩ (by show M.length - (i+1)<M.length - i;omega) ⟨rfl,rfl,rfl,rfl,rfl,trivial⟩
  ·rw [List.concat_eq_append] at hP
   subst hP
   have hPl:=congrArg List.length hPS
   simp only [List.length_append,List.length_cons,List.length_nil] at hPl
   have hj:((A.length+(P'++[p]).length:Nat):Int)=(((A++P').length:Nat):Int)+1:=by simp;omega
   have hAP:(A++P').length=A.length+P'.length:=List.length_append
   have w1:IntKind.i64.wrap (((A++P').length:Int)+1 - 1)=((A++P').length:Int):=by
    rw [wrapi (by omega) (by omega)];omega
   have e1:A++(P'++[p]++x::(S++D))=(A++P')++p::x::(S++D):=by simp
   have hUp:U p:=hUP p (by rw [←hPS];simp)
   have e2:A.length+P'.length=(A++P').length:=hAP.symm
   have e3:A++(P'++x::(p::S++D))=(A++P')++x::p::(S++D):=by simp
   have hSD:(S++D).length=S.length+D.length:=List.length_append
   rw [hj,e1]
   rw [e1] at hout
   have b0:decide ((A.length:Int)<((A++P').length:Int)+1)=true:=by simp<;>omega
   have hlen:n=(A++P').length+1+1+(S++D).length:=by omega
   have hnx:∀t:{t:List Ch×List Ch // t.1++t.2=P0∧∀s ∈ t.2,c x s<0},True:=fun _=>trivial
   clear hnx
   generalize hAPe:A++P'=AP at *
   generalize hSDe:S++D=SD at *
   have g1:(AP++p::x::SD)[AP.length+1]? = some x:=by
    rw [List.getElem?_append_right (by omega)];simp
   have g0:(AP++p::x::SD)[AP.length]? = some p:=by
    rw [List.getElem?_append_right (by omega)];simp
   have g2:((AP++p::x::SD).set (AP.length+1) p)[AP.length]? = some p:=by
    rw [List.getElem?_set_ne (by omega)];exact g0
   have hl2:(AP++p::x::SD).length=n:=by simp;omega
   have hq1:AxOK ((AP++p::x::SD).length * 7) q:=by rw [hl2];exact hq
   have hq2:AxOK (((AP++p::x::SD).set (AP.length+1) p).length * 7) q:=by rw [List.length_set,hl2];exact hq
   have hj1:AP.length+1<n:=by omega
   have hj0:AP.length<n:=by omega
   have sp:=hcmp x p hUx hUp
   repeat' (first|refine ZH ?_|refine ZI ?_|refine ZK ?_|refine ZG ?_|refine ZM ?_|refine ZJ ?_|refine ZN ?_|refine ZP (fun b=>?_)|refine ZO (fun b=>?_)|refine ZA ?_|refine ZB ?_|refine ZL ?_|refine ZX ?_|refine ZY ?_|refine Zf ?_|refine Za ?_|refine Zb ?_|refine Zc (fun b=>?_)|refine Zd (fun b=>?_)|refine Ze ?_|refine ZZ ?_|rw [b0]|rw [w1]|refine XL (m:=n) (AP.length+1) hj1 ?_|refine XL (m:=n) AP.length hj0 ?_|refine Zl 7 (AP.length+1) 0 g1 ?_|refine Zl 7 AP.length 0 g0 ?_|refine Zp 7 (AP.length+1) 0 g1 ?_|refine Zp 7 AP.length 0 g0 ?_|refine Yp 7 (AP.length+1) 0 p g1 hq1 ?_|refine Zv sp (fun _ _=>?_)|refine l_ixS (m:=n) (AP.length+1) hj1 ?_|refine l_ixS (m:=n) AP.length hj0 ?_|refine Z3 7 (AP.length+1) 0 p g1 hq1 ?_|refine Z3 7 AP.length 0 x g2 hq2 ?_|refine r_up ?_|(refine ZC (fun hc=>?_) (fun hc=>?_)<;>(try simp at hc)<;>(try omega))|(refine ZQ (fun hc=>?_) (fun hc=>?_)<;>(try simp at hc)<;>(try omega))|refine ZD 4 [] [(0,0),(1,0),(2,0),(3,0),(4,0),(5,0),(6,0),(7,0),(8,0),(9,0),(10,0),(11,0),(12,0),(13,0),(14,4),(15,0),(16,0)] [] ?_|refine ZD 6 [Ax _ _ _ _ _] [(0,0),(1,0),(2,0),(3,0),(4,0),(5,0),(6,0),(7,0),(8,0),(10,0),(11,0),(12,0),(9,3),(13,3),(14,0),(15,4),(16,0)] [17] ?_|(refine ZF (fun hc=>?_) (fun hc=>?_)<;>(try simp at hc)<;>(try omega)))
   ·rw [swap_set,←e3]
    refine Zi ⟨(P',p::S),by simpa using hPS,by
     intro s hs
     rcases List.mem_cons.1 hs with rfl|hs
     ·exact hc
     ·exact hS s hs⟩ (by simp) ⟨rfl,rfl,rfl,rfl,rfl,(by show look _ _=some (Value.int .i64 ((A.length+P'.length:Nat):Int));rw [e2];rfl),trivial⟩
   ·rw [hout (by simpa using hc),wn]
    exact Zi ⟨i+1,by omega,by omega⟩ (by show M.length - (i+1)<M.length - i;omega) ⟨rfl,rfl,rfl,rfl,rfl,trivial⟩
 ·have e1:isR c (M.take i)++(M.drop i++B)=isR c M++B:=by
   rw [List.take_of_length_le (by omega),List.drop_eq_nil_of_le (by omega)];rfl
  rw [e1]
  repeat' (first|refine ZH ?_|refine ZI ?_|refine ZK ?_|refine ZG ?_|refine ZM ?_|refine ZJ ?_|refine ZN ?_|refine ZP (fun b=>?_)|refine ZO (fun b=>?_)|refine ZA ?_|refine ZB ?_|refine ZL ?_|refine ZX ?_|refine ZY ?_|refine Zf ?_|refine Za ?_|refine Zb ?_|refine Zc (fun b=>?_)|refine Zd (fun b=>?_)|refine Ze ?_|refine ZZ ?_|(refine ZC (fun hc=>?_) (fun hc=>?_)<;>(try simp at hc)<;>(try omega))|(refine ZQ (fun hc=>?_) (fun hc=>?_)<;>(try simp at hc)<;>(try omega))|refine ZD 4 [] [(0,0),(1,0),(2,0),(3,0),(4,0),(5,0),(6,0),(7,0),(8,0),(9,0),(10,0),(11,0),(12,0),(13,0),(14,4),(15,0),(16,0)] [] ?_|refine ZD 6 [] [(0,0),(1,0),(2,0),(3,0),(4,0),(5,0),(6,0),(7,0),(8,0),(9,0),(10,0),(11,0),(12,0),(13,0),(14,0),(15,4),(16,0)] [17] ?_|(refine ZF (fun hc=>?_) (fun hc=>?_)<;>(try simp at hc)<;>(try omega)))
  exact Y8 () rfl trivial
end
def drpS:Nat→List Fr→List Fr
 | m+1,.c (.seq _ b)::k=>drpS m (.c b::k)
 | _,k=>k
variable {C:Cx} {Q:Exit→Act→World→Prop} {E:List (Nat×Value)} {F:List Pf} {R:List HP} {k:List Fr}
section
theorem k_cutd {Y:Type} {c2:Code} {k2:List Fr} (m:Nat) (mE:Y→List (Nat×Value)) (mF:Y→List Pf) (mR:Y→List HP) (t2:∀y,Wk n C (.c c2::k2) Q (mE y) (mF y) (mR y)) (t:(∀y,Wk n C (.c c2::k2) Q (mE y) (mF y) (mR y))→Wk n C k Q E F R) (_h:drpS m k = .c c2::k2:=by rfl):Wk n C k Q E F R:=t t2
theorem WN (t:Wk n C k Q E F R):Wk n C (.c .skip::k) Q E F R:=fun a w ha hs=>Y7 1 (.c .skip::k) (t a w ha hs)
end
variable {E':List (Nat×Value)} {F' F1 Fs:List Pf} {R' R0:List HP} {k':List Fr} {ops l:List Oper} {d:Nat} {t ty0:TypeId} {x y:Operand} {pos:String} {aft:Array Edge} {gd:Option (Nat×Bool)}
section
variable {F0:List Pf}
theorem l_six8P {s:ByteArray} {z:Int} {kd:IntKind} {rs:TRow} (Pr:Nat→Nat→Bool) (j m:Nat) (hjm:j<m) (nx:∀c:UInt8,Pr j c.toNat=true→Wl n C ops.toArray k Q l ((d,.int .u8 c.toNat)::E) F R)
  (hw:wantL ops E ⟨some d,.index t x y,ty0,pos,aft,gd⟩=some true:=by rfl) (hn:Nat.blt d n=true:=by rfl) (hx:ev E x=some (.string s):=by rfl) (hy:ev E y=some (.int kd z):=by rfl)
  (hts:lookT tab t=some rs:=by rfl) (hrs:rs.k = .str:=by rfl) (hz:z=(j:Int):=by first|rfl|omega) (hm:(Nat.ble m s.data.toList.length && (List.range m).all (fun j=>Pr j (s.data.toList.getD j 0).toNat))=true:=by decide +kernel):Wl n C ops.toArray k Q (⟨some d,.index t x y,ty0,pos,aft,gd⟩::l) E F R:=by
 rw [Bool.and_eq_true] at hm
 have hlt:j<s.data.toList.length:=Nat.lt_of_lt_of_le hjm (Nat.le_of_ble_eq_true hm.1)
 have hp:Pr j (s.data.toList[j]).toNat=true:=by
  have:=List.all_eq_true.1 hm.2 j (List.mem_range.2 hjm)
  rwa [List.getD_eq_getElem?_getD,List.getElem?_eq_getElem hlt] at this
 exact l_q (fun a w ha=>by
  subst hz
  have h0:(0:Int)≤(j:Int):=by omega
  have h1:s[j]? = some s.data.toList[j]:=by
   have hlt':j<s.size:=by simpa using hlt
   rw [getElem?_pos s j hlt']
   rfl
  simp only [execOp,ha.ev (x:=x) (by rw [ZU];exact hx),ha.ev (x:=y) (by rw [ZU];exact hy),Instr.index,asIntOf,Yr hts hrs,Sem.run_bind,Result.andThen,Sem.run_pure,if_pos h0,Int.toNat_natCast,h1]) (nx s.data.toList[j] hp) (by intro c h;cases h) hw hn
end
def LenP (u c:Nat):Bool:=Nat.ble c 8 && (Nat.blt u (2 ^ c) && (Nat.ble (2 ^ c) (2 * u) || Nat.beq u 0))
theorem len64P_ok (u:Nat) (hu:u<256):Enters 182∧Spec prog 182 #[.int .u64 (u:Int)] [] [] ⟨{c:Nat // LenP u c=true},fun c=>.int .i64 (c.1:Int),fun _=>True,fun _=>[],fun _=>[]⟩:=by
 have wu:IntKind.u8.wrap (u:Int)=(u:Int):=by simp [IntKind.wrap,IntKind.bits,IntKind.signed];omega
 refine ZV [_] func182 ntmps182 fun G w hp=>?_
 repeat' (first|refine ZH ?_|refine ZI ?_|refine ZK ?_|refine ZG ?_|refine ZM ?_|refine ZJ ?_|refine ZN ?_|refine ZP (fun b=>?_)|refine ZO (fun b=>?_)|refine ZA ?_|refine ZB ?_|refine ZL ?_|rw [wu]|refine l_six8P LenP u 256 hu (fun c hc=>?_)|(refine ZC (fun hc=>?_) (fun hc=>?_)<;>(try simp at hc)<;>(try omega))|(refine ZF (fun hc=>?_) (fun hc=>?_)<;>(try simp at hc)<;>(try omega)))
 rename_i c hc
 have hc8:c.toNat≤8:=by
  unfold LenP at hc
  rw [Bool.and_eq_true] at hc
  exact Nat.le_of_ble_eq_true hc.1
 refine ZT ⟨c.toNat,hc⟩ ?_ trivial
 show Value.int .i64 _=Value.int .i64 _
 congr 1
 simp (disch:=omega) only [wrapi]
 omega
theorem bitsLenP_ok (u:Nat) (hu:u<256):Enters 131∧Spec prog 131 #[.int .u64 (u:Int)] [] [] ⟨{c:Nat // LenP u c=true},fun c=>.int .i64 (c.1:Int),fun _=>True,fun _=>[],fun _=>[]⟩:=by
 have s1:=len64P_ok u hu
 refine ZV [_] func131 ntmps131 fun G w hp=>?_
 repeat' (first|refine ZH ?_|refine ZI ?_|refine ZK ?_|refine ZG ?_|refine ZM ?_|refine ZJ ?_|refine ZN ?_|refine ZP (fun b=>?_)|refine ZO (fun b=>?_)|refine ZA ?_|refine ZB ?_|refine ZL ?_|refine ZE (s1) (fun _ _=>?_)|refine l_call0 (s1) (fun _ _=>?_)|(refine ZC (fun hc=>?_) (fun hc=>?_)<;>(try simp at hc)<;>(try omega))|(refine ZF (fun hc=>?_) (fun hc=>?_)<;>(try simp at hc)<;>(try omega)))
 rename_i z _
 exact ZT z rfl trivial
theorem shl8:∀c:Fin 9,IntKind.u64.wrap (1 * 2 ^ min ((c.val:Int).toNat) IntKind.u64.bits)=((2 ^ c.val:Nat):Int):=by decide +kernel
theorem pow2_ok (u:Nat) (hu:u<256):Enters 211∧Spec prog 211 #[.int .i64 (u:Int)] [] [] ⟨{c:Nat // LenP u c=true},fun c=>.int .u64 ((2 ^ c.1:Nat):Int),fun _=>True,fun _=>[],fun _=>[]⟩:=by
 have s1:=bitsLenP_ok u hu
 have w1:IntKind.u64.wrap (u:Int)=(u:Int):=VP (by omega)
 refine ZV [_] func211 ntmps211 fun G w hp=>?_
 repeat' (first|refine ZH ?_|refine ZI ?_|refine ZK ?_|refine ZG ?_|refine ZM ?_|refine ZJ ?_|refine ZN ?_|refine ZP (fun b=>?_)|refine ZO (fun b=>?_)|refine ZA ?_|refine ZB ?_|refine ZL ?_|refine ZE (s1) (fun _ _=>?_)|refine l_call0 (s1) (fun _ _=>?_)|rw [w1]|(refine ZC (fun hc=>?_) (fun hc=>?_)<;>(try simp at hc))|(refine ZF (fun hc=>?_) (fun hc=>?_)<;>(try simp at hc)))
 rename_i z _
 obtain ⟨z,hz⟩:=z
 have hz8:z≤8:=by
  unfold LenP at hz
  rw [Bool.and_eq_true] at hz
  exact Nat.le_of_ble_eq_true hz.1
 have e:IntKind.u64.wrap (1 * 2 ^ min ((z:Int).toNat) IntKind.u64.bits)=((2 ^ z:Nat):Int):=shl8 ⟨z,by omega⟩
 refine ZT ⟨z,hz⟩ ?_ trivial
 exact congrArg (Value.int .u64) e
theorem xnext_ok (rb:Nat) (z:Int):Enters 212∧Spec prog 212 #[.pointer (some ⟨rb,0,none⟩)] [] [Pt rb (.cells #[.int .u64 z] 330)] ⟨Int,fun z=>.int .u64 z,fun _=>True,fun _=>[],fun z=>[Pt rb (.cells #[.int .u64 z] 330)]⟩:=by
 refine ZV [_] func212 ntmps212 fun G w hp=>?_
 repeat' (first|refine ZH ?_|refine ZI ?_|refine ZK ?_|refine ZG ?_|refine ZM ?_|refine ZJ ?_|refine ZN ?_|refine ZP (fun b=>?_)|refine ZO (fun b=>?_)|refine ZA ?_|refine ZB ?_|refine ZL ?_|refine ZX ?_|refine ZY ?_|refine Zf ?_|refine Za ?_|refine Zb ?_|refine Zc (fun b=>?_)|refine Zd (fun b=>?_)|refine Ze ?_|refine ZZ ?_|refine r_up ?_|(refine ZC (fun hc=>?_) (fun hc=>?_)<;>(try simp at hc))|(refine ZQ (fun hc=>?_) (fun hc=>?_)<;>(try simp at hc))|refine ZD 1 [Pt _ _] [(0,0),(1,0),(3,0),(4,0),(2,3),(5,3),(6,0),(7,0),(8,0)] [9] ?_|refine ZD 2 [Pt _ _] [(0,0),(1,0),(3,0),(4,0),(2,3),(5,3),(6,0),(7,0),(8,0)] [9] ?_|refine ZD 3 [Pt _ _] [(0,0),(1,0),(3,0),(4,0),(2,3),(5,3),(6,0),(7,0),(8,0)] [9] ?_|(refine ZF (fun hc=>?_) (fun hc=>?_)<;>(try simp at hc)))
 exact ZT _ rfl trivial
theorem and_low (z y:Int) (c:Nat) (hc:c≤8) (hy:y=((2 ^ c:Nat):Int)):∃o:Nat,o<2 ^ c∧IntKind.i64.wrap (IntKind.u64.wrap (((BitVec.ofInt IntKind.u64.bits z &&& BitVec.ofInt IntKind.u64.bits (IntKind.u64.wrap (y - 1))).toNat:Nat):Int))=(o:Int):=by
 have hp:(2:Nat) ^ c≤2 ^ 8:=Nat.pow_le_pow_right (by omega) hc
 have h1:0<(2:Nat) ^ c:=Nat.pow_pos (by omega)
 have w1:IntKind.u64.wrap (y - 1)=((2 ^ c - 1:Nat):Int):=by
  rw [hy,show ((2 ^ c:Nat):Int) - 1=((2 ^ c - 1:Nat):Int) by omega]
  exact VP (by omega)
 rw [w1]
 have h2:(BitVec.ofInt IntKind.u64.bits z &&& BitVec.ofInt IntKind.u64.bits ((2 ^ c - 1:Nat):Int)).toNat≤2 ^ c - 1:=by
  rw [BitVec.toNat_and]
  refine Nat.le_trans Nat.and_le_right ?_
  rw [BitVec.ofInt_natCast,BitVec.toNat_ofNat]
  exact Nat.mod_le _ _
 generalize (BitVec.ofInt IntKind.u64.bits z &&& BitVec.ofInt IntKind.u64.bits ((2 ^ c - 1:Nat):Int)).toNat=o at h2
 exact ⟨o,by omega,by rw [VP (by omega),wrapi (by omega) (by omega)]⟩
section
variable {F0:List Pf} {Rs N N' A:List HP} {L L':List (Nat×Nat)} {Tl:List Nat} {i:Nat}
theorem Zk {T sz m cap:Nat} {z:Int} {rs tr:TRow} (j:Nat) (hlt:j<m) (nx:Wr n C ops k Q Tl Fs R L ((d,.pointer (some ⟨b,j * sz,none⟩))::E) F N)
  (ho:nth ops i=some ⟨some d,.indexAddr t x y,ty0,pos,aft,gd⟩:=by rfl) (hw:wantL ops E ⟨some d,.indexAddr t x y,ty0,pos,aft,gd⟩=some true:=by rfl) (hx:ev E x=some (.slice (some ⟨b,0,none⟩) m cap):=by rfl) (hy:ev E y=some (.int .i64 z):=by rfl)
  (hts:lookT tab t=some rs:=by rfl) (hrs:rs.k = .slice T:=by rfl) (hT:lookT tab T=some tr:=by rfl) (hsz:tr.size=sz:=by rfl) (hz:z=(j:Int):=by first|rfl|omega|(simp (disch:=omega) only [wrapi];first|done|omega|fail)):Wr n C ops k Q Tl Fs R ((i,0)::L) E F N:=
 XL j hlt nx ho hw hx hy hts hrs hT hsz hz
theorem k_ax {α:Type} {T b:Nat} {f:α→List Value} {es:List α} {q:List Value×(Nat×Nat)} (es':List α) (h:es=es') (t:Wk n C k Q E F (Ax T f b es' q::R0)) (hs:Sel (Ax T f b es q) R R0:=by (repeat (first|exact Sel.here|apply Sel.there));first|done|fail):Wk n C k Q E F R:=by
 subst h
 exact fun a w ha hsat=>t a w ha (hsat.sel hs)
end
section
variable (bk cap:Nat) (q:List Value×(Nat×Nat)) (fv:FuncId) (Fc:Pf) (c:Ch→Ch→Int) (W:Wk0 c) (U:Ch→Prop) (hcmp:∀x y,U x→U y→Enters fv∧Spec prog fv #[x.v,y.v] [Fc] [] (RetV (.int .i64 (c x y))))
instance inhC:Inhabited Ch:=⟨⟨⟨0,⟨#[]⟩,0,0,⟨#[]⟩⟩,⟨#[]⟩,false⟩⟩
include hcmp in
theorem ord2C_ok (l:List Ch) (n:Nat) (hn:n=l.length) (hU:∀x ∈ l,U x) (i j:Nat) (hi:i<n) (hj:j<n) (sb:Nat) (z:Int) :
  Enters 223∧Spec prog 223 #[.slice (some ⟨bk,0,none⟩) n cap,.int .i64 (i:Int),.int .i64 (j:Int),.pointer (some ⟨sb,0,none⟩),.func (.func fv) #[] #[]] [Fc] [Ax 108 chf bk l q,Pt sb (.cells #[.int .i64 z] 3)]
   ⟨{t:Nat×Nat×Int // (t.1=i∧t.2.1=j)∨(t.1=j∧t.2.1=i)},fun t=>.tuple #[.int .i64 (t.1.1:Int),.int .i64 (t.1.2.1:Int)],fun _=>True,fun _=>[],fun t=>[Ax 108 chf bk l q,Pt sb (.cells #[.int .i64 t.1.2.2] 3)]⟩:=by
 have ki:i<l.length:=by omega
 have kj:j<l.length:=by omega
 have sp:=hcmp (gt l j) (gt l i) (hU _ (Z9 kj)) (hU _ (Z9 ki))
 refine ZV [_,_,_,_,_] func223 ntmps223 fun G w hp=>?_
 repeat' (first|refine ZH ?_|refine ZI ?_|refine ZK ?_|refine ZG ?_|refine ZM ?_|refine ZJ ?_|refine ZN ?_|refine ZP (fun b=>?_)|refine ZO (fun b=>?_)|refine ZA ?_|refine ZB ?_|refine ZL ?_|refine ZX ?_|refine ZY ?_|refine Zf ?_|refine Za ?_|refine Zb ?_|refine Zc (fun b=>?_)|refine Zd (fun b=>?_)|refine Ze ?_|refine ZZ ?_|refine Zk (m:=n) (i) hi ?_|refine l_ixW (m:=n) (i) hi ?_|refine Zk (m:=n) (j) hj ?_|refine l_ixW (m:=n) (j) hj ?_|refine Zl 7 (i) 0 (ZR ki) ?_|refine Zn 7 (i) 0 (ZR ki) ?_|refine Zl 7 (j) 0 (ZR kj) ?_|refine Zn 7 (j) 0 (ZR kj) ?_|refine Zv sp (fun _ _=>?_)|(refine ZC (fun hc=>?_) (fun hc=>?_)<;>(try simp at hc))|(refine ZQ (fun hc=>?_) (fun hc=>?_)<;>(try simp at hc))|refine ZD 1 [] [(0,0),(1,0),(2,0),(3,0),(4,0),(5,0),(6,0),(7,0),(8,0),(9,4),(10,0)] [] ?_|(refine ZF (fun hc=>?_) (fun hc=>?_)<;>(try simp at hc)))
 ·exact ZT ⟨(j,i,_),.inr ⟨rfl,rfl⟩⟩ rfl trivial
 ·exact ZT ⟨(i,j,_),.inl ⟨rfl,rfl⟩⟩ rfl trivial
include hcmp in
theorem medC_ok (l:List Ch) (n:Nat) (hn:n=l.length) (hU:∀x ∈ l,U x) (i j k:Nat) (hi:i<n) (hj:j<n) (hk:k<n) (sb:Nat) (z:Int) :
  Enters 214∧Spec prog 214 #[.slice (some ⟨bk,0,none⟩) n cap,.int .i64 (i:Int),.int .i64 (j:Int),.int .i64 (k:Int),.pointer (some ⟨sb,0,none⟩),.func (.func fv) #[] #[]] [Fc] [Ax 108 chf bk l q,Pt sb (.cells #[.int .i64 z] 3)]
   ⟨{t:Nat×Int // t.1=i∨t.1=j∨t.1=k},fun t=>.int .i64 (t.1.1:Int),fun _=>True,fun _=>[],fun t=>[Ax 108 chf bk l q,Pt sb (.cells #[.int .i64 t.1.2] 3)]⟩:=by
 have s1:=ord2C_ok bk cap q fv Fc c U hcmp l n hn hU
 refine ZV [_,_,_,_,_,_] func214 ntmps214 fun G w hp=>?_
 repeat' (first|refine ZH ?_|refine ZI ?_|refine ZK ?_|refine ZG ?_|refine ZM ?_|refine ZJ ?_|refine ZN ?_|refine ZP (fun b=>?_)|refine ZO (fun b=>?_)|refine ZA ?_|refine ZB ?_|refine ZL ?_|refine ZE (s1 i j hi hj _ _) (fun _ _=>?_)|refine l_call0 (s1 i j hi hj _ _) (fun _ _=>?_)|(refine ZC (fun hc=>?_) (fun hc=>?_)<;>(try simp at hc))|(refine ZF (fun hc=>?_) (fun hc=>?_)<;>(try simp at hc)))
 rename_i t1 _
 obtain ⟨⟨i1,j1,z1⟩,h1⟩:=t1
 dsimp only at h1 ⊢
 have hi1:i1<n:=by omega
 have hj1:j1<n:=by omega
 repeat' (first|refine ZH ?_|refine ZI ?_|refine ZK ?_|refine ZG ?_|refine ZM ?_|refine ZJ ?_|refine ZN ?_|refine ZP (fun b=>?_)|refine ZO (fun b=>?_)|refine ZA ?_|refine ZB ?_|refine ZL ?_|refine ZE (s1 j1 k hj1 hk _ _) (fun _ _=>?_)|refine l_call0 (s1 j1 k hj1 hk _ _) (fun _ _=>?_)|(refine ZC (fun hc=>?_) (fun hc=>?_)<;>(try simp at hc))|(refine ZF (fun hc=>?_) (fun hc=>?_)<;>(try simp at hc)))
 rename_i t2 _
 obtain ⟨⟨j2,k2,z2⟩,h2⟩:=t2
 dsimp only at h2 ⊢
 have hj2:j2<n:=by omega
 repeat' (first|refine ZH ?_|refine ZI ?_|refine ZK ?_|refine ZG ?_|refine ZM ?_|refine ZJ ?_|refine ZN ?_|refine ZP (fun b=>?_)|refine ZO (fun b=>?_)|refine ZA ?_|refine ZB ?_|refine ZL ?_|refine ZE (s1 i1 j2 hi1 hj2 _ _) (fun _ _=>?_)|refine l_call0 (s1 i1 j2 hi1 hj2 _ _) (fun _ _=>?_)|(refine ZC (fun hc=>?_) (fun hc=>?_)<;>(try simp at hc))|(refine ZF (fun hc=>?_) (fun hc=>?_)<;>(try simp at hc)))
 rename_i t3 _
 obtain ⟨⟨i3,j3,z3⟩,h3⟩:=t3
 dsimp only at h3 ⊢
 repeat' (first|refine ZH ?_|refine ZI ?_|refine ZK ?_|refine ZG ?_|refine ZM ?_|refine ZJ ?_|refine ZN ?_|refine ZP (fun b=>?_)|refine ZO (fun b=>?_)|refine ZA ?_|refine ZB ?_|refine ZL ?_|(refine ZC (fun hc=>?_) (fun hc=>?_)<;>(try simp at hc))|(refine ZF (fun hc=>?_) (fun hc=>?_)<;>(try simp at hc)))
 exact ZT ⟨(j3,z3),by show j3=i∨j3=j∨j3=k;omega⟩ rfl trivial
include hcmp in
theorem medAC_ok (l:List Ch) (n:Nat) (hn:n=l.length) (hn2:n≤1000000) (hU:∀x ∈ l,U x) (j:Nat) (hj0:0<j) (hj:j+1<n) (sb:Nat) (z:Int) :
  Enters 213∧Spec prog 213 #[.slice (some ⟨bk,0,none⟩) n cap,.int .i64 (j:Int),.pointer (some ⟨sb,0,none⟩),.func (.func fv) #[] #[]] [Fc] [Ax 108 chf bk l q,Pt sb (.cells #[.int .i64 z] 3)]
   ⟨{t:Nat×Int // t.1≤j+1∧j≤t.1+1},fun t=>.int .i64 (t.1.1:Int),fun _=>True,fun _=>[],fun t=>[Ax 108 chf bk l q,Pt sb (.cells #[.int .i64 t.1.2] 3)]⟩:=by
 have s1:=medC_ok bk cap q fv Fc c U hcmp l n hn hU (j - 1) j (j+1) (by omega) (by omega) hj sb z
 have w1:IntKind.i64.wrap ((j:Int) - 1)=((j - 1:Nat):Int):=by rw [wrapi (by omega) (by omega)];omega
 have w2:IntKind.i64.wrap ((j:Int)+1)=((j+1:Nat):Int):=by rw [wrapi (by omega) (by omega)];omega
 refine ZV [_,_,_,_] func213 ntmps213 fun G w hp=>?_
 repeat' (first|refine ZH ?_|refine ZI ?_|refine ZK ?_|refine ZG ?_|refine ZM ?_|refine ZJ ?_|refine ZN ?_|refine ZP (fun b=>?_)|refine ZO (fun b=>?_)|refine ZA ?_|refine ZB ?_|refine ZL ?_|refine ZE (s1) (fun _ _=>?_)|refine l_call0 (s1) (fun _ _=>?_)|rw [w1]|rw [w2]|(refine ZC (fun hc=>?_) (fun hc=>?_)<;>(try simp at hc))|(refine ZF (fun hc=>?_) (fun hc=>?_)<;>(try simp at hc)))
 rename_i t _
 obtain ⟨⟨j1,z1⟩,h1⟩:=t
 exact ZT ⟨(j1,z1),by omega⟩ rfl trivial
include hcmp in
theorem chpC_ok (l:List Ch) (n:Nat) (hn:n=l.length) (hn2:n≤1000000) (hU:∀x ∈ l,U x) (a bb:Nat) (hab:a+12<bb) (hb:bb≤n) :
  Enters 176∧Spec prog 176 #[.slice (some ⟨bk,0,none⟩) n cap,.int .i64 (a:Int),.int .i64 (bb:Int),.func (.func fv) #[] #[]] [Fc] [Ax 108 chf bk l q]
   ⟨{t:Nat×Int // a≤t.1∧t.1<bb∧(t.2=0∨t.2=1∨t.2=2)},fun t=>.tuple #[.int .i64 (t.1.1:Int),.int .i64 t.1.2],fun _=>True,fun _=>[],fun _=>[Ax 108 chf bk l q]⟩:=by
 have s1:=medC_ok bk cap q fv Fc c U hcmp l n hn hU
 have s2:=medAC_ok bk cap q fv Fc c U hcmp l n hn hn2 hU
 obtain ⟨N,hN⟩:∃N,N=bb - a:=⟨_,rfl⟩
 obtain ⟨p,hp⟩:∃p,p=N / 4:=⟨_,rfl⟩
 have w0:IntKind.i64.wrap ((bb:Int) - (a:Int))=(N:Int):=by rw [wrapi (by omega) (by omega)];omega
 have w1:IntKind.i64.wrap ((N:Int).tdiv 4)=(p:Int):=by
  have:(N:Int).tdiv 4=(p:Int):=by rw [hp];exact (Int.ofNat_tdiv _ _).symm
  rw [this,wrapi (by omega) (by omega)]
 have v1:IntKind.i64.wrap ((a:Int)+IntKind.i64.wrap ((p:Int) * 1))=((a+p:Nat):Int):=by simp (disch:=omega) only [wrapi];omega
 have v2:IntKind.i64.wrap ((a:Int)+IntKind.i64.wrap ((p:Int) * 2))=((a+2 * p:Nat):Int):=by simp (disch:=omega) only [wrapi];omega
 have v3:IntKind.i64.wrap ((a:Int)+IntKind.i64.wrap ((p:Int) * 3))=((a+3 * p:Nat):Int):=by simp (disch:=omega) only [wrapi];omega
 have r1:=s1 (a+p) (a+2 * p) (a+3 * p) (by omega) (by omega) (by omega)
 have r2:=s2 (a+p) (by omega) (by omega)
 have r3:=s2 (a+2 * p) (by omega) (by omega)
 have r4:=s2 (a+3 * p) (by omega) (by omega)
 refine ZV [_,_,_,_] func176 ntmps176 fun G w hp=>?_
 refine k_cutd (Y:={t:Nat×Int×Nat // a≤t.1∧t.1<bb}) 7 (fun y=>[(0,.slice (some ⟨bk,0,none⟩) n cap),(3,.func (.func fv) #[] #[]),(13,.int .i64 (y.1.1:Int)),(11,.pointer (some ⟨y.1.2.2,0,none⟩))]) (fun _=>[Fc]) (fun y=>[Ax 108 chf bk l q,Pt y.1.2.2 (.cells #[.int .i64 y.1.2.1] 3)]) ?_ ?_
 ·rintro ⟨⟨j,z,sb⟩,h1,h2⟩
  dsimp only at h1 h2 ⊢
  repeat' (first|refine ZH ?_|refine ZI ?_|refine ZK ?_|refine ZG ?_|refine ZM ?_|refine ZJ ?_|refine ZN ?_|refine ZP (fun b=>?_)|refine ZO (fun b=>?_)|refine ZA ?_|refine ZB ?_|refine ZL ?_|(refine ZC (fun hc=>?_) (fun hc=>?_)<;>(try simp at hc))|(refine ZF (fun hc=>?_) (fun hc=>?_)<;>(try simp at hc)))
  ·exact ZT ⟨(j,1),h1,h2,.inr (.inl rfl)⟩ rfl trivial
  ·exact ZT ⟨(j,2),h1,h2,.inr (.inr rfl)⟩ rfl trivial
  ·exact ZT ⟨(j,0),h1,h2,.inl rfl⟩ rfl trivial
 ·intro hx
  repeat' (first|refine WN ?_|refine k_to hx ⟨(_,_,_),?_⟩ ⟨rfl,rfl,rfl,rfl,trivial⟩|refine ZH ?_|refine ZI ?_|refine ZK ?_|refine ZG ?_|refine ZM ?_|refine ZJ ?_|refine ZN ?_|refine ZP (fun b=>?_)|refine ZO (fun b=>?_)|refine ZA ?_|refine ZB ?_|refine ZL ?_|refine ZE (r1 _ _) (fun _ _=>?_)|refine l_call0 (r1 _ _) (fun _ _=>?_)|refine ZE (r2 _ _) (fun _ _=>?_)|refine l_call0 (r2 _ _) (fun _ _=>?_)|refine ZE (r3 _ _) (fun _ _=>?_)|refine l_call0 (r3 _ _) (fun _ _=>?_)|refine ZE (r4 _ _) (fun _ _=>?_)|refine l_call0 (r4 _ _) (fun _ _=>?_)|rw [w0]|rw [w1]|rw [v1]|rw [v2]|rw [v3]|(refine ZC (fun hc=>?_) (fun hc=>?_)<;>(try simp at hc)<;>(try omega))|(refine ZF (fun hc=>?_) (fun hc=>?_)<;>(try simp at hc)<;>(try omega)))
  ·rename_i t1 _ t2 _ t3 _
   obtain ⟨⟨i1,z1⟩,g1⟩:=t1
   obtain ⟨⟨i2,z2⟩,g2⟩:=t2
   obtain ⟨⟨i3,z3⟩,g3⟩:=t3
   dsimp only at g1 g2 g3 ⊢
   have r5:=s1 i1 i2 i3 (by omega) (by omega) (by omega)
   repeat' (first|refine WN ?_|refine k_to hx ⟨(_,_,_),?_⟩ ⟨rfl,rfl,rfl,rfl,trivial⟩|refine ZH ?_|refine ZI ?_|refine ZK ?_|refine ZG ?_|refine ZM ?_|refine ZJ ?_|refine ZN ?_|refine ZP (fun b=>?_)|refine ZO (fun b=>?_)|refine ZA ?_|refine ZB ?_|refine ZL ?_|refine ZE (r5 _ _) (fun _ _=>?_)|refine l_call0 (r5 _ _) (fun _ _=>?_)|(refine ZC (fun hc=>?_) (fun hc=>?_)<;>(try simp at hc))|(refine ZF (fun hc=>?_) (fun hc=>?_)<;>(try simp at hc)))
   rename_i t4 _
   obtain ⟨⟨i4,z4⟩,g4⟩:=t4
   dsimp only at g4 ⊢
   omega
  ·rename_i t4 _
   obtain ⟨⟨i4,z4⟩,g4⟩:=t4
   dsimp only at g4 ⊢
   omega
end
section
variable (bk cap:Nat) (q:List Value×(Nat×Nat)) (fv:FuncId) (Fc:Pf) (c:Ch→Ch→Int) (W:Wk0 c) (U:Ch→Prop) (hcmp:∀x y,U x→U y→Enters fv∧Spec prog fv #[x.v,y.v] [Fc] [] (RetV (.int .i64 (c x y))))
theorem revC_ok (l:List Ch) (n:Nat) (hn:n=l.length) (hn2:n≤1000000) (hq:AxOK (n * 7) q) (a b:Nat) (hab:a<b) (hb:b≤n) :
  Enters 177∧Spec prog 177 #[.slice (some ⟨bk,0,none⟩) n cap,.int .i64 (a:Int),.int .i64 (b:Int),.func (.func fv) #[] #[]] [Fc] [Ax 108 chf bk l q]
   ⟨{l':List Ch // Win a b l l'},fun _=>.tuple #[],fun _=>True,fun _=>[],fun l'=>[Ax 108 chf bk l'.1 q]⟩:=by
 have w0:IntKind.i64.wrap ((b:Int) - 1)=((b - 1:Nat):Int):=by rw [wrapi (by omega) (by omega)];omega
 refine ZV [_,_,_,_] func177 ntmps177 fun G w hp=>?_
 repeat' (first|refine ZH ?_|refine ZI ?_|refine ZK ?_|refine ZG ?_|refine ZM ?_|refine ZJ ?_|refine ZN ?_|refine ZP (fun b=>?_)|refine ZO (fun b=>?_)|refine ZA ?_|refine ZB ?_|refine ZX ?_|refine ZY ?_|refine Zf ?_|refine Za ?_|refine Zb ?_|refine Zc (fun b=>?_)|refine Zd (fun b=>?_)|refine Ze ?_|refine ZZ ?_|rw [w0]|(refine ZC (fun hc=>?_) (fun hc=>?_)<;>(try simp at hc))|(refine ZQ (fun hc=>?_) (fun hc=>?_)<;>(try simp at hc))|refine ZD 3 [] [(0,0),(1,0),(2,0),(3,0),(4,0),(5,0),(6,0),(7,0),(8,0),(9,0),(10,0),(11,0),(12,0),(13,4),(14,0)] [15] ?_|(refine ZF (fun hc=>?_) (fun hc=>?_)<;>(try simp at hc)))
 refine YT (X:={t:Nat×Nat×List Ch // a≤t.1∧t.2.1<b∧t.1≤t.2.1+1∧Win a b l t.2.2}) (fun t=>[(0,.slice (some ⟨bk,0,none⟩) n cap),(8,.int .i64 (t.1.1:Int)),(9,.int .i64 (t.1.2.1:Int))]) (fun _=>[Fc]) (fun t=>[Ax 108 chf bk t.1.2.2 q]) (fun t=>t.1.2.1+1 - t.1.1)
  ⟨(a,b - 1,l),by omega,by show b - 1<b;omega,by show a≤b - 1+1;omega,Win.refl⟩ ⟨rfl,rfl,rfl,trivial⟩ ?_
 rintro ⟨⟨i,j,m⟩,h1,h2,h3,h4⟩
 dsimp only at h1 h2 h3 h4 ⊢
 have hl:=h4.len
 by_cases hij:i<j
 ·have hi:i<n:=by omega
  have hj:j<n:=by omega
  have ki:i<m.length:=by omega
  have kj:j<m.length:=by omega
  have kj2:j<(m.set i (gt m j)).length:=by rw [List.length_set];exact kj
  have hq1:AxOK (m.length * 7) q:=by rw [hl,←hn];exact hq
  have hq2:AxOK ((m.set i (gt m j)).length * 7) q:=by rw [List.length_set];exact hq1
  have w1:IntKind.i64.wrap ((i:Int)+1)=((i+1:Nat):Int):=by rw [wrapi (by omega) (by omega)];omega
  have w2:IntKind.i64.wrap ((j:Int) - 1)=((j - 1:Nat):Int):=by rw [wrapi (by omega) (by omega)];omega
  repeat' (first|refine ZH ?_|refine ZI ?_|refine ZK ?_|refine ZG ?_|refine ZM ?_|refine ZJ ?_|refine ZN ?_|refine ZP (fun b=>?_)|refine ZO (fun b=>?_)|refine ZA ?_|refine ZB ?_|refine ZL ?_|refine ZX ?_|refine ZY ?_|refine Zf ?_|refine Za ?_|refine Zb ?_|refine Zc (fun b=>?_)|refine Zd (fun b=>?_)|refine Ze ?_|refine ZZ ?_|refine Zk (m:=n) (i) hi ?_|refine l_ixW (m:=n) (i) hi ?_|refine Zk (m:=n) (j) hj ?_|refine l_ixW (m:=n) (j) hj ?_|refine Zp 7 (i) 0 (ZR ki) ?_|refine Zp 7 (j) 0 (ZR kj) ?_|refine Yp 7 (i) 0 (gt m (j)) (ZR ki) hq1 ?_|refine Z3 7 (i) 0 (gt m (j)) (ZR ki) hq1 ?_|refine Z3 7 (j) 0 (gt m (i)) (ZR kj2) hq2 ?_|rw [w1]|rw [w2]|refine r_up ?_|(refine ZC (fun hc=>?_) (fun hc=>?_)<;>(try simp at hc)<;>(try omega))|(refine ZQ (fun hc=>?_) (fun hc=>?_)<;>(try simp at hc)<;>(try omega))|refine ZD 3 [Ax _ _ _ _ _] [(0,0),(1,0),(2,0),(3,0),(4,0),(5,0),(6,0),(8,0),(9,0),(10,0),(7,3),(11,3),(12,0),(13,4),(14,0)] [15] ?_|(refine ZF (fun hc=>?_) (fun hc=>?_)<;>(try simp at hc)<;>(try omega)))
  exact Zi ⟨(i+1,j - 1,sw m i j),by show a≤i+1;omega,by show j - 1<b;omega,by show i+1≤j - 1+1;omega,h4.trans (Win.sw h1 (by omega) (by omega) h2 (by omega))⟩ (by show j - 1+1 - (i+1)<j+1 - i;omega) ⟨rfl,rfl,rfl,trivial⟩
 ·repeat' (first|refine ZH ?_|refine ZI ?_|refine ZK ?_|refine ZG ?_|refine ZM ?_|refine ZJ ?_|refine ZN ?_|refine ZP (fun b=>?_)|refine ZO (fun b=>?_)|refine ZA ?_|refine ZB ?_|refine ZL ?_|(refine ZC (fun hc=>?_) (fun hc=>?_)<;>(try simp at hc)<;>(try omega))|(refine ZF (fun hc=>?_) (fun hc=>?_)<;>(try simp at hc)<;>(try omega)))
  exact Y8 ⟨m,h4⟩ rfl trivial
set_option maxHeartbeats 4000000 in
theorem brkC_ok (l:List Ch) (n:Nat) (hn:n=l.length) (hn2:n<256) (hq:AxOK (n * 7) q) (a bb:Nat) (hab:a+12<bb) (hb:bb≤n) :
  Enters 175∧Spec prog 175 #[.slice (some ⟨bk,0,none⟩) n cap,.int .i64 (a:Int),.int .i64 (bb:Int),.func (.func fv) #[] #[]] [Fc] [Ax 108 chf bk l q]
   ⟨{l':List Ch // Win a bb l l'},fun _=>.tuple #[],fun _=>True,fun _=>[],fun l'=>[Ax 108 chf bk l'.1 q]⟩:=by
 obtain ⟨N,hN⟩:∃N,N=bb - a:=⟨_,rfl⟩
 obtain ⟨p,hp⟩:∃p,p=N / 4:=⟨_,rfl⟩
 have w0:IntKind.i64.wrap ((bb:Int) - (a:Int))=(N:Int):=by rw [wrapi (by omega) (by omega)];omega
 have w1:IntKind.i64.wrap ((N:Int).tdiv 4)=(p:Int):=by
  have:(N:Int).tdiv 4=(p:Int):=by rw [hp];exact (Int.ofNat_tdiv _ _).symm
  rw [this,wrapi (by omega) (by omega)]
 have w2:IntKind.i64.wrap (IntKind.i64.wrap ((a:Int)+IntKind.i64.wrap ((p:Int) * 2)) - 1)=((a+2 * p - 1:Nat):Int):=by simp (disch:=omega) only [wrapi];omega
 have w3:IntKind.i64.wrap (IntKind.i64.wrap ((a:Int)+IntKind.i64.wrap ((p:Int) * 2))+1)=((a+2 * p+1:Nat):Int):=by simp (disch:=omega) only [wrapi];omega
 have w4:IntKind.u64.wrap (N:Int)=(N:Int):=VP (by omega)
 have s1:=pow2_ok N (by omega)
 have s2:=xnext_ok
 refine ZV [_,_,_,_] func175 ntmps175 fun G w hp=>?_
 repeat' (first|refine ZH ?_|refine ZI ?_|refine ZK ?_|refine ZG ?_|refine ZM ?_|refine ZJ ?_|refine ZN ?_|refine ZP (fun b=>?_)|refine ZO (fun b=>?_)|refine ZA ?_|refine ZB ?_|refine ZE (s1) (fun _ _=>?_)|refine l_call0 (s1) (fun _ _=>?_)|rw [w0]|rw [w1]|rw [w2]|rw [w4]|(refine ZC (fun hc=>?_) (fun hc=>?_)<;>(try simp at hc)<;>(try omega))|(refine ZF (fun hc=>?_) (fun hc=>?_)<;>(try simp at hc)<;>(try omega)))
 rename_i cc _
 obtain ⟨cc,hcc⟩:=cc
 dsimp only
 unfold LenP at hcc
 rw [Bool.and_eq_true,Bool.and_eq_true,Bool.or_eq_true] at hcc
 have hc8:cc≤8:=Nat.le_of_ble_eq_true hcc.1
 have hcN:N<2 ^ cc:=by
  have:=hcc.2.1
  unfold Nat.blt at this
  exact Nat.le_of_ble_eq_true this
 have hcN2:2 ^ cc≤2 * N:=by
  rcases hcc.2.2 with h|h
  ·exact Nat.le_of_ble_eq_true h
  ·have:=Nat.eq_of_beq_eq_true h;omega
 clear hcc
 generalize hM:2 ^ cc=M at hcN hcN2
 refine YT (X:={t:Nat×Int×List Ch // a+2 * p - 1≤t.1∧t.1≤a+2 * p+2∧Win a bb l t.2.2}) (fun t=>[(0,.slice (some ⟨bk,0,none⟩) n cap),(1,.int .i64 (a:Int)),(8,.int .i64 (N:Int)),(9,.pointer (some ⟨b,0,none⟩)),(10,.int .u64 (M:Int)),(11,.int .i64 (t.1.1:Int))]) (fun _=>[Fc]) (fun t=>[Ax 108 chf bk t.1.2.2 q,Pt b (.cells #[.int .u64 t.1.2.1] 330)]) (fun t=>a+2 * p+2 - t.1.1)
  ⟨(a+2 * p - 1,_,l),Nat.le_refl _,by show a+2 * p - 1≤_;omega,Win.refl⟩ ⟨rfl,rfl,rfl,rfl,rfl,rfl,trivial⟩ ?_
 rintro ⟨⟨i,z,m⟩,h1,h2,h3⟩
 dsimp only at h1 h2 h3 ⊢
 have hl:=h3.len
 by_cases hi0:i≤a+2 * p+1
 ·have w5:IntKind.i64.wrap ((i:Int)+1)=((i+1:Nat):Int):=by simp (disch:=omega) only [wrapi];omega
  have b0:decide ((i:Int)≤((a+2 * p+1:Nat):Int))=true:=decide_eq_true (by omega)
  repeat' (first|refine ZH ?_|refine ZI ?_|refine ZK ?_|refine ZG ?_|refine ZM ?_|refine ZJ ?_|refine ZN ?_|refine ZP (fun b=>?_)|refine ZO (fun b=>?_)|refine ZA ?_|refine ZB ?_|refine ZL ?_|refine ZE (s2 _ _) (fun _ _=>?_)|refine l_call0 (s2 _ _) (fun _ _=>?_)|rw [w1]|rw [w3]|rw [b0]|(refine ZC (fun hc=>?_) (fun hc=>?_)<;>(try simp at hc)))
  rename_i z2 _
  obtain ⟨o,ho,he⟩:=and_low z2 (M:Int) cc hc8 (by rw [hM])
  rw [hM] at ho
  dsimp only
  rw [he]
  have hi:i<n:=by omega
  have ki:i<m.length:=by omega
  have hq1:AxOK (m.length * 7) q:=by rw [hl,←hn];exact hq
  have hq2:∀y,AxOK ((m.set i y).length * 7) q:=fun y=>by rw [List.length_set];exact hq1
  by_cases hoN:N≤o
  ·have w6:IntKind.i64.wrap ((o:Int) - (N:Int))=((o - N:Nat):Int):=by simp (disch:=omega) only [wrapi];omega
   have hj:a+(o - N)<n:=by omega
   have kj:a+(o - N)<m.length:=by omega
   have kj2:a+(o - N)<(m.set i (gt m (a+(o - N)))).length:=by rw [List.length_set];exact kj
   repeat' (first|refine ZH ?_|refine ZI ?_|refine ZK ?_|refine ZG ?_|refine ZM ?_|refine ZJ ?_|refine ZN ?_|refine ZP (fun b=>?_)|refine ZO (fun b=>?_)|refine ZA ?_|refine ZB ?_|refine ZL ?_|refine ZX ?_|refine ZY ?_|refine Zf ?_|refine Za ?_|refine Zb ?_|refine Zc (fun b=>?_)|refine Zd (fun b=>?_)|refine Ze ?_|refine ZZ ?_|rw [w6]|rw [w5]|refine Zk (m:=n) (i) hi ?_|refine l_ixW (m:=n) (i) hi ?_|refine Zk (m:=n) (a+(o - N)) hj ?_|refine l_ixW (m:=n) (a+(o - N)) hj ?_|refine Zp 7 (i) 0 (ZR ki) ?_|refine Zp 7 (a+(o - N)) 0 (ZR kj) ?_|refine Yp 7 (i) 0 (gt m (a+(o - N))) (ZR ki) hq1 ?_|refine Z3 7 (i) 0 (gt m (a+(o - N))) (ZR ki) hq1 ?_|refine Z3 7 (a+(o - N)) 0 (gt m (i)) (ZR kj2) (hq2 _) ?_|refine r_up ?_|(refine ZC (fun hc=>?_) (fun hc=>?_)<;>(try simp at hc)<;>(try omega))|(refine ZQ (fun hc=>?_) (fun hc=>?_)<;>(try simp at hc)<;>(try omega))|refine ZD 10 [Ax _ _ _ _ _] [(0,0),(1,0),(2,0),(3,0),(4,0),(5,0),(6,0),(7,0),(8,0),(9,0),(10,0),(12,0),(13,0),(14,0),(11,3),(15,3),(16,0),(17,4),(18,0)] [19] ?_|(refine ZF (fun hc=>?_) (fun hc=>?_)<;>(try simp at hc)<;>(try omega)))
   exact Zi ⟨(i+1,z2,sw m i (a+(o - N))),by show _≤i+1;omega,by show i+1≤_;omega,h3.trans (Win.sw (by omega) (by omega) (by omega) (by omega) (by omega))⟩ (by show a+2 * p+2 - (i+1)<a+2 * p+2 - i;omega) ⟨rfl,rfl,rfl,rfl,rfl,rfl,trivial⟩
  ·have hj:a+o<n:=by omega
   have kj:a+o<m.length:=by omega
   have kj2:a+o<(m.set i (gt m (a+o))).length:=by rw [List.length_set];exact kj
   repeat' (first|refine ZH ?_|refine ZI ?_|refine ZK ?_|refine ZG ?_|refine ZM ?_|refine ZJ ?_|refine ZN ?_|refine ZP (fun b=>?_)|refine ZO (fun b=>?_)|refine ZA ?_|refine ZB ?_|refine ZL ?_|refine ZX ?_|refine ZY ?_|refine Zf ?_|refine Za ?_|refine Zb ?_|refine Zc (fun b=>?_)|refine Zd (fun b=>?_)|refine Ze ?_|refine ZZ ?_|rw [w5]|refine Zk (m:=n) (i) hi ?_|refine l_ixW (m:=n) (i) hi ?_|refine Zk (m:=n) (a+o) hj ?_|refine l_ixW (m:=n) (a+o) hj ?_|refine Zp 7 (i) 0 (ZR ki) ?_|refine Zp 7 (a+o) 0 (ZR kj) ?_|refine Yp 7 (i) 0 (gt m (a+o)) (ZR ki) hq1 ?_|refine Z3 7 (i) 0 (gt m (a+o)) (ZR ki) hq1 ?_|refine Z3 7 (a+o) 0 (gt m (i)) (ZR kj2) (hq2 _) ?_|refine r_up ?_|(refine ZC (fun hc=>?_) (fun hc=>?_)<;>(try simp at hc)<;>(try omega))|(refine ZQ (fun hc=>?_) (fun hc=>?_)<;>(try simp at hc)<;>(try omega))|refine ZD 10 [Ax _ _ _ _ _] [(0,0),(1,0),(2,0),(3,0),(4,0),(5,0),(6,0),(7,0),(8,0),(9,0),(10,0),(12,0),(13,0),(14,0),(11,3),(15,3),(16,0),(17,4),(18,0)] [19] ?_|(refine ZF (fun hc=>?_) (fun hc=>?_)<;>(try simp at hc)<;>(try omega)))
   exact Zi ⟨(i+1,z2,sw m i (a+o)),by show _≤i+1;omega,by show i+1≤_;omega,h3.trans (Win.sw (by omega) (by omega) (by omega) (by omega) (by omega))⟩ (by show a+2 * p+2 - (i+1)<a+2 * p+2 - i;omega) ⟨rfl,rfl,rfl,rfl,rfl,rfl,trivial⟩
 ·repeat' (first|refine ZH ?_|refine ZI ?_|refine ZK ?_|refine ZG ?_|refine ZM ?_|refine ZJ ?_|refine ZN ?_|refine ZP (fun b=>?_)|refine ZO (fun b=>?_)|refine ZA ?_|refine ZB ?_|refine ZL ?_|rw [w1]|rw [w3]|(refine ZC (fun hc=>?_) (fun hc=>?_)<;>(try simp at hc)<;>(try omega))|(refine ZF (fun hc=>?_) (fun hc=>?_)<;>(try simp at hc)<;>(try omega)))
  exact Y8 ⟨m,h3⟩ rfl trivial
include hcmp W in
set_option maxHeartbeats 4000000 in
theorem siftC_ok (l:List Ch) (n:Nat) (hn:n=l.length) (hn2:n≤1000000) (hq:AxOK (n * 7) q) (hU:∀x ∈ l,U x) (lo hi f:Nat) (hlo:lo≤1000000) (hf:f+hi≤n) (hpp:Hp c f lo hi lo l) :
  Enters 210∧Spec prog 210 #[.slice (some ⟨bk,0,none⟩) n cap,.int .i64 (lo:Int),.int .i64 (hi:Int),.int .i64 (f:Int),.func (.func fv) #[] #[]] [Fc] [Ax 108 chf bk l q]
   ⟨{l':List Ch // Win f (f+hi) l l'∧He c f lo hi l'},fun _=>.tuple #[],fun _=>True,fun _=>[],fun l'=>[Ax 108 chf bk l'.1 q]⟩:=by
 refine ZV [_,_,_,_,_] func210 ntmps210 fun G w hp=>?_
 repeat' (first|refine ZH ?_|refine ZI ?_|refine ZK ?_|refine ZG ?_|refine ZM ?_|refine ZJ ?_|refine ZN ?_|refine ZP (fun b=>?_)|refine ZO (fun b=>?_)|refine ZA ?_|refine ZB ?_|refine ZX ?_|refine ZY ?_|refine Zf ?_|refine Za ?_|refine Zb ?_|refine Zc (fun b=>?_)|refine Zd (fun b=>?_)|refine Ze ?_|refine ZZ ?_|(refine ZC (fun hc=>?_) (fun hc=>?_)<;>(try simp at hc))|(refine ZQ (fun hc=>?_) (fun hc=>?_)<;>(try simp at hc))|refine ZD 3 [] [(0,0),(1,0),(2,0),(3,0),(4,0),(5,0),(6,0),(7,0),(8,0),(9,0),(10,0),(11,0),(12,0),(13,0),(14,0),(15,0),(16,0),(17,0),(18,0),(19,4),(20,0),(21,0)] [] ?_|refine ZD 5 [] [(0,0),(1,0),(2,0),(3,0),(4,0),(5,0),(6,0),(7,0),(8,0),(9,0),(10,0),(11,0),(12,0),(13,4),(14,0),(15,0)] [] ?_|refine ZD 6 [] [(0,0),(1,0),(2,0),(3,0),(4,0),(5,0),(6,0),(7,0),(8,0),(9,0),(10,0),(11,0),(12,0),(13,0),(14,0),(15,0),(16,0),(17,0),(18,0),(19,0),(20,0),(21,4),(22,0)] [23] ?_|(refine ZF (fun hc=>?_) (fun hc=>?_)<;>(try simp at hc)))
 refine YT (X:={t:Nat×List Ch // lo≤t.1∧t.1≤1000000∧Win f (f+hi) l t.2∧Hp c f lo hi t.1 t.2∧Hq c f lo hi t.1 t.2}) (fun t=>[(0,.slice (some ⟨bk,0,none⟩) n cap),(2,.int .i64 (hi:Int)),(3,.int .i64 (f:Int)),(4,.func (.func fv) #[] #[]),(10,.int .i64 (t.1.1:Int))]) (fun _=>[Fc]) (fun t=>[Ax 108 chf bk t.1.2 q]) (fun t=>hi - t.1.1)
  ⟨(lo,l),Nat.le_refl _,hlo,Win.refl,hpp,fun i j h1 h2 h3 h4=>by omega⟩ ⟨rfl,rfl,rfl,rfl,rfl,trivial⟩ ?_
 rintro ⟨⟨x,m⟩,h1,h2,h3,h4,h5⟩
 dsimp only at h1 h2 h3 h4 h5 ⊢
 have hl:=h3.len
 have w1:IntKind.i64.wrap (IntKind.i64.wrap (2 * (x:Int))+1)=((2 * x+1:Nat):Int):=by simp (disch:=omega) only [wrapi];omega
 have w2:IntKind.i64.wrap (((2 * x+1:Nat):Int)+1)=((2 * x+2:Nat):Int):=by simp (disch:=omega) only [wrapi];omega
 by_cases h0:2 * x+1<hi
 ·have hi0:f+x<n:=by omega
  have hi1:f+(2 * x+1)<n:=by omega
  have ki0:f+x<m.length:=by omega
  have ki1:f+(2 * x+1)<m.length:=by omega
  have hq1:AxOK (m.length * 7) q:=by rw [hl,←hn];exact hq
  have hUm:=h3.sub hU
  have hq2:∀y,AxOK ((m.set (f+x) y).length * 7) q:=fun y=>by rw [List.length_set];exact hq1
  have kx1:∀y,f+(2 * x+1)<(m.set (f+x) y).length:=fun y=>by rw [List.length_set];exact ki1
  have sp1:=hcmp (gt m (f+x)) (gt m (f+(2 * x+1))) (hUm _ (Z9 ki0)) (hUm _ (Z9 ki1))
  have fin:∀y,(y=2 * x+1∨y=2 * x+2)→y<hi→(∀z,(z=2 * x+1∨z=2 * x+2)→z<hi→¬c (gt m (f+y)) (gt m (f+z))<0)→
    (¬c (gt m (f+x)) (gt m (f+y))<0→He c f lo hi m)∧(c (gt m (f+x)) (gt m (f+y))<0→Win f (f+hi) l (sw m (f+x) (f+y))∧Hp c f lo hi y (sw m (f+x) (f+y))∧Hq c f lo hi y (sw m (f+x) (f+y))):=fun y hy hyh hmax=>
   ⟨fun hn=>h4.stop fun z hz hzh=>W.t _ _ _ (hmax z hz hzh) hn,fun hlt=>⟨h3.trans (Win.sw (by omega) (by omega) (by omega) (by omega) (by omega)),Hp.step W h4 h5 h1 hy hyh (by omega) hlt hmax⟩⟩
  by_cases h6:2 * x+2<hi
  ·have hi2:f+(2 * x+2)<n:=by omega
   have ki2:f+(2 * x+2)<m.length:=by omega
   have kx2:∀y,f+(2 * x+2)<(m.set (f+x) y).length:=fun y=>by rw [List.length_set];exact ki2
   have sp2:=hcmp (gt m (f+x)) (gt m (f+(2 * x+2))) (hUm _ (Z9 ki0)) (hUm _ (Z9 ki2))
   have sp3:=hcmp (gt m (f+(2 * x+1))) (gt m (f+(2 * x+2))) (hUm _ (Z9 ki1)) (hUm _ (Z9 ki2))
   by_cases h7:c (gt m (f+(2 * x+1))) (gt m (f+(2 * x+2)))<0
   ·obtain ⟨f1,f2⟩:=fin (2 * x+2) (.inr rfl) h6 (fun z hz hzh=>by
     rcases hz with rfl|rfl
     ·exact W.a _ _ h7
     ·exact W.i _)
    repeat' (first|refine ZH ?_|refine ZI ?_|refine ZK ?_|refine ZG ?_|refine ZM ?_|refine ZJ ?_|refine ZN ?_|refine ZP (fun b=>?_)|refine ZO (fun b=>?_)|refine ZA ?_|refine ZB ?_|refine ZL ?_|refine ZX ?_|refine ZY ?_|refine Zf ?_|refine Za ?_|refine Zb ?_|refine Zc (fun b=>?_)|refine Zd (fun b=>?_)|refine Ze ?_|refine ZZ ?_|rw [w1]|rw [w2]|refine Zk (m:=n) (f+x) hi0 ?_|refine l_ixW (m:=n) (f+x) hi0 ?_|refine Zk (m:=n) (f+(2 * x+1)) hi1 ?_|refine l_ixW (m:=n) (f+(2 * x+1)) hi1 ?_|refine Zk (m:=n) (f+(2 * x+2)) hi2 ?_|refine l_ixW (m:=n) (f+(2 * x+2)) hi2 ?_|refine Zl 7 (f+x) 0 (ZR ki0) ?_|refine Zn 7 (f+x) 0 (ZR ki0) ?_|refine Zl 7 (f+(2 * x+1)) 0 (ZR ki1) ?_|refine Zn 7 (f+(2 * x+1)) 0 (ZR ki1) ?_|refine Zl 7 (f+(2 * x+2)) 0 (ZR ki2) ?_|refine Zn 7 (f+(2 * x+2)) 0 (ZR ki2) ?_|refine Zp 7 (f+x) 0 (ZR ki0) ?_|refine Zp 7 (f+(2 * x+1)) 0 (ZR ki1) ?_|refine Zp 7 (f+(2 * x+2)) 0 (ZR ki2) ?_|refine Yp 7 (f+x) 0 (gt m (f+(2 * x+2))) (ZR ki0) hq1 ?_|refine Z3 7 (f+x) 0 (gt m (f+(2 * x+2))) (ZR ki0) hq1 ?_|refine Z3 7 (f+(2 * x+2)) 0 (gt m (f+x)) (ZR (kx2 _)) (hq2 _) ?_|refine Zv sp3 (fun _ _=>?_)|refine Zv sp2 (fun _ _=>?_)|refine r_up ?_|(refine ZC (fun hc=>?_) (fun hc=>?_)<;>(try simp at hc)<;>(try omega))|(refine ZQ (fun hc=>?_) (fun hc=>?_)<;>(try simp at hc)<;>(try omega))|refine ZD 3 [] [(0,0),(1,0),(2,0),(3,0),(4,0),(5,0),(6,0),(7,0),(8,0),(9,0),(10,0),(11,0),(12,0),(13,0),(14,0),(15,0),(16,0),(17,0),(18,0),(19,4),(20,0),(21,0)] [] ?_|refine ZD 5 [] [(0,0),(1,0),(2,0),(3,0),(4,0),(5,0),(6,0),(7,0),(8,0),(9,0),(10,0),(11,0),(12,0),(13,4),(14,0),(15,0)] [] ?_|refine ZD 6 [Ax _ _ _ _ _] [(0,0),(1,0),(2,0),(3,0),(4,0),(5,0),(6,0),(7,0),(8,0),(9,0),(10,0),(11,0),(12,0),(14,0),(15,0),(16,0),(17,0),(18,0),(13,3),(19,3),(20,0),(21,4),(22,0)] [23] ?_|(refine ZF (fun hc=>?_) (fun hc=>?_)<;>(try simp at hc)<;>(try omega)))
    ·exact XE (XR (YZ ⟨m,h3,f1 (by omega)⟩ rfl trivial))
    ·obtain ⟨g1,g2,g3⟩:=f2 (by omega)
     exact Zi ⟨(2 * x+2,sw m (f+x) (f+(2 * x+2))),by show lo≤2 * x+2;omega,by show 2 * x+2≤_;omega,g1,g2,g3⟩ (by show hi - (2 * x+2)<hi - x;omega) ⟨rfl,rfl,rfl,rfl,rfl,trivial⟩
   ·obtain ⟨f1,f2⟩:=fin (2 * x+1) (.inl rfl) h0 (fun z hz hzh=>by
     rcases hz with rfl|rfl
     ·exact W.i _
     ·exact h7)
    repeat' (first|refine ZH ?_|refine ZI ?_|refine ZK ?_|refine ZG ?_|refine ZM ?_|refine ZJ ?_|refine ZN ?_|refine ZP (fun b=>?_)|refine ZO (fun b=>?_)|refine ZA ?_|refine ZB ?_|refine ZL ?_|refine ZX ?_|refine ZY ?_|refine Zf ?_|refine Za ?_|refine Zb ?_|refine Zc (fun b=>?_)|refine Zd (fun b=>?_)|refine Ze ?_|refine ZZ ?_|rw [w1]|rw [w2]|refine Zk (m:=n) (f+x) hi0 ?_|refine l_ixW (m:=n) (f+x) hi0 ?_|refine Zk (m:=n) (f+(2 * x+1)) hi1 ?_|refine l_ixW (m:=n) (f+(2 * x+1)) hi1 ?_|refine Zk (m:=n) (f+(2 * x+2)) hi2 ?_|refine l_ixW (m:=n) (f+(2 * x+2)) hi2 ?_|refine Zl 7 (f+x) 0 (ZR ki0) ?_|refine Zn 7 (f+x) 0 (ZR ki0) ?_|refine Zl 7 (f+(2 * x+1)) 0 (ZR ki1) ?_|refine Zn 7 (f+(2 * x+1)) 0 (ZR ki1) ?_|refine Zl 7 (f+(2 * x+2)) 0 (ZR ki2) ?_|refine Zn 7 (f+(2 * x+2)) 0 (ZR ki2) ?_|refine Zp 7 (f+x) 0 (ZR ki0) ?_|refine Zp 7 (f+(2 * x+1)) 0 (ZR ki1) ?_|refine Zp 7 (f+(2 * x+2)) 0 (ZR ki2) ?_|refine Yp 7 (f+x) 0 (gt m (f+(2 * x+1))) (ZR ki0) hq1 ?_|refine Z3 7 (f+x) 0 (gt m (f+(2 * x+1))) (ZR ki0) hq1 ?_|refine Z3 7 (f+(2 * x+1)) 0 (gt m (f+x)) (ZR (kx1 _)) (hq2 _) ?_|refine Zv sp3 (fun _ _=>?_)|refine Zv sp1 (fun _ _=>?_)|refine r_up ?_|(refine ZC (fun hc=>?_) (fun hc=>?_)<;>(try simp at hc)<;>(try omega))|(refine ZQ (fun hc=>?_) (fun hc=>?_)<;>(try simp at hc)<;>(try omega))|refine ZD 3 [] [(0,0),(1,0),(2,0),(3,0),(4,0),(5,0),(6,0),(7,0),(8,0),(9,0),(10,0),(11,0),(12,0),(13,0),(14,0),(15,0),(16,0),(17,0),(18,0),(19,4),(20,0),(21,0)] [] ?_|refine ZD 5 [] [(0,0),(1,0),(2,0),(3,0),(4,0),(5,0),(6,0),(7,0),(8,0),(9,0),(10,0),(11,0),(12,0),(13,4),(14,0),(15,0)] [] ?_|refine ZD 6 [Ax _ _ _ _ _] [(0,0),(1,0),(2,0),(3,0),(4,0),(5,0),(6,0),(7,0),(8,0),(9,0),(10,0),(11,0),(12,0),(14,0),(15,0),(16,0),(17,0),(18,0),(13,3),(19,3),(20,0),(21,4),(22,0)] [23] ?_|(refine ZF (fun hc=>?_) (fun hc=>?_)<;>(try simp at hc)<;>(try omega)))
    ·exact XE (XR (YZ ⟨m,h3,f1 (by omega)⟩ rfl trivial))
    ·obtain ⟨g1,g2,g3⟩:=f2 (by omega)
     exact Zi ⟨(2 * x+1,sw m (f+x) (f+(2 * x+1))),by show lo≤2 * x+1;omega,by show 2 * x+1≤_;omega,g1,g2,g3⟩ (by show hi - (2 * x+1)<hi - x;omega) ⟨rfl,rfl,rfl,rfl,rfl,trivial⟩
  ·obtain ⟨f1,f2⟩:=fin (2 * x+1) (.inl rfl) h0 (fun z hz hzh=>by
    rcases hz with rfl|rfl
    ·exact W.i _
    ·omega)
   repeat' (first|refine ZH ?_|refine ZI ?_|refine ZK ?_|refine ZG ?_|refine ZM ?_|refine ZJ ?_|refine ZN ?_|refine ZP (fun b=>?_)|refine ZO (fun b=>?_)|refine ZA ?_|refine ZB ?_|refine ZL ?_|refine ZX ?_|refine ZY ?_|refine Zf ?_|refine Za ?_|refine Zb ?_|refine Zc (fun b=>?_)|refine Zd (fun b=>?_)|refine Ze ?_|refine ZZ ?_|rw [w1]|rw [w2]|refine Zk (m:=n) (f+x) hi0 ?_|refine l_ixW (m:=n) (f+x) hi0 ?_|refine Zk (m:=n) (f+(2 * x+1)) hi1 ?_|refine l_ixW (m:=n) (f+(2 * x+1)) hi1 ?_|refine Zl 7 (f+x) 0 (ZR ki0) ?_|refine Zn 7 (f+x) 0 (ZR ki0) ?_|refine Zl 7 (f+(2 * x+1)) 0 (ZR ki1) ?_|refine Zn 7 (f+(2 * x+1)) 0 (ZR ki1) ?_|refine Zp 7 (f+x) 0 (ZR ki0) ?_|refine Zp 7 (f+(2 * x+1)) 0 (ZR ki1) ?_|refine Yp 7 (f+x) 0 (gt m (f+(2 * x+1))) (ZR ki0) hq1 ?_|refine Z3 7 (f+x) 0 (gt m (f+(2 * x+1))) (ZR ki0) hq1 ?_|refine Z3 7 (f+(2 * x+1)) 0 (gt m (f+x)) (ZR (kx1 _)) (hq2 _) ?_|refine Zv sp1 (fun _ _=>?_)|refine r_up ?_|(refine ZC (fun hc=>?_) (fun hc=>?_)<;>(try simp at hc)<;>(try omega))|(refine ZQ (fun hc=>?_) (fun hc=>?_)<;>(try simp at hc)<;>(try omega))|refine ZD 3 [] [(0,0),(1,0),(2,0),(3,0),(4,0),(5,0),(6,0),(7,0),(8,0),(9,0),(10,0),(11,0),(12,0),(13,0),(14,0),(15,0),(16,0),(17,0),(18,0),(19,4),(20,0),(21,0)] [] ?_|refine ZD 5 [] [(0,0),(1,0),(2,0),(3,0),(4,0),(5,0),(6,0),(7,0),(8,0),(9,0),(10,0),(11,0),(12,0),(13,4),(14,0),(15,0)] [] ?_|refine ZD 6 [Ax _ _ _ _ _] [(0,0),(1,0),(2,0),(3,0),(4,0),(5,0),(6,0),(7,0),(8,0),(9,0),(10,0),(11,0),(12,0),(14,0),(15,0),(16,0),(17,0),(18,0),(13,3),(19,3),(20,0),(21,4),(22,0)] [23] ?_|(refine ZF (fun hc=>?_) (fun hc=>?_)<;>(try simp at hc)<;>(try omega)))
   ·exact XE (XR (YZ ⟨m,h3,f1 (by omega)⟩ rfl trivial))
   ·obtain ⟨g1,g2,g3⟩:=f2 (by omega)
    exact Zi ⟨(2 * x+1,sw m (f+x) (f+(2 * x+1))),by show lo≤2 * x+1;omega,by show 2 * x+1≤_;omega,g1,g2,g3⟩ (by show hi - (2 * x+1)<hi - x;omega) ⟨rfl,rfl,rfl,rfl,rfl,trivial⟩
 ·repeat' (first|refine ZH ?_|refine ZI ?_|refine ZK ?_|refine ZG ?_|refine ZM ?_|refine ZJ ?_|refine ZN ?_|refine ZP (fun b=>?_)|refine ZO (fun b=>?_)|refine ZA ?_|refine ZB ?_|refine ZL ?_|rw [w1]|(refine ZC (fun hc=>?_) (fun hc=>?_)<;>(try simp at hc)<;>(try omega))|(refine ZF (fun hc=>?_) (fun hc=>?_)<;>(try simp at hc)<;>(try omega)))
  exact Y8 ⟨m,h3,h4.stop fun j h1 h2=>by omega⟩ rfl trivial
end
section
variable (bk cap:Nat) (q:List Value×(Nat×Nat)) (fv:FuncId) (Fc:Pf) (c:Ch→Ch→Int) (W:Wk0 c) (U:Ch→Prop) (hcmp:∀x y,U x→U y→Enters fv∧Spec prog fv #[x.v,y.v] [Fc] [] (RetV (.int .i64 (c x y))))
include hcmp W in
set_option maxHeartbeats 4000000 in
theorem heapC_ok (l:List Ch) (n:Nat) (hn:n=l.length) (hn2:n≤1000000) (hq:AxOK (n * 7) q) (hU:∀x ∈ l,U x) (a b:Nat) (hab:a<b) (hb:b≤n) :
  Enters 174∧Spec prog 174 #[.slice (some ⟨bk,0,none⟩) n cap,.int .i64 (a:Int),.int .i64 (b:Int),.func (.func fv) #[] #[]] [Fc] [Ax 108 chf bk l q]
   ⟨{l':List Ch // Win a b l l'∧Sw c a b l'},fun _=>.tuple #[],fun _=>True,fun _=>[],fun l'=>[Ax 108 chf bk l'.1 q]⟩:=by
 have w0:IntKind.i64.wrap ((b:Int) - (a:Int))=((b - a:Nat):Int):=by rw [wrapi (by omega) (by omega)];omega
 obtain ⟨N,hN⟩:∃N,N=b - a:=⟨_,rfl⟩
 rw [←hN] at w0
 have hbN:b=a+N:=by omega
 obtain ⟨p,hp⟩:∃p,p=(N - 1) / 2:=⟨_,rfl⟩
 have w1:IntKind.i64.wrap ((IntKind.i64.wrap ((N:Int) - 1)).tdiv 2)=(p:Int):=by
  rw [wrapi (z:=(N:Int) - 1) (by omega) (by omega)]
  have:((N:Int) - 1).tdiv 2=(p:Int):=by
   rw [show (N:Int) - 1=((N - 1:Nat):Int) by omega,hp];exact (Int.ofNat_tdiv _ _).symm
  rw [this,wrapi (by omega) (by omega)]
 refine ZV [_,_,_,_] func174 ntmps174 fun G w hp=>?_
 repeat' (first|refine ZH ?_|refine ZI ?_|refine ZK ?_|refine ZG ?_|refine ZM ?_|refine ZJ ?_|refine ZN ?_|refine ZP (fun b=>?_)|refine ZO (fun b=>?_)|refine ZA ?_|refine ZB ?_|rw [w0]|rw [w1]|(refine ZC (fun hc=>?_) (fun hc=>?_)<;>(try simp at hc))|(refine ZF (fun hc=>?_) (fun hc=>?_)<;>(try simp at hc)))
 refine WM (Y:={m:List Ch // Win a b l m∧He c a 0 N m}) (X:={t:Nat×List Ch // t.1≤p+1∧Win a b l t.2∧He c a t.1 N t.2})
  (fun t=>[(0,.slice (some ⟨bk,0,none⟩) n cap),(3,.func (.func fv) #[] #[]),(8,.int .i64 (a:Int)),(9,.int .i64 0),(10,.int .i64 (N:Int)),(11,.int .i64 ((t.1.1:Int) - 1))]) (fun _=>[Fc]) (fun t=>[Ax 108 chf bk t.1.2 q]) (fun t=>t.1.1)
  (fun _=>[(0,.slice (some ⟨bk,0,none⟩) n cap),(3,.func (.func fv) #[] #[]),(8,.int .i64 (a:Int)),(9,.int .i64 0),(10,.int .i64 (N:Int))]) (fun _=>[Fc]) (fun m=>[Ax 108 chf bk m.1 q])
  ⟨(p+1,l),Nat.le_refl _,Win.refl,fun i j h1 h2 h3=>by omega⟩ ⟨rfl,rfl,rfl,rfl,rfl,(by show look _ _=some (Value.int .i64 (((p+1:Nat):Int) - 1));rw [show ((p+1:Nat):Int) - 1=(p:Int) by omega];rfl),trivial⟩ ?_ ?_
 rotate_left
 ·intro hx
  rintro ⟨⟨t,m⟩,h1,h2,h3⟩
  dsimp only at h1 h2 h3 ⊢
  have hl:=h2.len
  by_cases ht:t=0
  ·subst ht
   repeat' (first|refine ZH ?_|refine ZI ?_|refine ZK ?_|refine ZG ?_|refine ZM ?_|refine ZJ ?_|refine ZN ?_|refine ZP (fun b=>?_)|refine ZO (fun b=>?_)|refine ZA ?_|refine ZB ?_|(refine ZC (fun hc=>?_) (fun hc=>?_)<;>(try simp at hc)<;>(try omega))|(refine ZF (fun hc=>?_) (fun hc=>?_)<;>(try simp at hc)<;>(try omega)))
   exact Yg hx ⟨m,h2,h3⟩ ⟨rfl,rfl,rfl,rfl,rfl,trivial⟩
  ·obtain ⟨i,rfl⟩:∃i,t=i+1:=⟨t - 1,by omega⟩
   have e1:((i+1:Nat):Int) - 1=(i:Int):=by omega
   have w2:IntKind.i64.wrap ((i:Int) - 1)=(i:Int) - 1:=wrapi (by omega) (by omega)
   have s1:=siftC_ok bk cap q fv Fc c W U hcmp m n (by omega) hn2 hq (h2.sub hU) i N a (by omega) (by omega) (fun i' j' g1 g2 g3 g4=>h3 i' j' (by omega) g2 g3)
   rw [e1]
   repeat' (first|refine ZH ?_|refine ZI ?_|refine ZK ?_|refine ZG ?_|refine ZM ?_|refine ZJ ?_|refine ZN ?_|refine ZP (fun b=>?_)|refine ZO (fun b=>?_)|refine ZA ?_|refine ZB ?_|refine ZL ?_|refine ZE (s1) (fun _ _=>?_)|refine l_call0 (s1) (fun _ _=>?_)|rw [w2]|(refine ZC (fun hc=>?_) (fun hc=>?_)<;>(try simp at hc)<;>(try omega))|(refine ZF (fun hc=>?_) (fun hc=>?_)<;>(try simp at hc)<;>(try omega)))
   rename_i l' _
   obtain ⟨l',g1,g2⟩:=l'
   exact Zi ⟨(i,l'),by show i≤p+1;omega,h2.trans (by rw [hbN];exact g1),g2⟩ (by show i<i+1;omega) ⟨rfl,rfl,rfl,rfl,rfl,rfl,trivial⟩
 rintro ⟨m,hm1,hm2⟩
 have w3:IntKind.i64.wrap ((N:Int) - 1)=(N:Int) - 1:=wrapi (by omega) (by omega)
 repeat' (first|refine ZH ?_|refine ZI ?_|refine ZK ?_|refine ZG ?_|refine ZM ?_|refine ZJ ?_|refine ZN ?_|refine ZP (fun b=>?_)|refine ZO (fun b=>?_)|refine ZA ?_|refine ZB ?_|rw [w3]|(refine ZC (fun hc=>?_) (fun hc=>?_)<;>(try simp at hc))|(refine ZF (fun hc=>?_) (fun hc=>?_)<;>(try simp at hc)))
 refine YT (X:={t:Nat×List Ch // t.1≤N∧Win a b l t.2∧Hs c a t.1 N t.2})
  (fun t=>[(0,.slice (some ⟨bk,0,none⟩) n cap),(3,.func (.func fv) #[] #[]),(8,.int .i64 (a:Int)),(9,.int .i64 0),(12,.int .i64 ((t.1.1:Int) - 1))]) (fun _=>[Fc]) (fun t=>[Ax 108 chf bk t.1.2 q]) (fun t=>t.1.1)
  ⟨(N,m),Nat.le_refl _,hm1,Hs.init hm2 (Nat.le_refl _)⟩ ⟨rfl,rfl,rfl,rfl,rfl,trivial⟩ ?_
 rintro ⟨⟨t,m'⟩,h1,h2,h3⟩
 dsimp only at h1 h2 h3 ⊢
 have hl:=h2.len
 by_cases ht:t=0
 ·subst ht
  repeat' (first|refine ZH ?_|refine ZI ?_|refine ZK ?_|refine ZG ?_|refine ZM ?_|refine ZJ ?_|refine ZN ?_|refine ZP (fun b=>?_)|refine ZO (fun b=>?_)|refine ZA ?_|refine ZB ?_|refine ZL ?_|(refine ZC (fun hc=>?_) (fun hc=>?_)<;>(try simp at hc)<;>(try omega))|(refine ZF (fun hc=>?_) (fun hc=>?_)<;>(try simp at hc)<;>(try omega)))
  exact Y8 ⟨m',h2,by rw [hbN];exact h3.done⟩ rfl trivial
 ·obtain ⟨i,rfl⟩:∃i,t=i+1:=⟨t - 1,by omega⟩
  have e1:((i+1:Nat):Int) - 1=(i:Int):=by omega
  have w2:IntKind.i64.wrap ((i:Int) - 1)=(i:Int) - 1:=wrapi (by omega) (by omega)
  have hi:a<n:=by omega
  have hj:a+i<n:=by omega
  have ki:a<m'.length:=by omega
  have kj:a+i<m'.length:=by omega
  have kj2:a+i<(m'.set a (gt m' (a+i))).length:=by rw [List.length_set];exact kj
  have hq1:AxOK (m'.length * 7) q:=by rw [hl,←hn];exact hq
  have hq2:AxOK ((m'.set a (gt m' (a+i))).length * 7) q:=by rw [List.length_set];exact hq1
  have hsw:Win a b l (sw m' a (a+i)):=h2.trans (Win.sw (by omega) hab (by omega) (by omega) (by omega))
  have s1:=siftC_ok bk cap q fv Fc c W U hcmp (sw m' a (a+i)) n (by rw [sw_len];omega) hn2 hq (hsw.sub hU) 0 i a (by omega) (by omega) (fun i' j' g1 g2 g3 g4=>by
   rw [WW ki kj,WW ki kj,if_neg (by omega),if_neg (by omega),if_neg (by omega),if_neg (by omega)]
   exact h3.he i' j' g1 g2 (by omega))
  rw [e1]
  repeat' (first|refine ZH ?_|refine ZI ?_|refine ZK ?_|refine ZG ?_|refine ZM ?_|refine ZJ ?_|refine ZN ?_|refine ZP (fun b=>?_)|refine ZO (fun b=>?_)|refine ZA ?_|refine ZB ?_|refine ZL ?_|refine ZX ?_|refine ZY ?_|refine Zf ?_|refine Za ?_|refine Zb ?_|refine Zc (fun b=>?_)|refine Zd (fun b=>?_)|refine Ze ?_|refine ZZ ?_|refine ZE (s1) (fun _ _=>?_)|refine l_call0 (s1) (fun _ _=>?_)|refine ZS (s1) (fun _ _=>?_)|refine Zk (m:=n) (a) hi ?_|refine l_ixW (m:=n) (a) hi ?_|refine Zk (m:=n) (a+i) hj ?_|refine l_ixW (m:=n) (a+i) hj ?_|refine Zp 7 (a) 0 (ZR ki) ?_|refine Zp 7 (a+i) 0 (ZR kj) ?_|refine Yp 7 (a) 0 (gt m' (a+i)) (ZR ki) hq1 ?_|refine Z3 7 (a) 0 (gt m' (a+i)) (ZR ki) hq1 ?_|refine Z3 7 (a+i) 0 (gt m' (a)) (ZR kj2) hq2 ?_|rw [w2]|refine r_up ?_|(refine ZC (fun hc=>?_) (fun hc=>?_)<;>(try simp at hc)<;>(try omega))|(refine ZQ (fun hc=>?_) (fun hc=>?_)<;>(try simp at hc)<;>(try omega))|refine ZD 10 [Ax _ _ _ _ _] [(0,0),(1,0),(2,0),(3,0),(4,0),(5,0),(6,0),(7,0),(8,0),(9,0),(10,0),(12,0),(13,0),(14,0),(11,3),(15,3),(16,0),(17,4),(18,0)] [19] ?_|(refine ZF (fun hc=>?_) (fun hc=>?_)<;>(try simp at hc)<;>(try omega)))
  rename_i l' _
  obtain ⟨l',g1,g2⟩:=l'
  exact Zi ⟨(i,l'),by show i≤N;omega,hsw.trans (g1.mono (Nat.le_refl _) (by omega)),h3.pop W (by omega) (by omega) g1 g2⟩ (by show i<i+1;omega) ⟨rfl,rfl,rfl,rfl,rfl,trivial⟩
end
section
variable {α:Type} [Inhabited α] {a b i j:Nat} {P:α} {A:α→Prop} {l m:List α}
structure Pin (A:α→Prop) (a b i j:Nat) (P:α) (l m:List α):Prop where
 w:Win a b l m
 h1:a<i
 h2:i≤j+1
 h3:j<b
 pa:gt m a=P
 lo:∀k,a<k→k<i→A (gt m k)
 hi:∀k,j<k→k<b→¬A (gt m k)
theorem Pin.init {p:Nat} (hp1:a≤p) (hp2:p<b) (hb:b≤l.length) (h:a+1<b):Pin A a b (a+1) (b - 1) (gt l p) l (sw l a p) where
 w:=Win.sw (Nat.le_refl _) (by omega) hp1 hp2 hb
 h1:=by omega
 h2:=by omega
 h3:=by omega
 pa:=by
  rw [WW (by omega) (by omega)]
  split
  ·rename_i h;rw [h]
  ·rw [if_pos rfl]
 lo:=fun k h1 h2=>by omega
 hi:=fun k h1 h2=>by omega
theorem Pin.ii (h:Pin A a b i j P l m) (hij:i≤j) (hA:A (gt m i)):Pin A a b (i+1) j P l m:=
 ⟨h.w,by have:=h.h1;omega,by omega,h.h3,h.pa,fun k h1 h2=>by
  by_cases hk:k=i
  ·rw [hk];exact hA
  ·exact h.lo k h1 (by omega),h.hi⟩
theorem Pin.jj (h:Pin A a b i j P l m) (hij:i≤j) (hA:¬A (gt m j)):Pin A a b i (j - 1) P l m:=
 ⟨h.w,h.h1,by have:=h.h1;omega,by have:=h.h3;omega,h.pa,h.lo,fun k h1 h2=>by
  by_cases hk:k=j
  ·rw [hk];exact hA
  ·exact h.hi k (by have:=h.h1;omega) h2⟩
theorem Pin.sw (h:Pin A a b i j P l m) (hb:b≤l.length) (hij:i<j) (hi:¬A (gt m i)) (hj:A (gt m j)):Pin A a b (i+1) (j - 1) P l (sw m i j):=by
 have h1:=h.h1
 have h3:=h.h3
 have hl:=h.w.len
 have g:=fun k=>WW (l:=m) (i:=i) (j:=j) (k:=k) (by omega) (by omega)
 refine ⟨h.w.trans (Win.sw (by omega) (by omega) (by omega) h3 (by omega)),by omega,by omega,by omega,?_,fun k k1 k2=>?_,fun k k1 k2=>?_⟩
 ·rw [g,if_neg (by omega),if_neg (by omega)];exact h.pa
 ·rw [g,if_neg (by omega)]
  by_cases hk:k=i
  ·rw [if_pos hk];exact hj
  ·rw [if_neg hk];exact h.lo k k1 (by omega)
 ·rw [g]
  by_cases hk:k=j
  ·rw [if_pos hk];exact hi
  ·rw [if_neg hk,if_neg (by omega)];exact h.hi k (by omega) k2
theorem Pin.ne (_h:Pin A a b i j P l m) (hij:i≤j) (hi:¬A (gt m i)) (hj:A (gt m j)):i<j:=by
 by_cases he:i=j
 ·rw [he] at hi;exact absurd hj hi
 ·omega
theorem Pin.part {c:α→α→Int} (h:Pin (fun x=>c x P<0) a b i j P l m) (hb:b≤l.length) (hij:j<i):Win a b l (Go.Proofs.YtdkndahndgkmnaaGreatDoor.sw m j a)∧Pt0 c a b j (Go.Proofs.YtdkndahndgkmnaaGreatDoor.sw m j a):=by
 have h1:=h.h1
 have h2:=h.h2
 have h3:=h.h3
 have hl:=h.w.len
 have g:=fun k=>WW (l:=m) (i:=j) (j:=a) (k:=k) (by omega) (by omega)
 have gj:gt (Go.Proofs.YtdkndahndgkmnaaGreatDoor.sw m j a) j=P:=by
  rw [g]
  by_cases hja:j=a
  ·rw [if_pos hja,hja];exact h.pa
  ·rw [if_neg hja,if_pos rfl];exact h.pa
 refine ⟨h.w.trans (Win.sw (by omega) h3 (Nat.le_refl _) (by omega) (by omega)),by omega,h3,fun k k1 k2=>?_,fun k k1 k2=>?_⟩
 ·rw [gj,g]
  by_cases hka:k=a
  ·rw [if_pos hka];exact h.lo j (by omega) (by omega)
  ·rw [if_neg hka,if_neg (by omega)];exact h.lo k (by omega) (by omega)
 ·rw [gj,g,if_neg (by omega),if_neg (by omega)];exact h.hi k k1 k2
variable {c:α→α→Int} {l' m1 m2:List α}
theorem Lw.win (h:Lw c a b l) (hw:Win a b l l') (hb:b≤l.length):Lw c a b l':=fun h0 k h1 h2=>by
 rw [hw.out (a - 1) (by omega)]
 exact hw.all hb (P:=fun x=>¬c x (gt l (a - 1))<0) (fun k h3 h4=>h h0 k h3 h4) k h1 h2
theorem Sw.snoc (W:Wk0 c) (h:Sw c a i m) (hai:a<i) (hc:¬c (gt m i) (gt m (i - 1))<0):Sw c a (i+1) m:=fun p q h1 h2 h3=>by
 by_cases hq:q=i
 ·subst hq
  by_cases hp:p=q - 1
  ·rw [hp];exact hc
  ·exact W.t _ _ _ (h p (q - 1) h1 (by omega) (by omega)) hc
 ·exact h p q h1 h2 (by omega)
def Lsh (c:α→α→Int) (a i j:Nat) (m:List α):Prop:=∀p q,a≤p→p<q→q<i→q≠j→¬c (gt m q) (gt m p)<0
theorem Lsh.init (h:Sw c a i m) (hi:i<m.length) (_ha:a<i):Lsh c a i (i - 1) (Go.Proofs.YtdkndahndgkmnaaGreatDoor.sw m i (i - 1)):=fun p q h1 h2 h3 h4=>by
 rw [WW hi (by omega),WW hi (by omega),if_neg (by omega),if_neg (by omega),if_neg (by omega),if_neg (by omega)]
 exact h p q h1 h2 (by omega)
theorem Lsh.step (W:Wk0 c) (h:Lsh c a i j m) (ha:a<j) (hj:j<i) (hi:i≤m.length) (hc:c (gt m j) (gt m (j - 1))<0):Lsh c a i (j - 1) (Go.Proofs.YtdkndahndgkmnaaGreatDoor.sw m j (j - 1)):=fun p q h1 h2 h3 h4=>by
 have g:=fun k=>WW (l:=m) (i:=j) (j:=j - 1) (k:=k) (by omega) (by omega)
 rw [g p,g q,if_neg h4]
 by_cases hq:q=j
 ·subst hq
  rw [if_pos rfl]
  by_cases hp:p=q - 1
  ·rw [if_pos hp];exact W.a _ _ hc
  ·rw [if_neg hp,if_neg (by omega)]
   exact h p (q - 1) h1 (by omega) (by omega) (by omega)
 ·rw [if_neg hq]
  by_cases hp:p=j - 1
  ·rw [if_pos hp]
   exact h j q (by omega) (by omega) h3 (by omega)
  ·rw [if_neg hp]
   by_cases hp2:p=j
   ·rw [if_pos hp2]
    exact h (j - 1) q (by omega) (by omega) h3 (by omega)
   ·rw [if_neg hp2]
    exact h p q h1 h2 h3 (by omega)
theorem Lsh.stop (W:Wk0 c) (h:Lsh c a i j m) (hc:a<j→¬c (gt m j) (gt m (j - 1))<0):Sw c a i m:=fun p q h1 h2 h3=>by
 by_cases hq:q=j
 ·subst hq
  have h5:=hc (by omega)
  by_cases hp:p=q - 1
  ·rw [hp];exact h5
  ·exact W.t _ _ _ (h p (q - 1) h1 (by omega) (by omega) (by omega)) h5
 ·exact h p q h1 h2 h3 hq
theorem Sw.out (h:Sw c a i m1) (hw:Win i b m1 m2):Sw c a i m2:=fun p q h1 h2 h3=>by
 rw [hw.out p (by omega),hw.out q (by omega)]
 exact h p q h1 h2 h3
theorem Sw.srdn {n:Nat} (hn:l.length=n) (h:Sw c 0 n l):Srd c l:=by
 subst hn;exact h.srd
end
section
variable (bk cap:Nat) (q:List Value×(Nat×Nat)) (fv:FuncId) (Fc:Pf) (c:Ch→Ch→Int) (W:Wk0 c) (U:Ch→Prop) (hcmp:∀x y,U x→U y→Enters fv∧Spec prog fv #[x.v,y.v] [Fc] [] (RetV (.int .i64 (c x y))))
include hcmp in
set_option maxHeartbeats 8000000 in
theorem partC_ok (l:List Ch) (n:Nat) (hn:n=l.length) (hn2:n≤1000000) (hq:AxOK (n * 7) q) (hU:∀x ∈ l,U x) (a bb p:Nat) (hab:a+12<bb) (hb:bb≤n) (hp1:a≤p) (hp2:p<bb) :
  Enters 180∧Spec prog 180 #[.slice (some ⟨bk,0,none⟩) n cap,.int .i64 (a:Int),.int .i64 (bb:Int),.int .i64 (p:Int),.func (.func fv) #[] #[]] [Fc] [Ax 108 chf bk l q]
   ⟨{t:Nat×Bool×List Ch // Win a bb l t.2.2∧Pt0 c a bb t.1 t.2.2},fun t=>.tuple #[.int .i64 (t.1.1:Int),.bool t.1.2.1],fun _=>True,fun _=>[],fun t=>[Ax 108 chf bk t.1.2.2 q]⟩:=by
 have w0:IntKind.i64.wrap ((a:Int)+1)=((a+1:Nat):Int):=by simp (disch:=omega) only [wrapi];omega
 have w1:IntKind.i64.wrap ((bb:Int) - 1)=((bb - 1:Nat):Int):=by simp (disch:=omega) only [wrapi];omega
 have wi:∀i,i<n→IntKind.i64.wrap ((i:Int)+1)=((i+1:Nat):Int):=fun i hi=>by simp (disch:=omega) only [wrapi];omega
 have wj:∀j,0<j→j<n→IntKind.i64.wrap ((j:Int) - 1)=((j - 1:Nat):Int):=fun j h0 hi=>by simp (disch:=omega) only [wrapi];omega
 have hia:a<n:=by omega
 have hip:p<n:=by omega
 have kia:a<l.length:=by omega
 have kip:p<l.length:=by omega
 have kip2:p<(l.set a (gt l p)).length:=by rw [List.length_set];exact kip
 have hql:AxOK (l.length * 7) q:=by rw [←hn];exact hq
 have hql2:AxOK ((l.set a (gt l p)).length * 7) q:=by rw [List.length_set];exact hql
 have hUP:U (gt l p):=hU _ (Z9 kip)
 have hin0:=fun A:Ch→Prop=>Pin.init (A:=A) (l:=l) (a:=a) (b:=bb) hp1 hp2 (by omega) (by omega)
 obtain ⟨P,hP⟩:∃P,P=gt l p:=⟨_,rfl⟩
 rw [←hP] at hUP hin0
 obtain ⟨m,hm0⟩:∃m,m=sw l a p:=⟨_,rfl⟩
 rw [←hm0] at hin0
 have hin:=hin0 (fun x=>c x P<0)
 clear hin0
 refine ZV [_,_,_,_,_] func180 ntmps180 fun G w hp=>?_
 repeat' (first|refine ZH ?_|refine ZI ?_|refine ZK ?_|refine ZG ?_|refine ZM ?_|refine ZJ ?_|refine ZN ?_|refine ZP (fun b=>?_)|refine ZO (fun b=>?_)|refine ZA ?_|refine ZB ?_|refine ZX ?_|refine ZY ?_|refine Zf ?_|refine Za ?_|refine Zb ?_|refine Zc (fun b=>?_)|refine Zd (fun b=>?_)|refine Ze ?_|refine ZZ ?_|refine Zk (m:=n) (a) hia ?_|refine l_ixW (m:=n) (a) hia ?_|refine Zk (m:=n) (p) hip ?_|refine l_ixW (m:=n) (p) hip ?_|refine Zp 7 (a) 0 (ZR kia) ?_|refine Zp 7 (p) 0 (ZR kip) ?_|refine Yp 7 (a) 0 (gt l (p)) (ZR kia) hql ?_|refine Z3 7 (a) 0 (gt l (p)) (ZR kia) hql ?_|refine Z3 7 (p) 0 (gt l (a)) (ZR kip2) hql2 ?_|rw [w0]|rw [w1]|refine r_up ?_|(refine ZC (fun hc=>?_) (fun hc=>?_)<;>(try simp at hc))|(refine ZQ (fun hc=>?_) (fun hc=>?_)<;>(try simp at hc))|refine ZD 1 [Ax _ _ _ _ _] [(0,0),(1,0),(2,0),(3,0),(4,0),(5,0),(6,0),(8,0),(9,0),(10,0),(7,3),(11,3),(12,0),(13,4),(14,0)] [15] ?_|(refine ZF (fun hc=>?_) (fun hc=>?_)<;>(try simp at hc)))
 refine k_ax m hm0.symm ?_
 clear hm0 kip2 hql2
 obtain ⟨jz,hjz⟩:∃jz,jz=(bb - 1):=⟨_,rfl⟩
 rw [←hjz] at hin
 have hm:=hin.w.len
 have ga:m[a]? = some P:=by rw [←hin.pa];exact ZR (by omega)
 have hUm:=hin.w.sub hU
 refine WM (Y:={i:Nat // (a+1)≤i∧Pin (fun x=>c x P<0) a bb i jz P l m∧(i≤jz→¬(fun x=>c x P<0) (gt m i))}) (X:={i:Nat // (a+1)≤i∧Pin (fun x=>c x P<0) a bb i jz P l m}) (fun i=>[(0,.slice (some ⟨bk,0,none⟩) n cap),(1,.int .i64 (a:Int)),(4,.func (.func fv) #[] #[]),(12,.int .i64 ((i.1:Nat):Int)),(13,.int .i64 ((jz:Nat):Int))]) (fun _=>[Fc]) (fun _=>[Ax 108 chf bk m q]) (fun i=>bb+1 - i.1) (fun i=>[(0,.slice (some ⟨bk,0,none⟩) n cap),(1,.int .i64 (a:Int)),(4,.func (.func fv) #[] #[]),(12,.int .i64 ((i.1:Nat):Int)),(13,.int .i64 ((jz:Nat):Int))]) (fun _=>[Fc]) (fun _=>[Ax 108 chf bk m q]) ⟨(a+1),Nat.le_refl _,hin⟩ ⟨rfl,rfl,rfl,rfl,(by show look _ _=some (Value.int .i64 ((jz:Nat):Int));rw [hjz];rfl),trivial⟩ ?_ ?_
 rotate_left
 ·intro hx
  rintro ⟨i,hi0,hp⟩
  dsimp only at hi0 hp ⊢
  have k1:=hp.h1
  have k2:=hp.h2
  have k3:=hp.h3
  generalize jz=j at *
  by_cases hij:i≤j
  ·have hi:i<n:=by omega
   have hj:j<n:=by omega
   have ha:a<n:=by omega
   have gi:m[i]? = some (gt m i):=ZR (by omega)
   have gj:m[j]? = some (gt m j):=ZR (by omega)
   have sp:=hcmp (gt m i) P (hUm _ (Z9 (by omega))) hUP
   by_cases hA:c (gt m i) P<0
   ·repeat' (first|refine ZH ?_|refine ZI ?_|refine ZK ?_|refine ZG ?_|refine ZM ?_|refine ZJ ?_|refine ZN ?_|refine ZP (fun b=>?_)|refine ZO (fun b=>?_)|refine ZA ?_|refine ZB ?_|refine ZX ?_|refine ZY ?_|refine Zf ?_|refine Za ?_|refine Zb ?_|refine Zc (fun b=>?_)|refine Zd (fun b=>?_)|refine Ze ?_|refine ZZ ?_|rw [wi i hi]|rw [wj j (by omega) hj]|refine Zk (m:=n) (i) hi ?_|refine l_ixW (m:=n) (i) hi ?_|refine Zk (m:=n) (a) ha ?_|refine l_ixW (m:=n) (a) ha ?_|refine Zl 7 (i) 0 gi ?_|refine Zn 7 (i) 0 gi ?_|refine Zl 7 (a) 0 ga ?_|refine Zn 7 (a) 0 ga ?_|refine Zv sp (fun _ _=>?_)|(refine ZC (fun hc=>?_) (fun hc=>?_)<;>(try simp at hc)<;>(try omega))|(refine ZQ (fun hc=>?_) (fun hc=>?_)<;>(try simp at hc)<;>(try omega))|refine ZD 1 [] [(0,0),(1,0),(2,0),(3,0),(4,0),(5,0),(6,0),(7,0),(8,0),(9,0),(10,0),(11,0),(12,0),(13,4),(14,0)] [15] ?_|refine ZD 3 [] [(0,0),(1,0),(2,0),(3,0),(4,0),(5,0),(6,0),(7,0),(8,0),(9,0),(10,0),(11,0),(12,0),(13,4),(14,0),(15,0)] [] ?_|refine ZD 5 [] [(0,0),(1,0),(2,0),(3,0),(4,0),(5,0),(6,0),(7,0),(8,0),(9,0),(10,0),(11,0),(12,0),(13,4),(14,0),(15,0),(16,0)] [] ?_|refine ZD 8 [] [(0,0),(1,0),(2,0),(3,0),(4,0),(5,0),(6,0),(7,0),(8,0),(9,0),(10,0),(11,0),(12,0),(13,4),(14,0)] [15] ?_|refine ZD 10 [] [(0,0),(1,0),(2,0),(3,0),(4,0),(5,0),(6,0),(7,0),(8,0),(9,0),(10,0),(11,0),(12,0),(13,4),(14,0)] [15] ?_|refine ZD 13 [] [(0,0),(1,0),(2,0),(3,0),(4,0),(5,0),(6,0),(7,0),(8,0),(9,0),(10,0),(11,0),(12,0),(13,4),(14,0),(15,0)] [] ?_|refine ZD 15 [] [(0,0),(1,0),(2,0),(3,0),(4,0),(5,0),(6,0),(7,0),(8,0),(9,0),(10,0),(11,0),(12,0),(13,4),(14,0),(15,0),(16,0)] [] ?_|refine ZD 18 [] [(0,0),(1,0),(2,0),(3,0),(4,0),(5,0),(6,0),(7,0),(8,0),(9,0),(10,0),(11,0),(12,0),(13,4),(14,0)] [15] ?_|refine ZD 21 [] [(0,0),(1,0),(2,0),(3,0),(4,0),(5,0),(6,0),(7,0),(8,0),(9,0),(10,0),(11,0),(12,0),(13,4),(14,0)] [15] ?_|(refine ZF (fun hc=>?_) (fun hc=>?_)<;>(try simp at hc)<;>(try omega)))
    exact Zi ⟨i+1,by omega,hp.ii hij (hA)⟩ (by show bb+1 - (i+1)<bb+1 - i;omega) ⟨rfl,rfl,rfl,rfl,rfl,trivial⟩
   ·repeat' (first|refine ZH ?_|refine ZI ?_|refine ZK ?_|refine ZG ?_|refine ZM ?_|refine ZJ ?_|refine ZN ?_|refine ZP (fun b=>?_)|refine ZO (fun b=>?_)|refine ZA ?_|refine ZB ?_|refine ZX ?_|refine ZY ?_|refine Zf ?_|refine Za ?_|refine Zb ?_|refine Zc (fun b=>?_)|refine Zd (fun b=>?_)|refine Ze ?_|refine ZZ ?_|rw [wi i hi]|rw [wj j (by omega) hj]|refine Zk (m:=n) (i) hi ?_|refine l_ixW (m:=n) (i) hi ?_|refine Zk (m:=n) (a) ha ?_|refine l_ixW (m:=n) (a) ha ?_|refine Zl 7 (i) 0 gi ?_|refine Zn 7 (i) 0 gi ?_|refine Zl 7 (a) 0 ga ?_|refine Zn 7 (a) 0 ga ?_|refine Zv sp (fun _ _=>?_)|(refine ZC (fun hc=>?_) (fun hc=>?_)<;>(try simp at hc)<;>(try omega))|(refine ZQ (fun hc=>?_) (fun hc=>?_)<;>(try simp at hc)<;>(try omega))|refine ZD 1 [] [(0,0),(1,0),(2,0),(3,0),(4,0),(5,0),(6,0),(7,0),(8,0),(9,0),(10,0),(11,0),(12,0),(13,4),(14,0)] [15] ?_|refine ZD 3 [] [(0,0),(1,0),(2,0),(3,0),(4,0),(5,0),(6,0),(7,0),(8,0),(9,0),(10,0),(11,0),(12,0),(13,4),(14,0),(15,0)] [] ?_|refine ZD 5 [] [(0,0),(1,0),(2,0),(3,0),(4,0),(5,0),(6,0),(7,0),(8,0),(9,0),(10,0),(11,0),(12,0),(13,4),(14,0),(15,0),(16,0)] [] ?_|refine ZD 8 [] [(0,0),(1,0),(2,0),(3,0),(4,0),(5,0),(6,0),(7,0),(8,0),(9,0),(10,0),(11,0),(12,0),(13,4),(14,0)] [15] ?_|refine ZD 10 [] [(0,0),(1,0),(2,0),(3,0),(4,0),(5,0),(6,0),(7,0),(8,0),(9,0),(10,0),(11,0),(12,0),(13,4),(14,0)] [15] ?_|refine ZD 13 [] [(0,0),(1,0),(2,0),(3,0),(4,0),(5,0),(6,0),(7,0),(8,0),(9,0),(10,0),(11,0),(12,0),(13,4),(14,0),(15,0)] [] ?_|refine ZD 15 [] [(0,0),(1,0),(2,0),(3,0),(4,0),(5,0),(6,0),(7,0),(8,0),(9,0),(10,0),(11,0),(12,0),(13,4),(14,0),(15,0),(16,0)] [] ?_|refine ZD 18 [] [(0,0),(1,0),(2,0),(3,0),(4,0),(5,0),(6,0),(7,0),(8,0),(9,0),(10,0),(11,0),(12,0),(13,4),(14,0)] [15] ?_|refine ZD 21 [] [(0,0),(1,0),(2,0),(3,0),(4,0),(5,0),(6,0),(7,0),(8,0),(9,0),(10,0),(11,0),(12,0),(13,4),(14,0)] [15] ?_|(refine ZF (fun hc=>?_) (fun hc=>?_)<;>(try simp at hc)<;>(try omega)))
    exact Yg hx ⟨i,by omega,hp,fun _=>(hA)⟩ ⟨rfl,rfl,rfl,rfl,rfl,trivial⟩
  ·repeat' (first|refine ZH ?_|refine ZI ?_|refine ZK ?_|refine ZG ?_|refine ZM ?_|refine ZJ ?_|refine ZN ?_|refine ZP (fun b=>?_)|refine ZO (fun b=>?_)|refine ZA ?_|refine ZB ?_|refine ZX ?_|refine ZY ?_|refine Zf ?_|refine Za ?_|refine Zb ?_|refine Zc (fun b=>?_)|refine Zd (fun b=>?_)|refine Ze ?_|refine ZZ ?_|(refine ZC (fun hc=>?_) (fun hc=>?_)<;>(try simp at hc)<;>(try omega))|(refine ZQ (fun hc=>?_) (fun hc=>?_)<;>(try simp at hc)<;>(try omega))|refine ZD 1 [] [(0,0),(1,0),(2,0),(3,0),(4,0),(5,0),(6,0),(7,0),(8,0),(9,0),(10,0),(11,0),(12,0),(13,4),(14,0)] [15] ?_|refine ZD 3 [] [(0,0),(1,0),(2,0),(3,0),(4,0),(5,0),(6,0),(7,0),(8,0),(9,0),(10,0),(11,0),(12,0),(13,4),(14,0),(15,0)] [] ?_|refine ZD 5 [] [(0,0),(1,0),(2,0),(3,0),(4,0),(5,0),(6,0),(7,0),(8,0),(9,0),(10,0),(11,0),(12,0),(13,4),(14,0),(15,0),(16,0)] [] ?_|refine ZD 8 [] [(0,0),(1,0),(2,0),(3,0),(4,0),(5,0),(6,0),(7,0),(8,0),(9,0),(10,0),(11,0),(12,0),(13,4),(14,0)] [15] ?_|refine ZD 10 [] [(0,0),(1,0),(2,0),(3,0),(4,0),(5,0),(6,0),(7,0),(8,0),(9,0),(10,0),(11,0),(12,0),(13,4),(14,0)] [15] ?_|refine ZD 13 [] [(0,0),(1,0),(2,0),(3,0),(4,0),(5,0),(6,0),(7,0),(8,0),(9,0),(10,0),(11,0),(12,0),(13,4),(14,0),(15,0)] [] ?_|refine ZD 15 [] [(0,0),(1,0),(2,0),(3,0),(4,0),(5,0),(6,0),(7,0),(8,0),(9,0),(10,0),(11,0),(12,0),(13,4),(14,0),(15,0),(16,0)] [] ?_|refine ZD 18 [] [(0,0),(1,0),(2,0),(3,0),(4,0),(5,0),(6,0),(7,0),(8,0),(9,0),(10,0),(11,0),(12,0),(13,4),(14,0)] [15] ?_|refine ZD 21 [] [(0,0),(1,0),(2,0),(3,0),(4,0),(5,0),(6,0),(7,0),(8,0),(9,0),(10,0),(11,0),(12,0),(13,4),(14,0)] [15] ?_|(refine ZF (fun hc=>?_) (fun hc=>?_)<;>(try simp at hc)<;>(try omega)))
   exact Yg hx ⟨i,by omega,hp,fun h=>absurd h hij⟩ ⟨rfl,rfl,rfl,rfl,rfl,trivial⟩
 rintro ⟨i,hi0,hp0,hAi⟩
 dsimp only at hi0 hp0 hAi ⊢
 refine WM (Y:={j:Nat // j≤jz∧Pin (fun x=>c x P<0) a bb i j P l m∧(i≤j→(fun x=>c x P<0) (gt m j))}) (X:={j:Nat // j≤jz∧Pin (fun x=>c x P<0) a bb i j P l m}) (fun j=>[(0,.slice (some ⟨bk,0,none⟩) n cap),(1,.int .i64 (a:Int)),(4,.func (.func fv) #[] #[]),(12,.int .i64 ((i:Nat):Int)),(13,.int .i64 ((j.1:Nat):Int))]) (fun _=>[Fc]) (fun _=>[Ax 108 chf bk m q]) (fun j=>j.1) (fun j=>[(0,.slice (some ⟨bk,0,none⟩) n cap),(1,.int .i64 (a:Int)),(4,.func (.func fv) #[] #[]),(12,.int .i64 ((i:Nat):Int)),(13,.int .i64 ((j.1:Nat):Int))]) (fun _=>[Fc]) (fun _=>[Ax 108 chf bk m q]) ⟨jz,Nat.le_refl _,hp0⟩ ⟨rfl,rfl,rfl,rfl,rfl,trivial⟩ ?_ ?_
 rotate_left
 ·intro hx
  rintro ⟨j,hj0,hp⟩
  dsimp only at hj0 hp ⊢
  have k1:=hp.h1
  have k2:=hp.h2
  have k3:=hp.h3
  by_cases hij:i≤j
  ·have hi:i<n:=by omega
   have hj:j<n:=by omega
   have ha:a<n:=by omega
   have gi:m[i]? = some (gt m i):=ZR (by omega)
   have gj:m[j]? = some (gt m j):=ZR (by omega)
   have sp:=hcmp (gt m j) P (hUm _ (Z9 (by omega))) hUP
   by_cases hA:c (gt m j) P<0
   ·repeat' (first|refine ZH ?_|refine ZI ?_|refine ZK ?_|refine ZG ?_|refine ZM ?_|refine ZJ ?_|refine ZN ?_|refine ZP (fun b=>?_)|refine ZO (fun b=>?_)|refine ZA ?_|refine ZB ?_|refine ZX ?_|refine ZY ?_|refine Zf ?_|refine Za ?_|refine Zb ?_|refine Zc (fun b=>?_)|refine Zd (fun b=>?_)|refine Ze ?_|refine ZZ ?_|rw [wi i hi]|rw [wj j (by omega) hj]|refine Zk (m:=n) (j) hj ?_|refine l_ixW (m:=n) (j) hj ?_|refine Zk (m:=n) (a) ha ?_|refine l_ixW (m:=n) (a) ha ?_|refine Zl 7 (j) 0 gj ?_|refine Zn 7 (j) 0 gj ?_|refine Zl 7 (a) 0 ga ?_|refine Zn 7 (a) 0 ga ?_|refine Zv sp (fun _ _=>?_)|(refine ZC (fun hc=>?_) (fun hc=>?_)<;>(try simp at hc)<;>(try omega))|(refine ZQ (fun hc=>?_) (fun hc=>?_)<;>(try simp at hc)<;>(try omega))|refine ZD 1 [] [(0,0),(1,0),(2,0),(3,0),(4,0),(5,0),(6,0),(7,0),(8,0),(9,0),(10,0),(11,0),(12,0),(13,4),(14,0)] [15] ?_|refine ZD 3 [] [(0,0),(1,0),(2,0),(3,0),(4,0),(5,0),(6,0),(7,0),(8,0),(9,0),(10,0),(11,0),(12,0),(13,4),(14,0),(15,0)] [] ?_|refine ZD 5 [] [(0,0),(1,0),(2,0),(3,0),(4,0),(5,0),(6,0),(7,0),(8,0),(9,0),(10,0),(11,0),(12,0),(13,4),(14,0),(15,0),(16,0)] [] ?_|refine ZD 8 [] [(0,0),(1,0),(2,0),(3,0),(4,0),(5,0),(6,0),(7,0),(8,0),(9,0),(10,0),(11,0),(12,0),(13,4),(14,0)] [15] ?_|refine ZD 10 [] [(0,0),(1,0),(2,0),(3,0),(4,0),(5,0),(6,0),(7,0),(8,0),(9,0),(10,0),(11,0),(12,0),(13,4),(14,0)] [15] ?_|refine ZD 13 [] [(0,0),(1,0),(2,0),(3,0),(4,0),(5,0),(6,0),(7,0),(8,0),(9,0),(10,0),(11,0),(12,0),(13,4),(14,0),(15,0)] [] ?_|refine ZD 15 [] [(0,0),(1,0),(2,0),(3,0),(4,0),(5,0),(6,0),(7,0),(8,0),(9,0),(10,0),(11,0),(12,0),(13,4),(14,0),(15,0),(16,0)] [] ?_|refine ZD 18 [] [(0,0),(1,0),(2,0),(3,0),(4,0),(5,0),(6,0),(7,0),(8,0),(9,0),(10,0),(11,0),(12,0),(13,4),(14,0)] [15] ?_|refine ZD 21 [] [(0,0),(1,0),(2,0),(3,0),(4,0),(5,0),(6,0),(7,0),(8,0),(9,0),(10,0),(11,0),(12,0),(13,4),(14,0)] [15] ?_|(refine ZF (fun hc=>?_) (fun hc=>?_)<;>(try simp at hc)<;>(try omega)))
    exact Yg hx ⟨j,by omega,hp,fun _=>(hA)⟩ ⟨rfl,rfl,rfl,rfl,rfl,trivial⟩
   ·repeat' (first|refine ZH ?_|refine ZI ?_|refine ZK ?_|refine ZG ?_|refine ZM ?_|refine ZJ ?_|refine ZN ?_|refine ZP (fun b=>?_)|refine ZO (fun b=>?_)|refine ZA ?_|refine ZB ?_|refine ZX ?_|refine ZY ?_|refine Zf ?_|refine Za ?_|refine Zb ?_|refine Zc (fun b=>?_)|refine Zd (fun b=>?_)|refine Ze ?_|refine ZZ ?_|rw [wi i hi]|rw [wj j (by omega) hj]|refine Zk (m:=n) (j) hj ?_|refine l_ixW (m:=n) (j) hj ?_|refine Zk (m:=n) (a) ha ?_|refine l_ixW (m:=n) (a) ha ?_|refine Zl 7 (j) 0 gj ?_|refine Zn 7 (j) 0 gj ?_|refine Zl 7 (a) 0 ga ?_|refine Zn 7 (a) 0 ga ?_|refine Zv sp (fun _ _=>?_)|(refine ZC (fun hc=>?_) (fun hc=>?_)<;>(try simp at hc)<;>(try omega))|(refine ZQ (fun hc=>?_) (fun hc=>?_)<;>(try simp at hc)<;>(try omega))|refine ZD 1 [] [(0,0),(1,0),(2,0),(3,0),(4,0),(5,0),(6,0),(7,0),(8,0),(9,0),(10,0),(11,0),(12,0),(13,4),(14,0)] [15] ?_|refine ZD 3 [] [(0,0),(1,0),(2,0),(3,0),(4,0),(5,0),(6,0),(7,0),(8,0),(9,0),(10,0),(11,0),(12,0),(13,4),(14,0),(15,0)] [] ?_|refine ZD 5 [] [(0,0),(1,0),(2,0),(3,0),(4,0),(5,0),(6,0),(7,0),(8,0),(9,0),(10,0),(11,0),(12,0),(13,4),(14,0),(15,0),(16,0)] [] ?_|refine ZD 8 [] [(0,0),(1,0),(2,0),(3,0),(4,0),(5,0),(6,0),(7,0),(8,0),(9,0),(10,0),(11,0),(12,0),(13,4),(14,0)] [15] ?_|refine ZD 10 [] [(0,0),(1,0),(2,0),(3,0),(4,0),(5,0),(6,0),(7,0),(8,0),(9,0),(10,0),(11,0),(12,0),(13,4),(14,0)] [15] ?_|refine ZD 13 [] [(0,0),(1,0),(2,0),(3,0),(4,0),(5,0),(6,0),(7,0),(8,0),(9,0),(10,0),(11,0),(12,0),(13,4),(14,0),(15,0)] [] ?_|refine ZD 15 [] [(0,0),(1,0),(2,0),(3,0),(4,0),(5,0),(6,0),(7,0),(8,0),(9,0),(10,0),(11,0),(12,0),(13,4),(14,0),(15,0),(16,0)] [] ?_|refine ZD 18 [] [(0,0),(1,0),(2,0),(3,0),(4,0),(5,0),(6,0),(7,0),(8,0),(9,0),(10,0),(11,0),(12,0),(13,4),(14,0)] [15] ?_|refine ZD 21 [] [(0,0),(1,0),(2,0),(3,0),(4,0),(5,0),(6,0),(7,0),(8,0),(9,0),(10,0),(11,0),(12,0),(13,4),(14,0)] [15] ?_|(refine ZF (fun hc=>?_) (fun hc=>?_)<;>(try simp at hc)<;>(try omega)))
    exact Zi ⟨j - 1,by omega,hp.jj hij (hA)⟩ (by show j - 1<j;omega) ⟨rfl,rfl,rfl,rfl,rfl,trivial⟩
  ·repeat' (first|refine ZH ?_|refine ZI ?_|refine ZK ?_|refine ZG ?_|refine ZM ?_|refine ZJ ?_|refine ZN ?_|refine ZP (fun b=>?_)|refine ZO (fun b=>?_)|refine ZA ?_|refine ZB ?_|refine ZX ?_|refine ZY ?_|refine Zf ?_|refine Za ?_|refine Zb ?_|refine Zc (fun b=>?_)|refine Zd (fun b=>?_)|refine Ze ?_|refine ZZ ?_|(refine ZC (fun hc=>?_) (fun hc=>?_)<;>(try simp at hc)<;>(try omega))|(refine ZQ (fun hc=>?_) (fun hc=>?_)<;>(try simp at hc)<;>(try omega))|refine ZD 1 [] [(0,0),(1,0),(2,0),(3,0),(4,0),(5,0),(6,0),(7,0),(8,0),(9,0),(10,0),(11,0),(12,0),(13,4),(14,0)] [15] ?_|refine ZD 3 [] [(0,0),(1,0),(2,0),(3,0),(4,0),(5,0),(6,0),(7,0),(8,0),(9,0),(10,0),(11,0),(12,0),(13,4),(14,0),(15,0)] [] ?_|refine ZD 5 [] [(0,0),(1,0),(2,0),(3,0),(4,0),(5,0),(6,0),(7,0),(8,0),(9,0),(10,0),(11,0),(12,0),(13,4),(14,0),(15,0),(16,0)] [] ?_|refine ZD 8 [] [(0,0),(1,0),(2,0),(3,0),(4,0),(5,0),(6,0),(7,0),(8,0),(9,0),(10,0),(11,0),(12,0),(13,4),(14,0)] [15] ?_|refine ZD 10 [] [(0,0),(1,0),(2,0),(3,0),(4,0),(5,0),(6,0),(7,0),(8,0),(9,0),(10,0),(11,0),(12,0),(13,4),(14,0)] [15] ?_|refine ZD 13 [] [(0,0),(1,0),(2,0),(3,0),(4,0),(5,0),(6,0),(7,0),(8,0),(9,0),(10,0),(11,0),(12,0),(13,4),(14,0),(15,0)] [] ?_|refine ZD 15 [] [(0,0),(1,0),(2,0),(3,0),(4,0),(5,0),(6,0),(7,0),(8,0),(9,0),(10,0),(11,0),(12,0),(13,4),(14,0),(15,0),(16,0)] [] ?_|refine ZD 18 [] [(0,0),(1,0),(2,0),(3,0),(4,0),(5,0),(6,0),(7,0),(8,0),(9,0),(10,0),(11,0),(12,0),(13,4),(14,0)] [15] ?_|refine ZD 21 [] [(0,0),(1,0),(2,0),(3,0),(4,0),(5,0),(6,0),(7,0),(8,0),(9,0),(10,0),(11,0),(12,0),(13,4),(14,0)] [15] ?_|(refine ZF (fun hc=>?_) (fun hc=>?_)<;>(try simp at hc)<;>(try omega)))
   exact Yg hx ⟨j,by omega,hp,fun h=>absurd h hij⟩ ⟨rfl,rfl,rfl,rfl,rfl,trivial⟩
 rintro ⟨j,hj0,hp,hAj⟩
 dsimp only at hj0 hp hAj ⊢
 have k1:=hp.h1
 have k2:=hp.h2
 have k3:=hp.h3
 have hj:j<n:=by omega
 have kj:j<m.length:=by omega
 have hqm:AxOK (m.length * 7) q:=by rw [hm,←hn];exact hq
 have hqm2:∀k y,AxOK ((m.set k y).length * 7) q:=fun k y=>by rw [List.length_set];exact hqm
 by_cases hij:i≤j
 ·have hij2:=hp.ne hij (hAi (by omega)) (hAj hij)
  have hi:i<n:=by omega
  have ki:i<m.length:=by omega
  have kj2:j<(m.set i (gt m j)).length:=by rw [List.length_set];exact kj
  repeat' (first|refine ZH ?_|refine ZI ?_|refine ZK ?_|refine ZG ?_|refine ZM ?_|refine ZJ ?_|refine ZN ?_|refine ZP (fun b=>?_)|refine ZO (fun b=>?_)|refine ZA ?_|refine ZB ?_|refine ZX ?_|refine ZY ?_|refine Zf ?_|refine Za ?_|refine Zb ?_|refine Zc (fun b=>?_)|refine Zd (fun b=>?_)|refine Ze ?_|refine ZZ ?_|rw [wi i hi]|rw [wj j (by omega) hj]|refine Zk (m:=n) (i) hi ?_|refine l_ixW (m:=n) (i) hi ?_|refine Zk (m:=n) (j) hj ?_|refine l_ixW (m:=n) (j) hj ?_|refine Zp 7 (i) 0 (ZR ki) ?_|refine Zp 7 (j) 0 (ZR kj) ?_|refine Yp 7 (i) 0 (gt m (j)) (ZR ki) hqm ?_|refine Z3 7 (i) 0 (gt m (j)) (ZR ki) hqm ?_|refine Z3 7 (j) 0 (gt m (i)) (ZR kj2) (hqm2 _ _) ?_|refine r_up ?_|(refine ZC (fun hc=>?_) (fun hc=>?_)<;>(try simp at hc)<;>(try omega))|(refine ZQ (fun hc=>?_) (fun hc=>?_)<;>(try simp at hc)<;>(try omega))|refine ZD 1 [] [(0,0),(1,0),(2,0),(3,0),(4,0),(5,0),(6,0),(7,0),(8,0),(9,0),(10,0),(11,0),(12,0),(13,4),(14,0)] [15] ?_|refine ZD 3 [] [(0,0),(1,0),(2,0),(3,0),(4,0),(5,0),(6,0),(7,0),(8,0),(9,0),(10,0),(11,0),(12,0),(13,4),(14,0),(15,0)] [] ?_|refine ZD 5 [] [(0,0),(1,0),(2,0),(3,0),(4,0),(5,0),(6,0),(7,0),(8,0),(9,0),(10,0),(11,0),(12,0),(13,4),(14,0),(15,0),(16,0)] [] ?_|refine ZD 10 [Ax _ _ _ _ _] [(0,0),(1,0),(2,0),(3,0),(4,0),(5,0),(6,0),(8,0),(9,0),(10,0),(7,3),(11,3),(12,0),(13,4),(14,0)] [15] ?_|(refine ZF (fun hc=>?_) (fun hc=>?_)<;>(try simp at hc)<;>(try omega)))
  refine YT (X:={t:Nat×Nat×List Ch // Pin (fun x=>c x P<0) a bb t.1 t.2.1 P l t.2.2}) (fun t=>[(0,.slice (some ⟨bk,0,none⟩) n cap),(1,.int .i64 (a:Int)),(4,.func (.func fv) #[] #[]),(12,.int .i64 (t.1.1:Int)),(13,.int .i64 (t.1.2.1:Int))]) (fun _=>[Fc]) (fun t=>[Ax 108 chf bk t.1.2.2 q]) (fun t=>t.1.2.1+1 - t.1.1) ⟨(i+1,j - 1,sw m i j),hp.sw (by omega) hij2 (hAi (by omega)) (hAj hij)⟩ ⟨rfl,rfl,rfl,rfl,rfl,trivial⟩ ?_
  clear hc hin ga hUm hi0 hp0 hAi hj0 hp hAj k1 k2 k3 hj kj hqm hqm2 hij hij2 hi ki kj2 hm hjz
  clear i j m jz
  rintro ⟨⟨i0,j0,m⟩,hin⟩
  dsimp only at hin ⊢
  have q1:=hin.h1
  have q2:=hin.h2
  have q3:=hin.h3
  repeat' (first|refine ZH ?_|refine ZI ?_|refine ZK ?_|refine ZG ?_|refine ZM ?_|refine ZJ ?_|refine ZN ?_|refine ZP (fun b=>?_)|refine ZO (fun b=>?_)|refine ZA ?_|refine ZB ?_|(refine ZC (fun hc=>?_) (fun hc=>?_)<;>(try simp at hc))|(refine ZF (fun hc=>?_) (fun hc=>?_)<;>(try simp at hc)))
  obtain ⟨jz,hjz⟩:∃jz,jz=j0:=⟨_,rfl⟩
  rw [←hjz] at hin
  have hm:=hin.w.len
  have ga:m[a]? = some P:=by rw [←hin.pa];exact ZR (by omega)
  have hUm:=hin.w.sub hU
  refine WM (Y:={i:Nat // i0≤i∧Pin (fun x=>c x P<0) a bb i jz P l m∧(i≤jz→¬(fun x=>c x P<0) (gt m i))}) (X:={i:Nat // i0≤i∧Pin (fun x=>c x P<0) a bb i jz P l m}) (fun i=>[(0,.slice (some ⟨bk,0,none⟩) n cap),(1,.int .i64 (a:Int)),(4,.func (.func fv) #[] #[]),(12,.int .i64 ((i.1:Nat):Int)),(13,.int .i64 ((jz:Nat):Int))]) (fun _=>[Fc]) (fun _=>[Ax 108 chf bk m q]) (fun i=>bb+1 - i.1) (fun i=>[(0,.slice (some ⟨bk,0,none⟩) n cap),(1,.int .i64 (a:Int)),(4,.func (.func fv) #[] #[]),(12,.int .i64 ((i.1:Nat):Int)),(13,.int .i64 ((jz:Nat):Int))]) (fun _=>[Fc]) (fun _=>[Ax 108 chf bk m q]) ⟨i0,Nat.le_refl _,hin⟩ ⟨rfl,rfl,rfl,rfl,(by show look _ _=some (Value.int .i64 ((jz:Nat):Int));rw [hjz];rfl),trivial⟩ ?_ ?_
  rotate_left
  ·intro hx
   rintro ⟨i,hi0,hp⟩
   dsimp only at hi0 hp ⊢
   have k1:=hp.h1
   have k2:=hp.h2
   have k3:=hp.h3
   generalize jz=j at *
   by_cases hij:i≤j
   ·have hi:i<n:=by omega
    have hj:j<n:=by omega
    have ha:a<n:=by omega
    have gi:m[i]? = some (gt m i):=ZR (by omega)
    have gj:m[j]? = some (gt m j):=ZR (by omega)
    have sp:=hcmp (gt m i) P (hUm _ (Z9 (by omega))) hUP
    by_cases hA:c (gt m i) P<0
    ·repeat' (first|refine ZH ?_|refine ZI ?_|refine ZK ?_|refine ZG ?_|refine ZM ?_|refine ZJ ?_|refine ZN ?_|refine ZP (fun b=>?_)|refine ZO (fun b=>?_)|refine ZA ?_|refine ZB ?_|refine ZX ?_|refine ZY ?_|refine Zf ?_|refine Za ?_|refine Zb ?_|refine Zc (fun b=>?_)|refine Zd (fun b=>?_)|refine Ze ?_|refine ZZ ?_|rw [wi i hi]|rw [wj j (by omega) hj]|refine Zk (m:=n) (i) hi ?_|refine l_ixW (m:=n) (i) hi ?_|refine Zk (m:=n) (a) ha ?_|refine l_ixW (m:=n) (a) ha ?_|refine Zl 7 (i) 0 gi ?_|refine Zn 7 (i) 0 gi ?_|refine Zl 7 (a) 0 ga ?_|refine Zn 7 (a) 0 ga ?_|refine Zv sp (fun _ _=>?_)|(refine ZC (fun hc=>?_) (fun hc=>?_)<;>(try simp at hc)<;>(try omega))|(refine ZQ (fun hc=>?_) (fun hc=>?_)<;>(try simp at hc)<;>(try omega))|refine ZD 1 [] [(0,0),(1,0),(2,0),(3,0),(4,0),(5,0),(6,0),(7,0),(8,0),(9,0),(10,0),(11,0),(12,0),(13,4),(14,0)] [15] ?_|refine ZD 3 [] [(0,0),(1,0),(2,0),(3,0),(4,0),(5,0),(6,0),(7,0),(8,0),(9,0),(10,0),(11,0),(12,0),(13,4),(14,0),(15,0)] [] ?_|refine ZD 5 [] [(0,0),(1,0),(2,0),(3,0),(4,0),(5,0),(6,0),(7,0),(8,0),(9,0),(10,0),(11,0),(12,0),(13,4),(14,0),(15,0),(16,0)] [] ?_|refine ZD 8 [] [(0,0),(1,0),(2,0),(3,0),(4,0),(5,0),(6,0),(7,0),(8,0),(9,0),(10,0),(11,0),(12,0),(13,4),(14,0)] [15] ?_|refine ZD 10 [] [(0,0),(1,0),(2,0),(3,0),(4,0),(5,0),(6,0),(7,0),(8,0),(9,0),(10,0),(11,0),(12,0),(13,4),(14,0)] [15] ?_|refine ZD 13 [] [(0,0),(1,0),(2,0),(3,0),(4,0),(5,0),(6,0),(7,0),(8,0),(9,0),(10,0),(11,0),(12,0),(13,4),(14,0),(15,0)] [] ?_|refine ZD 15 [] [(0,0),(1,0),(2,0),(3,0),(4,0),(5,0),(6,0),(7,0),(8,0),(9,0),(10,0),(11,0),(12,0),(13,4),(14,0),(15,0),(16,0)] [] ?_|refine ZD 18 [] [(0,0),(1,0),(2,0),(3,0),(4,0),(5,0),(6,0),(7,0),(8,0),(9,0),(10,0),(11,0),(12,0),(13,4),(14,0)] [15] ?_|refine ZD 21 [] [(0,0),(1,0),(2,0),(3,0),(4,0),(5,0),(6,0),(7,0),(8,0),(9,0),(10,0),(11,0),(12,0),(13,4),(14,0)] [15] ?_|(refine ZF (fun hc=>?_) (fun hc=>?_)<;>(try simp at hc)<;>(try omega)))
     exact Zi ⟨i+1,by omega,hp.ii hij (hA)⟩ (by show bb+1 - (i+1)<bb+1 - i;omega) ⟨rfl,rfl,rfl,rfl,rfl,trivial⟩
    ·repeat' (first|refine ZH ?_|refine ZI ?_|refine ZK ?_|refine ZG ?_|refine ZM ?_|refine ZJ ?_|refine ZN ?_|refine ZP (fun b=>?_)|refine ZO (fun b=>?_)|refine ZA ?_|refine ZB ?_|refine ZX ?_|refine ZY ?_|refine Zf ?_|refine Za ?_|refine Zb ?_|refine Zc (fun b=>?_)|refine Zd (fun b=>?_)|refine Ze ?_|refine ZZ ?_|rw [wi i hi]|rw [wj j (by omega) hj]|refine Zk (m:=n) (i) hi ?_|refine l_ixW (m:=n) (i) hi ?_|refine Zk (m:=n) (a) ha ?_|refine l_ixW (m:=n) (a) ha ?_|refine Zl 7 (i) 0 gi ?_|refine Zn 7 (i) 0 gi ?_|refine Zl 7 (a) 0 ga ?_|refine Zn 7 (a) 0 ga ?_|refine Zv sp (fun _ _=>?_)|(refine ZC (fun hc=>?_) (fun hc=>?_)<;>(try simp at hc)<;>(try omega))|(refine ZQ (fun hc=>?_) (fun hc=>?_)<;>(try simp at hc)<;>(try omega))|refine ZD 1 [] [(0,0),(1,0),(2,0),(3,0),(4,0),(5,0),(6,0),(7,0),(8,0),(9,0),(10,0),(11,0),(12,0),(13,4),(14,0)] [15] ?_|refine ZD 3 [] [(0,0),(1,0),(2,0),(3,0),(4,0),(5,0),(6,0),(7,0),(8,0),(9,0),(10,0),(11,0),(12,0),(13,4),(14,0),(15,0)] [] ?_|refine ZD 5 [] [(0,0),(1,0),(2,0),(3,0),(4,0),(5,0),(6,0),(7,0),(8,0),(9,0),(10,0),(11,0),(12,0),(13,4),(14,0),(15,0),(16,0)] [] ?_|refine ZD 8 [] [(0,0),(1,0),(2,0),(3,0),(4,0),(5,0),(6,0),(7,0),(8,0),(9,0),(10,0),(11,0),(12,0),(13,4),(14,0)] [15] ?_|refine ZD 10 [] [(0,0),(1,0),(2,0),(3,0),(4,0),(5,0),(6,0),(7,0),(8,0),(9,0),(10,0),(11,0),(12,0),(13,4),(14,0)] [15] ?_|refine ZD 13 [] [(0,0),(1,0),(2,0),(3,0),(4,0),(5,0),(6,0),(7,0),(8,0),(9,0),(10,0),(11,0),(12,0),(13,4),(14,0),(15,0)] [] ?_|refine ZD 15 [] [(0,0),(1,0),(2,0),(3,0),(4,0),(5,0),(6,0),(7,0),(8,0),(9,0),(10,0),(11,0),(12,0),(13,4),(14,0),(15,0),(16,0)] [] ?_|refine ZD 18 [] [(0,0),(1,0),(2,0),(3,0),(4,0),(5,0),(6,0),(7,0),(8,0),(9,0),(10,0),(11,0),(12,0),(13,4),(14,0)] [15] ?_|refine ZD 21 [] [(0,0),(1,0),(2,0),(3,0),(4,0),(5,0),(6,0),(7,0),(8,0),(9,0),(10,0),(11,0),(12,0),(13,4),(14,0)] [15] ?_|(refine ZF (fun hc=>?_) (fun hc=>?_)<;>(try simp at hc)<;>(try omega)))
     exact Yg hx ⟨i,by omega,hp,fun _=>(hA)⟩ ⟨rfl,rfl,rfl,rfl,rfl,trivial⟩
   ·repeat' (first|refine ZH ?_|refine ZI ?_|refine ZK ?_|refine ZG ?_|refine ZM ?_|refine ZJ ?_|refine ZN ?_|refine ZP (fun b=>?_)|refine ZO (fun b=>?_)|refine ZA ?_|refine ZB ?_|refine ZX ?_|refine ZY ?_|refine Zf ?_|refine Za ?_|refine Zb ?_|refine Zc (fun b=>?_)|refine Zd (fun b=>?_)|refine Ze ?_|refine ZZ ?_|(refine ZC (fun hc=>?_) (fun hc=>?_)<;>(try simp at hc)<;>(try omega))|(refine ZQ (fun hc=>?_) (fun hc=>?_)<;>(try simp at hc)<;>(try omega))|refine ZD 1 [] [(0,0),(1,0),(2,0),(3,0),(4,0),(5,0),(6,0),(7,0),(8,0),(9,0),(10,0),(11,0),(12,0),(13,4),(14,0)] [15] ?_|refine ZD 3 [] [(0,0),(1,0),(2,0),(3,0),(4,0),(5,0),(6,0),(7,0),(8,0),(9,0),(10,0),(11,0),(12,0),(13,4),(14,0),(15,0)] [] ?_|refine ZD 5 [] [(0,0),(1,0),(2,0),(3,0),(4,0),(5,0),(6,0),(7,0),(8,0),(9,0),(10,0),(11,0),(12,0),(13,4),(14,0),(15,0),(16,0)] [] ?_|refine ZD 8 [] [(0,0),(1,0),(2,0),(3,0),(4,0),(5,0),(6,0),(7,0),(8,0),(9,0),(10,0),(11,0),(12,0),(13,4),(14,0)] [15] ?_|refine ZD 10 [] [(0,0),(1,0),(2,0),(3,0),(4,0),(5,0),(6,0),(7,0),(8,0),(9,0),(10,0),(11,0),(12,0),(13,4),(14,0)] [15] ?_|refine ZD 13 [] [(0,0),(1,0),(2,0),(3,0),(4,0),(5,0),(6,0),(7,0),(8,0),(9,0),(10,0),(11,0),(12,0),(13,4),(14,0),(15,0)] [] ?_|refine ZD 15 [] [(0,0),(1,0),(2,0),(3,0),(4,0),(5,0),(6,0),(7,0),(8,0),(9,0),(10,0),(11,0),(12,0),(13,4),(14,0),(15,0),(16,0)] [] ?_|refine ZD 18 [] [(0,0),(1,0),(2,0),(3,0),(4,0),(5,0),(6,0),(7,0),(8,0),(9,0),(10,0),(11,0),(12,0),(13,4),(14,0)] [15] ?_|refine ZD 21 [] [(0,0),(1,0),(2,0),(3,0),(4,0),(5,0),(6,0),(7,0),(8,0),(9,0),(10,0),(11,0),(12,0),(13,4),(14,0)] [15] ?_|(refine ZF (fun hc=>?_) (fun hc=>?_)<;>(try simp at hc)<;>(try omega)))
    exact Yg hx ⟨i,by omega,hp,fun h=>absurd h hij⟩ ⟨rfl,rfl,rfl,rfl,rfl,trivial⟩
  rintro ⟨i,hi0,hp0,hAi⟩
  dsimp only at hi0 hp0 hAi ⊢
  refine WM (Y:={j:Nat // j≤jz∧Pin (fun x=>c x P<0) a bb i j P l m∧(i≤j→(fun x=>c x P<0) (gt m j))}) (X:={j:Nat // j≤jz∧Pin (fun x=>c x P<0) a bb i j P l m}) (fun j=>[(0,.slice (some ⟨bk,0,none⟩) n cap),(1,.int .i64 (a:Int)),(4,.func (.func fv) #[] #[]),(12,.int .i64 ((i:Nat):Int)),(13,.int .i64 ((j.1:Nat):Int))]) (fun _=>[Fc]) (fun _=>[Ax 108 chf bk m q]) (fun j=>j.1) (fun j=>[(0,.slice (some ⟨bk,0,none⟩) n cap),(1,.int .i64 (a:Int)),(4,.func (.func fv) #[] #[]),(12,.int .i64 ((i:Nat):Int)),(13,.int .i64 ((j.1:Nat):Int))]) (fun _=>[Fc]) (fun _=>[Ax 108 chf bk m q]) ⟨jz,Nat.le_refl _,hp0⟩ ⟨rfl,rfl,rfl,rfl,rfl,trivial⟩ ?_ ?_
  rotate_left
  ·intro hx
   rintro ⟨j,hj0,hp⟩
   dsimp only at hj0 hp ⊢
   have k1:=hp.h1
   have k2:=hp.h2
   have k3:=hp.h3
   by_cases hij:i≤j
   ·have hi:i<n:=by omega
    have hj:j<n:=by omega
    have ha:a<n:=by omega
    have gi:m[i]? = some (gt m i):=ZR (by omega)
    have gj:m[j]? = some (gt m j):=ZR (by omega)
    have sp:=hcmp (gt m j) P (hUm _ (Z9 (by omega))) hUP
    by_cases hA:c (gt m j) P<0
    ·repeat' (first|refine ZH ?_|refine ZI ?_|refine ZK ?_|refine ZG ?_|refine ZM ?_|refine ZJ ?_|refine ZN ?_|refine ZP (fun b=>?_)|refine ZO (fun b=>?_)|refine ZA ?_|refine ZB ?_|refine ZX ?_|refine ZY ?_|refine Zf ?_|refine Za ?_|refine Zb ?_|refine Zc (fun b=>?_)|refine Zd (fun b=>?_)|refine Ze ?_|refine ZZ ?_|rw [wi i hi]|rw [wj j (by omega) hj]|refine Zk (m:=n) (j) hj ?_|refine l_ixW (m:=n) (j) hj ?_|refine Zk (m:=n) (a) ha ?_|refine l_ixW (m:=n) (a) ha ?_|refine Zl 7 (j) 0 gj ?_|refine Zn 7 (j) 0 gj ?_|refine Zl 7 (a) 0 ga ?_|refine Zn 7 (a) 0 ga ?_|refine Zv sp (fun _ _=>?_)|(refine ZC (fun hc=>?_) (fun hc=>?_)<;>(try simp at hc)<;>(try omega))|(refine ZQ (fun hc=>?_) (fun hc=>?_)<;>(try simp at hc)<;>(try omega))|refine ZD 1 [] [(0,0),(1,0),(2,0),(3,0),(4,0),(5,0),(6,0),(7,0),(8,0),(9,0),(10,0),(11,0),(12,0),(13,4),(14,0)] [15] ?_|refine ZD 3 [] [(0,0),(1,0),(2,0),(3,0),(4,0),(5,0),(6,0),(7,0),(8,0),(9,0),(10,0),(11,0),(12,0),(13,4),(14,0),(15,0)] [] ?_|refine ZD 5 [] [(0,0),(1,0),(2,0),(3,0),(4,0),(5,0),(6,0),(7,0),(8,0),(9,0),(10,0),(11,0),(12,0),(13,4),(14,0),(15,0),(16,0)] [] ?_|refine ZD 8 [] [(0,0),(1,0),(2,0),(3,0),(4,0),(5,0),(6,0),(7,0),(8,0),(9,0),(10,0),(11,0),(12,0),(13,4),(14,0)] [15] ?_|refine ZD 10 [] [(0,0),(1,0),(2,0),(3,0),(4,0),(5,0),(6,0),(7,0),(8,0),(9,0),(10,0),(11,0),(12,0),(13,4),(14,0)] [15] ?_|refine ZD 13 [] [(0,0),(1,0),(2,0),(3,0),(4,0),(5,0),(6,0),(7,0),(8,0),(9,0),(10,0),(11,0),(12,0),(13,4),(14,0),(15,0)] [] ?_|refine ZD 15 [] [(0,0),(1,0),(2,0),(3,0),(4,0),(5,0),(6,0),(7,0),(8,0),(9,0),(10,0),(11,0),(12,0),(13,4),(14,0),(15,0),(16,0)] [] ?_|refine ZD 18 [] [(0,0),(1,0),(2,0),(3,0),(4,0),(5,0),(6,0),(7,0),(8,0),(9,0),(10,0),(11,0),(12,0),(13,4),(14,0)] [15] ?_|refine ZD 21 [] [(0,0),(1,0),(2,0),(3,0),(4,0),(5,0),(6,0),(7,0),(8,0),(9,0),(10,0),(11,0),(12,0),(13,4),(14,0)] [15] ?_|(refine ZF (fun hc=>?_) (fun hc=>?_)<;>(try simp at hc)<;>(try omega)))
     exact Yg hx ⟨j,by omega,hp,fun _=>(hA)⟩ ⟨rfl,rfl,rfl,rfl,rfl,trivial⟩
    ·repeat' (first|refine ZH ?_|refine ZI ?_|refine ZK ?_|refine ZG ?_|refine ZM ?_|refine ZJ ?_|refine ZN ?_|refine ZP (fun b=>?_)|refine ZO (fun b=>?_)|refine ZA ?_|refine ZB ?_|refine ZX ?_|refine ZY ?_|refine Zf ?_|refine Za ?_|refine Zb ?_|refine Zc (fun b=>?_)|refine Zd (fun b=>?_)|refine Ze ?_|refine ZZ ?_|rw [wi i hi]|rw [wj j (by omega) hj]|refine Zk (m:=n) (j) hj ?_|refine l_ixW (m:=n) (j) hj ?_|refine Zk (m:=n) (a) ha ?_|refine l_ixW (m:=n) (a) ha ?_|refine Zl 7 (j) 0 gj ?_|refine Zn 7 (j) 0 gj ?_|refine Zl 7 (a) 0 ga ?_|refine Zn 7 (a) 0 ga ?_|refine Zv sp (fun _ _=>?_)|(refine ZC (fun hc=>?_) (fun hc=>?_)<;>(try simp at hc)<;>(try omega))|(refine ZQ (fun hc=>?_) (fun hc=>?_)<;>(try simp at hc)<;>(try omega))|refine ZD 1 [] [(0,0),(1,0),(2,0),(3,0),(4,0),(5,0),(6,0),(7,0),(8,0),(9,0),(10,0),(11,0),(12,0),(13,4),(14,0)] [15] ?_|refine ZD 3 [] [(0,0),(1,0),(2,0),(3,0),(4,0),(5,0),(6,0),(7,0),(8,0),(9,0),(10,0),(11,0),(12,0),(13,4),(14,0),(15,0)] [] ?_|refine ZD 5 [] [(0,0),(1,0),(2,0),(3,0),(4,0),(5,0),(6,0),(7,0),(8,0),(9,0),(10,0),(11,0),(12,0),(13,4),(14,0),(15,0),(16,0)] [] ?_|refine ZD 8 [] [(0,0),(1,0),(2,0),(3,0),(4,0),(5,0),(6,0),(7,0),(8,0),(9,0),(10,0),(11,0),(12,0),(13,4),(14,0)] [15] ?_|refine ZD 10 [] [(0,0),(1,0),(2,0),(3,0),(4,0),(5,0),(6,0),(7,0),(8,0),(9,0),(10,0),(11,0),(12,0),(13,4),(14,0)] [15] ?_|refine ZD 13 [] [(0,0),(1,0),(2,0),(3,0),(4,0),(5,0),(6,0),(7,0),(8,0),(9,0),(10,0),(11,0),(12,0),(13,4),(14,0),(15,0)] [] ?_|refine ZD 15 [] [(0,0),(1,0),(2,0),(3,0),(4,0),(5,0),(6,0),(7,0),(8,0),(9,0),(10,0),(11,0),(12,0),(13,4),(14,0),(15,0),(16,0)] [] ?_|refine ZD 18 [] [(0,0),(1,0),(2,0),(3,0),(4,0),(5,0),(6,0),(7,0),(8,0),(9,0),(10,0),(11,0),(12,0),(13,4),(14,0)] [15] ?_|refine ZD 21 [] [(0,0),(1,0),(2,0),(3,0),(4,0),(5,0),(6,0),(7,0),(8,0),(9,0),(10,0),(11,0),(12,0),(13,4),(14,0)] [15] ?_|(refine ZF (fun hc=>?_) (fun hc=>?_)<;>(try simp at hc)<;>(try omega)))
     exact Zi ⟨j - 1,by omega,hp.jj hij (hA)⟩ (by show j - 1<j;omega) ⟨rfl,rfl,rfl,rfl,rfl,trivial⟩
   ·repeat' (first|refine ZH ?_|refine ZI ?_|refine ZK ?_|refine ZG ?_|refine ZM ?_|refine ZJ ?_|refine ZN ?_|refine ZP (fun b=>?_)|refine ZO (fun b=>?_)|refine ZA ?_|refine ZB ?_|refine ZX ?_|refine ZY ?_|refine Zf ?_|refine Za ?_|refine Zb ?_|refine Zc (fun b=>?_)|refine Zd (fun b=>?_)|refine Ze ?_|refine ZZ ?_|(refine ZC (fun hc=>?_) (fun hc=>?_)<;>(try simp at hc)<;>(try omega))|(refine ZQ (fun hc=>?_) (fun hc=>?_)<;>(try simp at hc)<;>(try omega))|refine ZD 1 [] [(0,0),(1,0),(2,0),(3,0),(4,0),(5,0),(6,0),(7,0),(8,0),(9,0),(10,0),(11,0),(12,0),(13,4),(14,0)] [15] ?_|refine ZD 3 [] [(0,0),(1,0),(2,0),(3,0),(4,0),(5,0),(6,0),(7,0),(8,0),(9,0),(10,0),(11,0),(12,0),(13,4),(14,0),(15,0)] [] ?_|refine ZD 5 [] [(0,0),(1,0),(2,0),(3,0),(4,0),(5,0),(6,0),(7,0),(8,0),(9,0),(10,0),(11,0),(12,0),(13,4),(14,0),(15,0),(16,0)] [] ?_|refine ZD 8 [] [(0,0),(1,0),(2,0),(3,0),(4,0),(5,0),(6,0),(7,0),(8,0),(9,0),(10,0),(11,0),(12,0),(13,4),(14,0)] [15] ?_|refine ZD 10 [] [(0,0),(1,0),(2,0),(3,0),(4,0),(5,0),(6,0),(7,0),(8,0),(9,0),(10,0),(11,0),(12,0),(13,4),(14,0)] [15] ?_|refine ZD 13 [] [(0,0),(1,0),(2,0),(3,0),(4,0),(5,0),(6,0),(7,0),(8,0),(9,0),(10,0),(11,0),(12,0),(13,4),(14,0),(15,0)] [] ?_|refine ZD 15 [] [(0,0),(1,0),(2,0),(3,0),(4,0),(5,0),(6,0),(7,0),(8,0),(9,0),(10,0),(11,0),(12,0),(13,4),(14,0),(15,0),(16,0)] [] ?_|refine ZD 18 [] [(0,0),(1,0),(2,0),(3,0),(4,0),(5,0),(6,0),(7,0),(8,0),(9,0),(10,0),(11,0),(12,0),(13,4),(14,0)] [15] ?_|refine ZD 21 [] [(0,0),(1,0),(2,0),(3,0),(4,0),(5,0),(6,0),(7,0),(8,0),(9,0),(10,0),(11,0),(12,0),(13,4),(14,0)] [15] ?_|(refine ZF (fun hc=>?_) (fun hc=>?_)<;>(try simp at hc)<;>(try omega)))
    exact Yg hx ⟨j,by omega,hp,fun h=>absurd h hij⟩ ⟨rfl,rfl,rfl,rfl,rfl,trivial⟩
  rintro ⟨j,hj0,hp,hAj⟩
  dsimp only at hj0 hp hAj ⊢
  have k1:=hp.h1
  have k2:=hp.h2
  have k3:=hp.h3
  have hj:j<n:=by omega
  have kj:j<m.length:=by omega
  have hqm:AxOK (m.length * 7) q:=by rw [hm,←hn];exact hq
  have hqm2:∀k y,AxOK ((m.set k y).length * 7) q:=fun k y=>by rw [List.length_set];exact hqm
  by_cases hij:i≤j
  ·have hij2:=hp.ne hij (hAi (by omega)) (hAj hij)
   have hi:i<n:=by omega
   have ki:i<m.length:=by omega
   have kj2:j<(m.set i (gt m j)).length:=by rw [List.length_set];exact kj
   repeat' (first|refine ZH ?_|refine ZI ?_|refine ZK ?_|refine ZG ?_|refine ZM ?_|refine ZJ ?_|refine ZN ?_|refine ZP (fun b=>?_)|refine ZO (fun b=>?_)|refine ZA ?_|refine ZB ?_|refine ZX ?_|refine ZY ?_|refine Zf ?_|refine Za ?_|refine Zb ?_|refine Zc (fun b=>?_)|refine Zd (fun b=>?_)|refine Ze ?_|refine ZZ ?_|rw [wi i hi]|rw [wj j (by omega) hj]|refine Zk (m:=n) (i) hi ?_|refine l_ixW (m:=n) (i) hi ?_|refine Zk (m:=n) (j) hj ?_|refine l_ixW (m:=n) (j) hj ?_|refine Zp 7 (i) 0 (ZR ki) ?_|refine Zp 7 (j) 0 (ZR kj) ?_|refine Yp 7 (i) 0 (gt m (j)) (ZR ki) hqm ?_|refine Z3 7 (i) 0 (gt m (j)) (ZR ki) hqm ?_|refine Z3 7 (j) 0 (gt m (i)) (ZR kj2) (hqm2 _ _) ?_|refine r_up ?_|(refine ZC (fun hc=>?_) (fun hc=>?_)<;>(try simp at hc)<;>(try omega))|(refine ZQ (fun hc=>?_) (fun hc=>?_)<;>(try simp at hc)<;>(try omega))|refine ZD 1 [] [(0,0),(1,0),(2,0),(3,0),(4,0),(5,0),(6,0),(7,0),(8,0),(9,0),(10,0),(11,0),(12,0),(13,4),(14,0)] [15] ?_|refine ZD 3 [] [(0,0),(1,0),(2,0),(3,0),(4,0),(5,0),(6,0),(7,0),(8,0),(9,0),(10,0),(11,0),(12,0),(13,4),(14,0),(15,0)] [] ?_|refine ZD 5 [] [(0,0),(1,0),(2,0),(3,0),(4,0),(5,0),(6,0),(7,0),(8,0),(9,0),(10,0),(11,0),(12,0),(13,4),(14,0),(15,0),(16,0)] [] ?_|refine ZD 8 [] [(0,0),(1,0),(2,0),(3,0),(4,0),(5,0),(6,0),(7,0),(8,0),(9,0),(10,0),(11,0),(12,0),(13,4),(14,0)] [15] ?_|refine ZD 10 [] [(0,0),(1,0),(2,0),(3,0),(4,0),(5,0),(6,0),(7,0),(8,0),(9,0),(10,0),(11,0),(12,0),(13,4),(14,0)] [15] ?_|refine ZD 13 [] [(0,0),(1,0),(2,0),(3,0),(4,0),(5,0),(6,0),(7,0),(8,0),(9,0),(10,0),(11,0),(12,0),(13,4),(14,0),(15,0)] [] ?_|refine ZD 15 [] [(0,0),(1,0),(2,0),(3,0),(4,0),(5,0),(6,0),(7,0),(8,0),(9,0),(10,0),(11,0),(12,0),(13,4),(14,0),(15,0),(16,0)] [] ?_|refine ZD 18 [Ax _ _ _ _ _] [(0,0),(1,0),(2,0),(3,0),(4,0),(5,0),(6,0),(8,0),(9,0),(10,0),(7,3),(11,3),(12,0),(13,4),(14,0)] [15] ?_|(refine ZF (fun hc=>?_) (fun hc=>?_)<;>(try simp at hc)<;>(try omega)))
   exact Zi ⟨(i+1,j - 1,sw m i j),hp.sw (by omega) hij2 (hAi (by omega)) (hAj hij)⟩ (by show j - 1+1 - (i+1)<j0+1 - i0;omega) ⟨rfl,rfl,rfl,rfl,rfl,trivial⟩
  ·obtain ⟨f1,f2⟩:=hp.part (by omega) (by omega)
   have ka:a<m.length:=by omega
   have ka2:a<(m.set j (gt m a)).length:=by rw [List.length_set];exact ka
   repeat' (first|refine ZH ?_|refine ZI ?_|refine ZK ?_|refine ZG ?_|refine ZM ?_|refine ZJ ?_|refine ZN ?_|refine ZP (fun b=>?_)|refine ZO (fun b=>?_)|refine ZA ?_|refine ZB ?_|refine ZL ?_|refine ZX ?_|refine ZY ?_|refine Zf ?_|refine Za ?_|refine Zb ?_|refine Zc (fun b=>?_)|refine Zd (fun b=>?_)|refine Ze ?_|refine ZZ ?_|refine Zk (m:=n) (j) hj ?_|refine l_ixW (m:=n) (j) hj ?_|refine Zk (m:=n) (a) hia ?_|refine l_ixW (m:=n) (a) hia ?_|refine Zp 7 (j) 0 (ZR kj) ?_|refine Zp 7 (a) 0 (ZR ka) ?_|refine Yp 7 (j) 0 (gt m (a)) (ZR kj) hqm ?_|refine Z3 7 (j) 0 (gt m (a)) (ZR kj) hqm ?_|refine Z3 7 (a) 0 (gt m (j)) (ZR ka2) (hqm2 _ _) ?_|refine r_up ?_|(refine ZC (fun hc=>?_) (fun hc=>?_)<;>(try simp at hc)<;>(try omega))|(refine ZQ (fun hc=>?_) (fun hc=>?_)<;>(try simp at hc)<;>(try omega))|refine ZD 1 [] [(0,0),(1,0),(2,0),(3,0),(4,0),(5,0),(6,0),(7,0),(8,0),(9,0),(10,0),(11,0),(12,0),(13,4),(14,0)] [15] ?_|refine ZD 3 [] [(0,0),(1,0),(2,0),(3,0),(4,0),(5,0),(6,0),(7,0),(8,0),(9,0),(10,0),(11,0),(12,0),(13,4),(14,0),(15,0)] [] ?_|refine ZD 5 [] [(0,0),(1,0),(2,0),(3,0),(4,0),(5,0),(6,0),(7,0),(8,0),(9,0),(10,0),(11,0),(12,0),(13,4),(14,0),(15,0),(16,0)] [] ?_|refine ZD 8 [] [(0,0),(1,0),(2,0),(3,0),(4,0),(5,0),(6,0),(7,0),(8,0),(9,0),(10,0),(11,0),(12,0),(13,4),(14,0)] [15] ?_|refine ZD 10 [] [(0,0),(1,0),(2,0),(3,0),(4,0),(5,0),(6,0),(7,0),(8,0),(9,0),(10,0),(11,0),(12,0),(13,4),(14,0)] [15] ?_|refine ZD 13 [] [(0,0),(1,0),(2,0),(3,0),(4,0),(5,0),(6,0),(7,0),(8,0),(9,0),(10,0),(11,0),(12,0),(13,4),(14,0),(15,0)] [] ?_|refine ZD 15 [] [(0,0),(1,0),(2,0),(3,0),(4,0),(5,0),(6,0),(7,0),(8,0),(9,0),(10,0),(11,0),(12,0),(13,4),(14,0),(15,0),(16,0)] [] ?_|refine ZD 21 [Ax _ _ _ _ _] [(0,0),(1,0),(2,0),(3,0),(4,0),(5,0),(6,0),(8,0),(9,0),(10,0),(7,3),(11,3),(12,0),(13,4),(14,0)] [15] ?_|(refine ZF (fun hc=>?_) (fun hc=>?_)<;>(try simp at hc)<;>(try omega)))
   exact ZT ⟨(j,false,sw m j a),f1,f2⟩ rfl trivial
 ·obtain ⟨f1,f2⟩:=hp.part (by omega) (by omega)
  have ka:a<m.length:=by omega
  have ka2:a<(m.set j (gt m a)).length:=by rw [List.length_set];exact ka
  repeat' (first|refine ZH ?_|refine ZI ?_|refine ZK ?_|refine ZG ?_|refine ZM ?_|refine ZJ ?_|refine ZN ?_|refine ZP (fun b=>?_)|refine ZO (fun b=>?_)|refine ZA ?_|refine ZB ?_|refine ZL ?_|refine ZX ?_|refine ZY ?_|refine Zf ?_|refine Za ?_|refine Zb ?_|refine Zc (fun b=>?_)|refine Zd (fun b=>?_)|refine Ze ?_|refine ZZ ?_|refine Zk (m:=n) (j) hj ?_|refine l_ixW (m:=n) (j) hj ?_|refine Zk (m:=n) (a) hia ?_|refine l_ixW (m:=n) (a) hia ?_|refine Zp 7 (j) 0 (ZR kj) ?_|refine Zp 7 (a) 0 (ZR ka) ?_|refine Yp 7 (j) 0 (gt m (a)) (ZR kj) hqm ?_|refine Z3 7 (j) 0 (gt m (a)) (ZR kj) hqm ?_|refine Z3 7 (a) 0 (gt m (j)) (ZR ka2) (hqm2 _ _) ?_|refine r_up ?_|(refine ZC (fun hc=>?_) (fun hc=>?_)<;>(try simp at hc)<;>(try omega))|(refine ZQ (fun hc=>?_) (fun hc=>?_)<;>(try simp at hc)<;>(try omega))|refine ZD 1 [] [(0,0),(1,0),(2,0),(3,0),(4,0),(5,0),(6,0),(7,0),(8,0),(9,0),(10,0),(11,0),(12,0),(13,4),(14,0)] [15] ?_|refine ZD 3 [] [(0,0),(1,0),(2,0),(3,0),(4,0),(5,0),(6,0),(7,0),(8,0),(9,0),(10,0),(11,0),(12,0),(13,4),(14,0),(15,0)] [] ?_|refine ZD 5 [] [(0,0),(1,0),(2,0),(3,0),(4,0),(5,0),(6,0),(7,0),(8,0),(9,0),(10,0),(11,0),(12,0),(13,4),(14,0),(15,0),(16,0)] [] ?_|refine ZD 8 [Ax _ _ _ _ _] [(0,0),(1,0),(2,0),(3,0),(4,0),(5,0),(6,0),(8,0),(9,0),(10,0),(7,3),(11,3),(12,0),(13,4),(14,0)] [15] ?_|(refine ZF (fun hc=>?_) (fun hc=>?_)<;>(try simp at hc)<;>(try omega)))
  exact ZT ⟨(j,true,sw m j a),f1,f2⟩ rfl trivial
include hcmp W in
set_option maxHeartbeats 8000000 in
theorem parEC_ok (l:List Ch) (n:Nat) (hn:n=l.length) (hn2:n≤1000000) (hq:AxOK (n * 7) q) (hU:∀x ∈ l,U x) (a bb p:Nat) (hab:a+12<bb) (hb:bb≤n) (hp1:a≤p) (hp2:p<bb) :
  Enters 179∧Spec prog 179 #[.slice (some ⟨bk,0,none⟩) n cap,.int .i64 (a:Int),.int .i64 (bb:Int),.int .i64 (p:Int),.func (.func fv) #[] #[]] [Fc] [Ax 108 chf bk l q]
   ⟨{t:Nat×List Ch // Win a bb l t.2∧a<t.1∧t.1≤bb∧gt t.2 a=gt l p∧∀k,a≤k→k<t.1→¬c (gt t.2 a) (gt t.2 k)<0},fun t=>.int .i64 (t.1.1:Int),fun _=>True,fun _=>[],fun t=>[Ax 108 chf bk t.1.2 q]⟩:=by
 have w0:IntKind.i64.wrap ((a:Int)+1)=((a+1:Nat):Int):=by simp (disch:=omega) only [wrapi];omega
 have w1:IntKind.i64.wrap ((bb:Int) - 1)=((bb - 1:Nat):Int):=by simp (disch:=omega) only [wrapi];omega
 have wi:∀i,i<n→IntKind.i64.wrap ((i:Int)+1)=((i+1:Nat):Int):=fun i hi=>by simp (disch:=omega) only [wrapi];omega
 have wj:∀j,0<j→j<n→IntKind.i64.wrap ((j:Int) - 1)=((j - 1:Nat):Int):=fun j h0 hi=>by simp (disch:=omega) only [wrapi];omega
 have hia:a<n:=by omega
 have hip:p<n:=by omega
 have kia:a<l.length:=by omega
 have kip:p<l.length:=by omega
 have kip2:p<(l.set a (gt l p)).length:=by rw [List.length_set];exact kip
 have hql:AxOK (l.length * 7) q:=by rw [←hn];exact hq
 have hql2:AxOK ((l.set a (gt l p)).length * 7) q:=by rw [List.length_set];exact hql
 have hUP:U (gt l p):=hU _ (Z9 kip)
 have hin0:=fun A:Ch→Prop=>Pin.init (A:=A) (l:=l) (a:=a) (b:=bb) hp1 hp2 (by omega) (by omega)
 obtain ⟨P,hP⟩:∃P,P=gt l p:=⟨_,rfl⟩
 rw [←hP] at hUP hin0
 obtain ⟨m,hm0⟩:∃m,m=sw l a p:=⟨_,rfl⟩
 rw [←hm0] at hin0
 have hin:=hin0 (fun x=>¬c P x<0)
 clear hin0
 refine ZV [_,_,_,_,_] func179 ntmps179 fun G w hp=>?_
 repeat' (first|refine ZH ?_|refine ZI ?_|refine ZK ?_|refine ZG ?_|refine ZM ?_|refine ZJ ?_|refine ZN ?_|refine ZP (fun b=>?_)|refine ZO (fun b=>?_)|refine ZA ?_|refine ZB ?_|refine ZX ?_|refine ZY ?_|refine Zf ?_|refine Za ?_|refine Zb ?_|refine Zc (fun b=>?_)|refine Zd (fun b=>?_)|refine Ze ?_|refine ZZ ?_|refine Zk (m:=n) (a) hia ?_|refine l_ixW (m:=n) (a) hia ?_|refine Zk (m:=n) (p) hip ?_|refine l_ixW (m:=n) (p) hip ?_|refine Zp 7 (a) 0 (ZR kia) ?_|refine Zp 7 (p) 0 (ZR kip) ?_|refine Yp 7 (a) 0 (gt l (p)) (ZR kia) hql ?_|refine Z3 7 (a) 0 (gt l (p)) (ZR kia) hql ?_|refine Z3 7 (p) 0 (gt l (a)) (ZR kip2) hql2 ?_|rw [w0]|rw [w1]|refine r_up ?_|(refine ZC (fun hc=>?_) (fun hc=>?_)<;>(try simp at hc))|(refine ZQ (fun hc=>?_) (fun hc=>?_)<;>(try simp at hc))|refine ZD 1 [Ax _ _ _ _ _] [(0,0),(1,0),(2,0),(3,0),(4,0),(5,0),(6,0),(8,0),(9,0),(10,0),(7,3),(11,3),(12,0),(13,4),(14,0)] [15] ?_|(refine ZF (fun hc=>?_) (fun hc=>?_)<;>(try simp at hc)))
 refine k_ax m hm0.symm ?_
 clear hm0 kip2 hql2
 refine YT (X:={t:Nat×Nat×List Ch // Pin (fun x=>¬c P x<0) a bb t.1 t.2.1 P l t.2.2}) (fun t=>[(0,.slice (some ⟨bk,0,none⟩) n cap),(1,.int .i64 (a:Int)),(4,.func (.func fv) #[] #[]),(11,.int .i64 (t.1.1:Int)),(12,.int .i64 (t.1.2.1:Int))]) (fun _=>[Fc]) (fun t=>[Ax 108 chf bk t.1.2.2 q]) (fun t=>t.1.2.1+1 - t.1.1) ⟨(a+1,bb - 1,m),hin⟩ ⟨rfl,rfl,rfl,rfl,rfl,trivial⟩ ?_
 clear hin
 clear m
 rintro ⟨⟨i0,j0,m⟩,hin⟩
 dsimp only at hin ⊢
 have q1:=hin.h1
 have q2:=hin.h2
 have q3:=hin.h3
 repeat' (first|refine ZH ?_|refine ZI ?_|refine ZK ?_|refine ZG ?_|refine ZM ?_|refine ZJ ?_|refine ZN ?_|refine ZP (fun b=>?_)|refine ZO (fun b=>?_)|refine ZA ?_|refine ZB ?_|(refine ZC (fun hc=>?_) (fun hc=>?_)<;>(try simp at hc))|(refine ZF (fun hc=>?_) (fun hc=>?_)<;>(try simp at hc)))
 obtain ⟨jz,hjz⟩:∃jz,jz=j0:=⟨_,rfl⟩
 rw [←hjz] at hin
 have hm:=hin.w.len
 have ga:m[a]? = some P:=by rw [←hin.pa];exact ZR (by omega)
 have hUm:=hin.w.sub hU
 refine WM (Y:={i:Nat // i0≤i∧Pin (fun x=>¬c P x<0) a bb i jz P l m∧(i≤jz→¬(fun x=>¬c P x<0) (gt m i))}) (X:={i:Nat // i0≤i∧Pin (fun x=>¬c P x<0) a bb i jz P l m}) (fun i=>[(0,.slice (some ⟨bk,0,none⟩) n cap),(1,.int .i64 (a:Int)),(4,.func (.func fv) #[] #[]),(11,.int .i64 ((i.1:Nat):Int)),(12,.int .i64 ((jz:Nat):Int))]) (fun _=>[Fc]) (fun _=>[Ax 108 chf bk m q]) (fun i=>bb+1 - i.1) (fun i=>[(0,.slice (some ⟨bk,0,none⟩) n cap),(1,.int .i64 (a:Int)),(4,.func (.func fv) #[] #[]),(11,.int .i64 ((i.1:Nat):Int)),(12,.int .i64 ((jz:Nat):Int))]) (fun _=>[Fc]) (fun _=>[Ax 108 chf bk m q]) ⟨i0,Nat.le_refl _,hin⟩ ⟨rfl,rfl,rfl,rfl,(by show look _ _=some (Value.int .i64 ((jz:Nat):Int));rw [hjz];rfl),trivial⟩ ?_ ?_
 rotate_left
 ·intro hx
  rintro ⟨i,hi0,hp⟩
  dsimp only at hi0 hp ⊢
  have k1:=hp.h1
  have k2:=hp.h2
  have k3:=hp.h3
  generalize jz=j at *
  by_cases hij:i≤j
  ·have hi:i<n:=by omega
   have hj:j<n:=by omega
   have ha:a<n:=by omega
   have gi:m[i]? = some (gt m i):=ZR (by omega)
   have gj:m[j]? = some (gt m j):=ZR (by omega)
   have sp:=hcmp P (gt m i) hUP (hUm _ (Z9 (by omega)))
   by_cases hA:c P (gt m i)<0
   ·repeat' (first|refine ZH ?_|refine ZI ?_|refine ZK ?_|refine ZG ?_|refine ZM ?_|refine ZJ ?_|refine ZN ?_|refine ZP (fun b=>?_)|refine ZO (fun b=>?_)|refine ZA ?_|refine ZB ?_|refine ZX ?_|refine ZY ?_|refine Zf ?_|refine Za ?_|refine Zb ?_|refine Zc (fun b=>?_)|refine Zd (fun b=>?_)|refine Ze ?_|refine ZZ ?_|rw [wi i hi]|rw [wj j (by omega) hj]|refine Zk (m:=n) (i) hi ?_|refine l_ixW (m:=n) (i) hi ?_|refine Zk (m:=n) (a) ha ?_|refine l_ixW (m:=n) (a) ha ?_|refine Zl 7 (i) 0 gi ?_|refine Zn 7 (i) 0 gi ?_|refine Zl 7 (a) 0 ga ?_|refine Zn 7 (a) 0 ga ?_|refine Zv sp (fun _ _=>?_)|(refine ZC (fun hc=>?_) (fun hc=>?_)<;>(try simp at hc)<;>(try omega))|(refine ZQ (fun hc=>?_) (fun hc=>?_)<;>(try simp at hc)<;>(try omega))|refine ZD 1 [] [(0,0),(1,0),(2,0),(3,0),(4,0),(5,0),(6,0),(7,0),(8,0),(9,0),(10,0),(11,0),(12,0),(13,4),(14,0)] [15] ?_|refine ZD 3 [] [(0,0),(1,0),(2,0),(3,0),(4,0),(5,0),(6,0),(7,0),(8,0),(9,0),(10,0),(11,0),(12,0),(13,4),(14,0),(15,0),(16,0)] [] ?_|refine ZD 5 [] [(0,0),(1,0),(2,0),(3,0),(4,0),(5,0),(6,0),(7,0),(8,0),(9,0),(10,0),(11,0),(12,0),(13,4),(14,0),(15,0)] [] ?_|refine ZD 8 [] [(0,0),(1,0),(2,0),(3,0),(4,0),(5,0),(6,0),(7,0),(8,0),(9,0),(10,0),(11,0),(12,0),(13,4),(14,0)] [15] ?_|(refine ZF (fun hc=>?_) (fun hc=>?_)<;>(try simp at hc)<;>(try omega)))
    exact Yg hx ⟨i,by omega,hp,fun _=>(fun h=>h hA)⟩ ⟨rfl,rfl,rfl,rfl,rfl,trivial⟩
   ·repeat' (first|refine ZH ?_|refine ZI ?_|refine ZK ?_|refine ZG ?_|refine ZM ?_|refine ZJ ?_|refine ZN ?_|refine ZP (fun b=>?_)|refine ZO (fun b=>?_)|refine ZA ?_|refine ZB ?_|refine ZX ?_|refine ZY ?_|refine Zf ?_|refine Za ?_|refine Zb ?_|refine Zc (fun b=>?_)|refine Zd (fun b=>?_)|refine Ze ?_|refine ZZ ?_|rw [wi i hi]|rw [wj j (by omega) hj]|refine Zk (m:=n) (i) hi ?_|refine l_ixW (m:=n) (i) hi ?_|refine Zk (m:=n) (a) ha ?_|refine l_ixW (m:=n) (a) ha ?_|refine Zl 7 (i) 0 gi ?_|refine Zn 7 (i) 0 gi ?_|refine Zl 7 (a) 0 ga ?_|refine Zn 7 (a) 0 ga ?_|refine Zv sp (fun _ _=>?_)|(refine ZC (fun hc=>?_) (fun hc=>?_)<;>(try simp at hc)<;>(try omega))|(refine ZQ (fun hc=>?_) (fun hc=>?_)<;>(try simp at hc)<;>(try omega))|refine ZD 1 [] [(0,0),(1,0),(2,0),(3,0),(4,0),(5,0),(6,0),(7,0),(8,0),(9,0),(10,0),(11,0),(12,0),(13,4),(14,0)] [15] ?_|refine ZD 3 [] [(0,0),(1,0),(2,0),(3,0),(4,0),(5,0),(6,0),(7,0),(8,0),(9,0),(10,0),(11,0),(12,0),(13,4),(14,0),(15,0),(16,0)] [] ?_|refine ZD 5 [] [(0,0),(1,0),(2,0),(3,0),(4,0),(5,0),(6,0),(7,0),(8,0),(9,0),(10,0),(11,0),(12,0),(13,4),(14,0),(15,0)] [] ?_|refine ZD 8 [] [(0,0),(1,0),(2,0),(3,0),(4,0),(5,0),(6,0),(7,0),(8,0),(9,0),(10,0),(11,0),(12,0),(13,4),(14,0)] [15] ?_|(refine ZF (fun hc=>?_) (fun hc=>?_)<;>(try simp at hc)<;>(try omega)))
    exact Zi ⟨i+1,by omega,hp.ii hij (hA)⟩ (by show bb+1 - (i+1)<bb+1 - i;omega) ⟨rfl,rfl,rfl,rfl,rfl,trivial⟩
  ·repeat' (first|refine ZH ?_|refine ZI ?_|refine ZK ?_|refine ZG ?_|refine ZM ?_|refine ZJ ?_|refine ZN ?_|refine ZP (fun b=>?_)|refine ZO (fun b=>?_)|refine ZA ?_|refine ZB ?_|refine ZX ?_|refine ZY ?_|refine Zf ?_|refine Za ?_|refine Zb ?_|refine Zc (fun b=>?_)|refine Zd (fun b=>?_)|refine Ze ?_|refine ZZ ?_|(refine ZC (fun hc=>?_) (fun hc=>?_)<;>(try simp at hc)<;>(try omega))|(refine ZQ (fun hc=>?_) (fun hc=>?_)<;>(try simp at hc)<;>(try omega))|refine ZD 1 [] [(0,0),(1,0),(2,0),(3,0),(4,0),(5,0),(6,0),(7,0),(8,0),(9,0),(10,0),(11,0),(12,0),(13,4),(14,0)] [15] ?_|refine ZD 3 [] [(0,0),(1,0),(2,0),(3,0),(4,0),(5,0),(6,0),(7,0),(8,0),(9,0),(10,0),(11,0),(12,0),(13,4),(14,0),(15,0),(16,0)] [] ?_|refine ZD 5 [] [(0,0),(1,0),(2,0),(3,0),(4,0),(5,0),(6,0),(7,0),(8,0),(9,0),(10,0),(11,0),(12,0),(13,4),(14,0),(15,0)] [] ?_|refine ZD 8 [] [(0,0),(1,0),(2,0),(3,0),(4,0),(5,0),(6,0),(7,0),(8,0),(9,0),(10,0),(11,0),(12,0),(13,4),(14,0)] [15] ?_|(refine ZF (fun hc=>?_) (fun hc=>?_)<;>(try simp at hc)<;>(try omega)))
   exact Yg hx ⟨i,by omega,hp,fun h=>absurd h hij⟩ ⟨rfl,rfl,rfl,rfl,rfl,trivial⟩
 rintro ⟨i,hi0,hp0,hAi⟩
 dsimp only at hi0 hp0 hAi ⊢
 refine WM (Y:={j:Nat // j≤jz∧Pin (fun x=>¬c P x<0) a bb i j P l m∧(i≤j→(fun x=>¬c P x<0) (gt m j))}) (X:={j:Nat // j≤jz∧Pin (fun x=>¬c P x<0) a bb i j P l m}) (fun j=>[(0,.slice (some ⟨bk,0,none⟩) n cap),(1,.int .i64 (a:Int)),(4,.func (.func fv) #[] #[]),(11,.int .i64 ((i:Nat):Int)),(12,.int .i64 ((j.1:Nat):Int))]) (fun _=>[Fc]) (fun _=>[Ax 108 chf bk m q]) (fun j=>j.1) (fun j=>[(0,.slice (some ⟨bk,0,none⟩) n cap),(1,.int .i64 (a:Int)),(4,.func (.func fv) #[] #[]),(11,.int .i64 ((i:Nat):Int)),(12,.int .i64 ((j.1:Nat):Int))]) (fun _=>[Fc]) (fun _=>[Ax 108 chf bk m q]) ⟨jz,Nat.le_refl _,hp0⟩ ⟨rfl,rfl,rfl,rfl,rfl,trivial⟩ ?_ ?_
 rotate_left
 ·intro hx
  rintro ⟨j,hj0,hp⟩
  dsimp only at hj0 hp ⊢
  have k1:=hp.h1
  have k2:=hp.h2
  have k3:=hp.h3
  by_cases hij:i≤j
  ·have hi:i<n:=by omega
   have hj:j<n:=by omega
   have ha:a<n:=by omega
   have gi:m[i]? = some (gt m i):=ZR (by omega)
   have gj:m[j]? = some (gt m j):=ZR (by omega)
   have sp:=hcmp P (gt m j) hUP (hUm _ (Z9 (by omega)))
   by_cases hA:c P (gt m j)<0
   ·repeat' (first|refine ZH ?_|refine ZI ?_|refine ZK ?_|refine ZG ?_|refine ZM ?_|refine ZJ ?_|refine ZN ?_|refine ZP (fun b=>?_)|refine ZO (fun b=>?_)|refine ZA ?_|refine ZB ?_|refine ZX ?_|refine ZY ?_|refine Zf ?_|refine Za ?_|refine Zb ?_|refine Zc (fun b=>?_)|refine Zd (fun b=>?_)|refine Ze ?_|refine ZZ ?_|rw [wi i hi]|rw [wj j (by omega) hj]|refine Zk (m:=n) (j) hj ?_|refine l_ixW (m:=n) (j) hj ?_|refine Zk (m:=n) (a) ha ?_|refine l_ixW (m:=n) (a) ha ?_|refine Zl 7 (j) 0 gj ?_|refine Zn 7 (j) 0 gj ?_|refine Zl 7 (a) 0 ga ?_|refine Zn 7 (a) 0 ga ?_|refine Zv sp (fun _ _=>?_)|(refine ZC (fun hc=>?_) (fun hc=>?_)<;>(try simp at hc)<;>(try omega))|(refine ZQ (fun hc=>?_) (fun hc=>?_)<;>(try simp at hc)<;>(try omega))|refine ZD 1 [] [(0,0),(1,0),(2,0),(3,0),(4,0),(5,0),(6,0),(7,0),(8,0),(9,0),(10,0),(11,0),(12,0),(13,4),(14,0)] [15] ?_|refine ZD 3 [] [(0,0),(1,0),(2,0),(3,0),(4,0),(5,0),(6,0),(7,0),(8,0),(9,0),(10,0),(11,0),(12,0),(13,4),(14,0),(15,0),(16,0)] [] ?_|refine ZD 5 [] [(0,0),(1,0),(2,0),(3,0),(4,0),(5,0),(6,0),(7,0),(8,0),(9,0),(10,0),(11,0),(12,0),(13,4),(14,0),(15,0)] [] ?_|refine ZD 8 [] [(0,0),(1,0),(2,0),(3,0),(4,0),(5,0),(6,0),(7,0),(8,0),(9,0),(10,0),(11,0),(12,0),(13,4),(14,0)] [15] ?_|(refine ZF (fun hc=>?_) (fun hc=>?_)<;>(try simp at hc)<;>(try omega)))
    exact Zi ⟨j - 1,by omega,hp.jj hij (fun h=>h hA)⟩ (by show j - 1<j;omega) ⟨rfl,rfl,rfl,rfl,rfl,trivial⟩
   ·repeat' (first|refine ZH ?_|refine ZI ?_|refine ZK ?_|refine ZG ?_|refine ZM ?_|refine ZJ ?_|refine ZN ?_|refine ZP (fun b=>?_)|refine ZO (fun b=>?_)|refine ZA ?_|refine ZB ?_|refine ZX ?_|refine ZY ?_|refine Zf ?_|refine Za ?_|refine Zb ?_|refine Zc (fun b=>?_)|refine Zd (fun b=>?_)|refine Ze ?_|refine ZZ ?_|rw [wi i hi]|rw [wj j (by omega) hj]|refine Zk (m:=n) (j) hj ?_|refine l_ixW (m:=n) (j) hj ?_|refine Zk (m:=n) (a) ha ?_|refine l_ixW (m:=n) (a) ha ?_|refine Zl 7 (j) 0 gj ?_|refine Zn 7 (j) 0 gj ?_|refine Zl 7 (a) 0 ga ?_|refine Zn 7 (a) 0 ga ?_|refine Zv sp (fun _ _=>?_)|(refine ZC (fun hc=>?_) (fun hc=>?_)<;>(try simp at hc)<;>(try omega))|(refine ZQ (fun hc=>?_) (fun hc=>?_)<;>(try simp at hc)<;>(try omega))|refine ZD 1 [] [(0,0),(1,0),(2,0),(3,0),(4,0),(5,0),(6,0),(7,0),(8,0),(9,0),(10,0),(11,0),(12,0),(13,4),(14,0)] [15] ?_|refine ZD 3 [] [(0,0),(1,0),(2,0),(3,0),(4,0),(5,0),(6,0),(7,0),(8,0),(9,0),(10,0),(11,0),(12,0),(13,4),(14,0),(15,0),(16,0)] [] ?_|refine ZD 5 [] [(0,0),(1,0),(2,0),(3,0),(4,0),(5,0),(6,0),(7,0),(8,0),(9,0),(10,0),(11,0),(12,0),(13,4),(14,0),(15,0)] [] ?_|refine ZD 8 [] [(0,0),(1,0),(2,0),(3,0),(4,0),(5,0),(6,0),(7,0),(8,0),(9,0),(10,0),(11,0),(12,0),(13,4),(14,0)] [15] ?_|(refine ZF (fun hc=>?_) (fun hc=>?_)<;>(try simp at hc)<;>(try omega)))
    exact Yg hx ⟨j,by omega,hp,fun _=>(hA)⟩ ⟨rfl,rfl,rfl,rfl,rfl,trivial⟩
  ·repeat' (first|refine ZH ?_|refine ZI ?_|refine ZK ?_|refine ZG ?_|refine ZM ?_|refine ZJ ?_|refine ZN ?_|refine ZP (fun b=>?_)|refine ZO (fun b=>?_)|refine ZA ?_|refine ZB ?_|refine ZX ?_|refine ZY ?_|refine Zf ?_|refine Za ?_|refine Zb ?_|refine Zc (fun b=>?_)|refine Zd (fun b=>?_)|refine Ze ?_|refine ZZ ?_|(refine ZC (fun hc=>?_) (fun hc=>?_)<;>(try simp at hc)<;>(try omega))|(refine ZQ (fun hc=>?_) (fun hc=>?_)<;>(try simp at hc)<;>(try omega))|refine ZD 1 [] [(0,0),(1,0),(2,0),(3,0),(4,0),(5,0),(6,0),(7,0),(8,0),(9,0),(10,0),(11,0),(12,0),(13,4),(14,0)] [15] ?_|refine ZD 3 [] [(0,0),(1,0),(2,0),(3,0),(4,0),(5,0),(6,0),(7,0),(8,0),(9,0),(10,0),(11,0),(12,0),(13,4),(14,0),(15,0),(16,0)] [] ?_|refine ZD 5 [] [(0,0),(1,0),(2,0),(3,0),(4,0),(5,0),(6,0),(7,0),(8,0),(9,0),(10,0),(11,0),(12,0),(13,4),(14,0),(15,0)] [] ?_|refine ZD 8 [] [(0,0),(1,0),(2,0),(3,0),(4,0),(5,0),(6,0),(7,0),(8,0),(9,0),(10,0),(11,0),(12,0),(13,4),(14,0)] [15] ?_|(refine ZF (fun hc=>?_) (fun hc=>?_)<;>(try simp at hc)<;>(try omega)))
   exact Yg hx ⟨j,by omega,hp,fun h=>absurd h hij⟩ ⟨rfl,rfl,rfl,rfl,rfl,trivial⟩
 rintro ⟨j,hj0,hp,hAj⟩
 dsimp only at hj0 hp hAj ⊢
 have k1:=hp.h1
 have k2:=hp.h2
 have k3:=hp.h3
 have hj:j<n:=by omega
 have kj:j<m.length:=by omega
 have hqm:AxOK (m.length * 7) q:=by rw [hm,←hn];exact hq
 have hqm2:∀k y,AxOK ((m.set k y).length * 7) q:=fun k y=>by rw [List.length_set];exact hqm
 by_cases hij:i≤j
 ·have hij2:=hp.ne hij (hAi (by omega)) (hAj hij)
  have hi:i<n:=by omega
  have ki:i<m.length:=by omega
  have kj2:j<(m.set i (gt m j)).length:=by rw [List.length_set];exact kj
  repeat' (first|refine ZH ?_|refine ZI ?_|refine ZK ?_|refine ZG ?_|refine ZM ?_|refine ZJ ?_|refine ZN ?_|refine ZP (fun b=>?_)|refine ZO (fun b=>?_)|refine ZA ?_|refine ZB ?_|refine ZX ?_|refine ZY ?_|refine Zf ?_|refine Za ?_|refine Zb ?_|refine Zc (fun b=>?_)|refine Zd (fun b=>?_)|refine Ze ?_|refine ZZ ?_|rw [wi i hi]|rw [wj j (by omega) hj]|refine Zk (m:=n) (i) hi ?_|refine l_ixW (m:=n) (i) hi ?_|refine Zk (m:=n) (j) hj ?_|refine l_ixW (m:=n) (j) hj ?_|refine Zp 7 (i) 0 (ZR ki) ?_|refine Zp 7 (j) 0 (ZR kj) ?_|refine Yp 7 (i) 0 (gt m (j)) (ZR ki) hqm ?_|refine Z3 7 (i) 0 (gt m (j)) (ZR ki) hqm ?_|refine Z3 7 (j) 0 (gt m (i)) (ZR kj2) (hqm2 _ _) ?_|refine r_up ?_|(refine ZC (fun hc=>?_) (fun hc=>?_)<;>(try simp at hc)<;>(try omega))|(refine ZQ (fun hc=>?_) (fun hc=>?_)<;>(try simp at hc)<;>(try omega))|refine ZD 1 [] [(0,0),(1,0),(2,0),(3,0),(4,0),(5,0),(6,0),(7,0),(8,0),(9,0),(10,0),(11,0),(12,0),(13,4),(14,0)] [15] ?_|refine ZD 8 [Ax _ _ _ _ _] [(0,0),(1,0),(2,0),(3,0),(4,0),(5,0),(6,0),(8,0),(9,0),(10,0),(7,3),(11,3),(12,0),(13,4),(14,0)] [15] ?_|(refine ZF (fun hc=>?_) (fun hc=>?_)<;>(try simp at hc)<;>(try omega)))
  exact Zi ⟨(i+1,j - 1,sw m i j),hp.sw (by omega) hij2 (hAi (by omega)) (hAj hij)⟩ (by show j - 1+1 - (i+1)<j0+1 - i0;omega) ⟨rfl,rfl,rfl,rfl,rfl,trivial⟩
 ·repeat' (first|refine ZH ?_|refine ZI ?_|refine ZK ?_|refine ZG ?_|refine ZM ?_|refine ZJ ?_|refine ZN ?_|refine ZP (fun b=>?_)|refine ZO (fun b=>?_)|refine ZA ?_|refine ZB ?_|refine ZL ?_|(refine ZC (fun hc=>?_) (fun hc=>?_)<;>(try simp at hc)<;>(try omega))|(refine ZF (fun hc=>?_) (fun hc=>?_)<;>(try simp at hc)<;>(try omega)))
  exact ZT ⟨(i,m),hp.w,by omega,by omega,by rw [←hP];exact hp.pa,fun k h1 h2=>by
   by_cases hk:k=a
   ·rw [hk,hp.pa];exact W.i _
   ·rw [hp.pa];exact hp.lo k (by omega) h2⟩ rfl trivial
end
section
variable (bk cap:Nat) (q:List Value×(Nat×Nat)) (fv:FuncId) (Fc:Pf) (c:Ch→Ch→Int) (W:Wk0 c) (U:Ch→Prop) (hcmp:∀x y,U x→U y→Enters fv∧Spec prog fv #[x.v,y.v] [Fc] [] (RetV (.int .i64 (c x y))))
include hcmp W in
set_option maxHeartbeats 8000000 in
theorem pinsC_ok (l:List Ch) (n:Nat) (hn:n=l.length) (hn2:n≤1000000) (hq:AxOK (n * 7) q) (hU:∀x ∈ l,U x) (a bb:Nat) (hab:a<bb) (hb:bb≤n) (hlw:Lw c a bb l) :
  Enters 178∧Spec prog 178 #[.slice (some ⟨bk,0,none⟩) n cap,.int .i64 (a:Int),.int .i64 (bb:Int),.func (.func fv) #[] #[]] [Fc] [Ax 108 chf bk l q]
   ⟨{t:Bool×List Ch // Win a bb l t.2∧(t.1=true→Sw c a bb t.2)},fun t=>.bool t.1.1,fun _=>True,fun _=>[],fun t=>[Ax 108 chf bk t.1.2 q]⟩:=by
 have w0:IntKind.i64.wrap ((a:Int)+1)=((a+1:Nat):Int):=by simp (disch:=omega) only [wrapi];omega
 have wi:∀i,i<n→IntKind.i64.wrap ((i:Int)+1)=((i+1:Nat):Int):=fun i hi=>by simp (disch:=omega) only [wrapi];omega
 have wj:∀j,0<j→j<n→IntKind.i64.wrap ((j:Int) - 1)=((j - 1:Nat):Int):=fun j h0 hi=>by simp (disch:=omega) only [wrapi];omega
 have wba:IntKind.i64.wrap ((bb:Int) - (a:Int))=((bb - a:Nat):Int):=by simp (disch:=omega) only [wrapi];omega
 refine ZV [_,_,_,_] func178 ntmps178 fun G w hp=>?_
 repeat' (first|refine ZH ?_|refine ZI ?_|refine ZK ?_|refine ZG ?_|refine ZM ?_|refine ZJ ?_|refine ZN ?_|refine ZP (fun b=>?_)|refine ZO (fun b=>?_)|refine ZA ?_|refine ZB ?_|rw [w0]|(refine ZC (fun hc=>?_) (fun hc=>?_)<;>(try simp at hc))|(refine ZF (fun hc=>?_) (fun hc=>?_)<;>(try simp at hc)))
 refine YT (X:={t:Nat×Nat×List Ch // t.1≤5∧a<t.2.1∧t.2.1≤bb∧Win a bb l t.2.2∧Sw c a t.2.1 t.2.2}) (fun t=>[(0,.slice (some ⟨bk,0,none⟩) n cap),(1,.int .i64 (a:Int)),(2,.int .i64 (bb:Int)),(3,.func (.func fv) #[] #[]),(9,.int .i64 (t.1.2.1:Int)),(10,.int .i64 (t.1.1:Int))]) (fun _=>[Fc]) (fun t=>[Ax 108 chf bk t.1.2.2 q]) (fun t=>5 - t.1.1)
  ⟨(0,a+1,l),by omega,by show a<a+1;omega,by show a+1≤bb;omega,Win.refl,Sw.nil (Nat.le_refl _)⟩ ⟨rfl,rfl,rfl,rfl,rfl,rfl,trivial⟩ ?_
 rintro ⟨⟨r,i0,m⟩,hr,h1,h2,h3,h4⟩
 dsimp only at hr h1 h2 h3 h4 ⊢
 have hm:=h3.len
 have hUm:=h3.sub hU
 by_cases hr5:r<5
 rotate_left
 ·repeat' (first|refine ZH ?_|refine ZI ?_|refine ZK ?_|refine ZG ?_|refine ZM ?_|refine ZJ ?_|refine ZN ?_|refine ZP (fun b=>?_)|refine ZO (fun b=>?_)|refine ZA ?_|refine ZB ?_|refine ZL ?_|(refine ZC (fun hc=>?_) (fun hc=>?_)<;>(try simp at hc)<;>(try omega))|(refine ZF (fun hc=>?_) (fun hc=>?_)<;>(try simp at hc)<;>(try omega)))
  exact ZT ⟨(false,m),h3,fun h=>by cases h⟩ rfl trivial
 have wr:IntKind.i64.wrap ((r:Int)+1)=((r+1:Nat):Int):=by simp (disch:=omega) only [wrapi];omega
 repeat' (first|refine ZH ?_|refine ZI ?_|refine ZK ?_|refine ZG ?_|refine ZM ?_|refine ZJ ?_|refine ZN ?_|refine ZP (fun b=>?_)|refine ZO (fun b=>?_)|refine ZA ?_|refine ZB ?_|(refine ZC (fun hc=>?_) (fun hc=>?_)<;>(try simp at hc)<;>(try omega))|(refine ZF (fun hc=>?_) (fun hc=>?_)<;>(try simp at hc)<;>(try omega)))
 refine WM (Y:={i:Nat // a<i∧i≤bb∧Sw c a i m∧(i<bb→c (gt m i) (gt m (i - 1))<0)}) (X:={i:Nat // a<i∧i≤bb∧Sw c a i m}) (fun i=>[(0,.slice (some ⟨bk,0,none⟩) n cap),(1,.int .i64 (a:Int)),(2,.int .i64 (bb:Int)),(3,.func (.func fv) #[] #[]),(9,.int .i64 (i.1:Int)),(10,.int .i64 (r:Int))]) (fun _=>[Fc]) (fun _=>[Ax 108 chf bk m q]) (fun i=>bb - i.1)
  (fun i=>[(0,.slice (some ⟨bk,0,none⟩) n cap),(1,.int .i64 (a:Int)),(2,.int .i64 (bb:Int)),(3,.func (.func fv) #[] #[]),(9,.int .i64 (i.1:Int)),(10,.int .i64 (r:Int))]) (fun _=>[Fc]) (fun _=>[Ax 108 chf bk m q]) ⟨i0,h1,h2,h4⟩ ⟨rfl,rfl,rfl,rfl,rfl,rfl,trivial⟩ ?_ ?_
 rotate_left
 ·intro hx
  rintro ⟨i,g1,g2,g3⟩
  dsimp only at g1 g2 g3 ⊢
  by_cases hib:i<bb
  ·have hi:i<n:=by omega
   have hj:i - 1<n:=by omega
   have ki:i<m.length:=by omega
   have kj:i - 1<m.length:=by omega
   have sp:=hcmp (gt m i) (gt m (i - 1)) (hUm _ (Z9 ki)) (hUm _ (Z9 kj))
   by_cases hc0:c (gt m i) (gt m (i - 1))<0
   ·repeat' (first|refine ZH ?_|refine ZI ?_|refine ZK ?_|refine ZG ?_|refine ZM ?_|refine ZJ ?_|refine ZN ?_|refine ZP (fun b=>?_)|refine ZO (fun b=>?_)|refine ZA ?_|refine ZB ?_|refine ZX ?_|refine ZY ?_|refine Zf ?_|refine Za ?_|refine Zb ?_|refine Zc (fun b=>?_)|refine Zd (fun b=>?_)|refine Ze ?_|refine ZZ ?_|refine Zk (m:=n) (i) hi ?_|refine l_ixW (m:=n) (i) hi ?_|refine Zk (m:=n) (i - 1) hj ?_|refine l_ixW (m:=n) (i - 1) hj ?_|refine Zl 7 (i) 0 (ZR ki) ?_|refine Zn 7 (i) 0 (ZR ki) ?_|refine Zl 7 (i - 1) 0 (ZR kj) ?_|refine Zn 7 (i - 1) 0 (ZR kj) ?_|refine Zv sp (fun _ _=>?_)|(refine ZC (fun hc=>?_) (fun hc=>?_)<;>(try simp at hc)<;>(try omega))|(refine ZQ (fun hc=>?_) (fun hc=>?_)<;>(try simp at hc)<;>(try omega))|refine ZD 5 [] [(0,0),(1,0),(2,0),(3,0),(4,0),(5,0),(6,0),(7,0),(8,0),(9,0),(10,0),(11,0),(12,0),(13,0),(14,4),(15,0),(16,0),(17,0)] [] ?_|refine ZD 11 [] [(0,0),(1,0),(2,0),(3,0),(4,0),(5,0),(6,0),(7,0),(8,0),(9,0),(10,0),(11,0),(12,0),(13,0),(14,0),(15,4),(16,0)] [17] ?_|refine ZD 16 [] [(0,0),(1,0),(2,0),(3,0),(4,0),(5,0),(6,0),(7,0),(8,0),(9,0),(10,4),(11,0),(12,0)] [] ?_|refine ZD 17 [] [(0,0),(1,0),(2,0),(3,0),(4,0),(5,0),(6,0),(7,0),(8,0),(9,0),(10,0),(11,0),(12,0),(13,0),(14,0),(15,4),(16,0)] [17] ?_|refine ZD 22 [] [(0,0),(1,0),(2,0),(3,0),(4,0),(5,0),(6,0),(7,0),(8,0),(9,0),(10,4),(11,0),(12,0)] [] ?_|refine ZD 23 [] [(0,0),(1,0),(2,0),(3,0),(4,0),(5,0),(6,0),(7,0),(8,0),(9,0),(10,0),(11,0),(12,0),(13,0),(14,0),(15,4),(16,0)] [17] ?_|(refine ZF (fun hc=>?_) (fun hc=>?_)<;>(try simp at hc)<;>(try omega)))
    exact Yg hx ⟨i,g1,g2,g3,fun _=>hc0⟩ ⟨rfl,rfl,rfl,rfl,rfl,rfl,trivial⟩
   ·repeat' (first|refine ZH ?_|refine ZI ?_|refine ZK ?_|refine ZG ?_|refine ZM ?_|refine ZJ ?_|refine ZN ?_|refine ZP (fun b=>?_)|refine ZO (fun b=>?_)|refine ZA ?_|refine ZB ?_|refine ZX ?_|refine ZY ?_|refine Zf ?_|refine Za ?_|refine Zb ?_|refine Zc (fun b=>?_)|refine Zd (fun b=>?_)|refine Ze ?_|refine ZZ ?_|refine Zk (m:=n) (i) hi ?_|refine l_ixW (m:=n) (i) hi ?_|refine Zk (m:=n) (i - 1) hj ?_|refine l_ixW (m:=n) (i - 1) hj ?_|refine Zl 7 (i) 0 (ZR ki) ?_|refine Zn 7 (i) 0 (ZR ki) ?_|refine Zl 7 (i - 1) 0 (ZR kj) ?_|refine Zn 7 (i - 1) 0 (ZR kj) ?_|refine Zv sp (fun _ _=>?_)|rw [wi i hi]|(refine ZC (fun hc=>?_) (fun hc=>?_)<;>(try simp at hc)<;>(try omega))|(refine ZQ (fun hc=>?_) (fun hc=>?_)<;>(try simp at hc)<;>(try omega))|refine ZD 5 [] [(0,0),(1,0),(2,0),(3,0),(4,0),(5,0),(6,0),(7,0),(8,0),(9,0),(10,0),(11,0),(12,0),(13,0),(14,4),(15,0),(16,0),(17,0)] [] ?_|refine ZD 11 [] [(0,0),(1,0),(2,0),(3,0),(4,0),(5,0),(6,0),(7,0),(8,0),(9,0),(10,0),(11,0),(12,0),(13,0),(14,0),(15,4),(16,0)] [17] ?_|refine ZD 16 [] [(0,0),(1,0),(2,0),(3,0),(4,0),(5,0),(6,0),(7,0),(8,0),(9,0),(10,4),(11,0),(12,0)] [] ?_|refine ZD 17 [] [(0,0),(1,0),(2,0),(3,0),(4,0),(5,0),(6,0),(7,0),(8,0),(9,0),(10,0),(11,0),(12,0),(13,0),(14,0),(15,4),(16,0)] [17] ?_|refine ZD 22 [] [(0,0),(1,0),(2,0),(3,0),(4,0),(5,0),(6,0),(7,0),(8,0),(9,0),(10,4),(11,0),(12,0)] [] ?_|refine ZD 23 [] [(0,0),(1,0),(2,0),(3,0),(4,0),(5,0),(6,0),(7,0),(8,0),(9,0),(10,0),(11,0),(12,0),(13,0),(14,0),(15,4),(16,0)] [17] ?_|(refine ZF (fun hc=>?_) (fun hc=>?_)<;>(try simp at hc)<;>(try omega)))
    exact Zi ⟨i+1,by omega,by omega,g3.snoc W g1 hc0⟩ (by show bb - (i+1)<bb - i;omega) ⟨rfl,rfl,rfl,rfl,rfl,rfl,trivial⟩
  ·repeat' (first|refine ZH ?_|refine ZI ?_|refine ZK ?_|refine ZG ?_|refine ZM ?_|refine ZJ ?_|refine ZN ?_|refine ZP (fun b=>?_)|refine ZO (fun b=>?_)|refine ZA ?_|refine ZB ?_|refine ZX ?_|refine ZY ?_|refine Zf ?_|refine Za ?_|refine Zb ?_|refine Zc (fun b=>?_)|refine Zd (fun b=>?_)|refine Ze ?_|refine ZZ ?_|(refine ZC (fun hc=>?_) (fun hc=>?_)<;>(try simp at hc)<;>(try omega))|(refine ZQ (fun hc=>?_) (fun hc=>?_)<;>(try simp at hc)<;>(try omega))|refine ZD 5 [] [(0,0),(1,0),(2,0),(3,0),(4,0),(5,0),(6,0),(7,0),(8,0),(9,0),(10,0),(11,0),(12,0),(13,0),(14,4),(15,0),(16,0),(17,0)] [] ?_|refine ZD 11 [] [(0,0),(1,0),(2,0),(3,0),(4,0),(5,0),(6,0),(7,0),(8,0),(9,0),(10,0),(11,0),(12,0),(13,0),(14,0),(15,4),(16,0)] [17] ?_|refine ZD 16 [] [(0,0),(1,0),(2,0),(3,0),(4,0),(5,0),(6,0),(7,0),(8,0),(9,0),(10,4),(11,0),(12,0)] [] ?_|refine ZD 17 [] [(0,0),(1,0),(2,0),(3,0),(4,0),(5,0),(6,0),(7,0),(8,0),(9,0),(10,0),(11,0),(12,0),(13,0),(14,0),(15,4),(16,0)] [17] ?_|refine ZD 22 [] [(0,0),(1,0),(2,0),(3,0),(4,0),(5,0),(6,0),(7,0),(8,0),(9,0),(10,4),(11,0),(12,0)] [] ?_|refine ZD 23 [] [(0,0),(1,0),(2,0),(3,0),(4,0),(5,0),(6,0),(7,0),(8,0),(9,0),(10,0),(11,0),(12,0),(13,0),(14,0),(15,4),(16,0)] [17] ?_|(refine ZF (fun hc=>?_) (fun hc=>?_)<;>(try simp at hc)<;>(try omega)))
   exact Yg hx ⟨i,g1,g2,g3,fun h=>absurd h hib⟩ ⟨rfl,rfl,rfl,rfl,rfl,rfl,trivial⟩
 rintro ⟨i,g1,g2,g3,g4⟩
 dsimp only at g1 g2 g3 g4 ⊢
 by_cases hib:i=bb
 ·subst hib
  have e0:decide ((i:Int)=(i:Int))=true:=decide_eq_true rfl
  repeat' (first|refine ZH ?_|refine ZI ?_|refine ZK ?_|refine ZG ?_|refine ZM ?_|refine ZJ ?_|refine ZN ?_|refine ZP (fun b=>?_)|refine ZO (fun b=>?_)|refine ZA ?_|refine ZB ?_|(refine ZC (fun hc=>?_) (fun hc=>?_)<;>(try simp at hc)<;>(try omega))|(refine ZF (fun hc=>?_) (fun hc=>?_)<;>(try simp at hc)<;>(try omega)))
  exact XE (XR (YZ ⟨(true,m),h3,fun _=>g3⟩ rfl trivial))
 by_cases h50:bb - a<50
 ·repeat' (first|refine ZH ?_|refine ZI ?_|refine ZK ?_|refine ZG ?_|refine ZM ?_|refine ZJ ?_|refine ZN ?_|refine ZP (fun b=>?_)|refine ZO (fun b=>?_)|refine ZA ?_|refine ZB ?_|rw [wba]|(refine ZC (fun hc=>?_) (fun hc=>?_)<;>(try simp at hc)<;>(try omega))|(refine ZF (fun hc=>?_) (fun hc=>?_)<;>(try simp at hc)<;>(try omega)))
  exact XE (XR (YZ ⟨(false,m),h3,fun h=>by cases h⟩ rfl trivial))
 have hc0:=g4 (by omega)
 have hi:i<n:=by omega
 have hj:i - 1<n:=by omega
 have ki:i<m.length:=by omega
 have kj:i - 1<m.length:=by omega
 have kj2:i - 1<(m.set i (gt m (i - 1))).length:=by rw [List.length_set];exact kj
 have hqm:AxOK (m.length * 7) q:=by rw [hm,←hn];exact hq
 have hqm2:∀k y,AxOK ((m.set k y).length * 7) q:=fun k y=>by rw [List.length_set];exact hqm
 have wia:IntKind.i64.wrap ((i:Int) - (a:Int))=((i - a:Nat):Int):=by simp (disch:=omega) only [wrapi];omega
 have wbi:IntKind.i64.wrap ((bb:Int) - (i:Int))=((bb - i:Nat):Int):=by simp (disch:=omega) only [wrapi];omega
 have b1:((i:Int) == (bb:Int))=false:=by rw [beq_eq_false_iff_ne];omega
 have b2:decide (((bb - a:Nat):Int)<50)=false:=decide_eq_false (by omega)
 repeat' (first|refine ZH ?_|refine ZI ?_|refine ZK ?_|refine ZG ?_|refine ZM ?_|refine ZJ ?_|refine ZN ?_|refine ZP (fun b=>?_)|refine ZO (fun b=>?_)|refine ZA ?_|refine ZB ?_|refine ZX ?_|refine ZY ?_|refine Zf ?_|refine Za ?_|refine Zb ?_|refine Zc (fun b=>?_)|refine Zd (fun b=>?_)|refine Ze ?_|refine ZZ ?_|refine Zk (m:=n) (i) hi ?_|refine l_ixW (m:=n) (i) hi ?_|refine Zk (m:=n) (i - 1) hj ?_|refine l_ixW (m:=n) (i - 1) hj ?_|refine Zp 7 (i) 0 (ZR ki) ?_|refine Zp 7 (i - 1) 0 (ZR kj) ?_|refine Yp 7 (i) 0 (gt m (i - 1)) (ZR ki) hqm ?_|refine Z3 7 (i) 0 (gt m (i - 1)) (ZR ki) hqm ?_|refine Z3 7 (i - 1) 0 (gt m (i)) (ZR kj2) (hqm2 _ _) ?_|rw [wba]|rw [wia]|rw [b1]|rw [b2]|refine r_up ?_|(refine ZC (fun hc=>?_) (fun hc=>?_)<;>(try simp at hc))|(refine ZQ (fun hc=>?_) (fun hc=>?_)<;>(try simp at hc))|refine ZD 5 [] [(0,0),(1,0),(2,0),(3,0),(4,0),(5,0),(6,0),(7,0),(8,0),(9,0),(10,0),(11,0),(12,0),(13,0),(14,4),(15,0),(16,0),(17,0)] [] ?_|refine ZD 11 [Ax _ _ _ _ _] [(0,0),(1,0),(2,0),(3,0),(4,0),(5,0),(6,0),(7,0),(8,0),(10,0),(11,0),(12,0),(9,3),(13,3),(14,0),(15,4),(16,0)] [17] ?_)
 obtain ⟨m1,hm1⟩:∃m1,m1=sw m i (i - 1):=⟨_,rfl⟩
 have hw1:Win a bb l m1:=by rw [hm1];exact h3.trans (Win.sw (by omega) (by omega) (by omega) (by omega) (by omega))
 have hl1:Lsh c a i (i - 1) m1:=by rw [hm1];exact Lsh.init g3 (by omega) g1
 have hm1l:=hw1.len
 refine k_ax m1 hm1.symm ?_
 refine k_cut (Y:={m2:List Ch // Win a bb l m2∧Sw c a i m2}) (fun _=>[(0,.slice (some ⟨bk,0,none⟩) n cap),(1,.int .i64 (a:Int)),(2,.int .i64 (bb:Int)),(3,.func (.func fv) #[] #[]),(9,.int .i64 (i:Int)),(10,.int .i64 (r:Int))]) (fun _=>[Fc]) (fun m2=>[Ax 108 chf bk m2.1 q]) ?_ ?_
 ·rintro ⟨m2,hw2,hs2⟩
  dsimp only at hw2 hs2 ⊢
  have hm2l:=hw2.len
  by_cases hbi:bb - i<2
  ·repeat' (first|refine ZH ?_|refine ZI ?_|refine ZK ?_|refine ZG ?_|refine ZM ?_|refine ZJ ?_|refine ZN ?_|refine ZP (fun b=>?_)|refine ZO (fun b=>?_)|refine ZA ?_|refine ZB ?_|rw [wbi]|rw [wr]|(refine ZC (fun hc=>?_) (fun hc=>?_)<;>(try simp at hc)<;>(try omega))|(refine ZF (fun hc=>?_) (fun hc=>?_)<;>(try simp at hc)<;>(try omega)))
   exact Zi ⟨(r+1,i,m2),by show r+1≤5;omega,g1,g2,hw2,hs2⟩ (by show 5 - (r+1)<5 - r;omega) ⟨rfl,rfl,rfl,rfl,rfl,rfl,trivial⟩
  ·repeat' (first|refine ZH ?_|refine ZI ?_|refine ZK ?_|refine ZG ?_|refine ZM ?_|refine ZJ ?_|refine ZN ?_|refine ZP (fun b=>?_)|refine ZO (fun b=>?_)|refine ZA ?_|refine ZB ?_|rw [wbi]|rw [wi i hi]|(refine ZC (fun hc=>?_) (fun hc=>?_)<;>(try simp at hc)<;>(try omega))|(refine ZF (fun hc=>?_) (fun hc=>?_)<;>(try simp at hc)<;>(try omega)))
   refine WM (Y:={m3:List Ch // Win i bb m2 m3}) (X:={t:Nat×List Ch // i<t.1∧t.1≤bb∧Win i bb m2 t.2}) (fun t=>[(0,.slice (some ⟨bk,0,none⟩) n cap),(1,.int .i64 (a:Int)),(2,.int .i64 (bb:Int)),(3,.func (.func fv) #[] #[]),(9,.int .i64 (i:Int)),(10,.int .i64 (r:Int)),(12,.int .i64 (t.1.1:Int))]) (fun _=>[Fc]) (fun t=>[Ax 108 chf bk t.1.2 q]) (fun t=>bb - t.1.1)
    (fun _=>[(0,.slice (some ⟨bk,0,none⟩) n cap),(1,.int .i64 (a:Int)),(2,.int .i64 (bb:Int)),(3,.func (.func fv) #[] #[]),(9,.int .i64 (i:Int)),(10,.int .i64 (r:Int))]) (fun _=>[Fc]) (fun m3=>[Ax 108 chf bk m3.1 q]) ⟨(i+1,m2),by show i<i+1;omega,by show i+1≤bb;omega,Win.refl⟩ ⟨rfl,rfl,rfl,rfl,rfl,rfl,rfl,trivial⟩ ?_ ?_
   rotate_left
   ·intro hx
    rintro ⟨⟨j,m3⟩,j1,j2,j3⟩
    dsimp only at j1 j2 j3 ⊢
    have hm3l:=j3.len
    by_cases hjb:j<bb
    ·have hja:j<n:=by omega
     have hjb2:j - 1<n:=by omega
     have kja:j<m3.length:=by omega
     have kjb:j - 1<m3.length:=by omega
     have kjb2:j - 1<(m3.set j (gt m3 (j - 1))).length:=by rw [List.length_set];exact kjb
     have hU3:=(hw2.trans (j3.mono (by omega) (Nat.le_refl _))).sub hU
     have hq3:AxOK (m3.length * 7) q:=by rw [hm3l,hm2l,←hn];exact hq
     have hq32:∀k y,AxOK ((m3.set k y).length * 7) q:=fun k y=>by rw [List.length_set];exact hq3
     have sp:=hcmp (gt m3 j) (gt m3 (j - 1)) (hU3 _ (Z9 kja)) (hU3 _ (Z9 kjb))
     by_cases hc1:c (gt m3 j) (gt m3 (j - 1))<0
     ·repeat' (first|refine ZH ?_|refine ZI ?_|refine ZK ?_|refine ZG ?_|refine ZM ?_|refine ZJ ?_|refine ZN ?_|refine ZP (fun b=>?_)|refine ZO (fun b=>?_)|refine ZA ?_|refine ZB ?_|refine ZX ?_|refine ZY ?_|refine Zf ?_|refine Za ?_|refine Zb ?_|refine Zc (fun b=>?_)|refine Zd (fun b=>?_)|refine Ze ?_|refine ZZ ?_|refine Zk (m:=n) (j) hja ?_|refine l_ixW (m:=n) (j) hja ?_|refine Zk (m:=n) (j - 1) hjb2 ?_|refine l_ixW (m:=n) (j - 1) hjb2 ?_|refine Zp 7 (j) 0 (ZR kja) ?_|refine Zp 7 (j - 1) 0 (ZR kjb) ?_|refine Yp 7 (j) 0 (gt m3 (j - 1)) (ZR kja) hq3 ?_|refine Z3 7 (j) 0 (gt m3 (j - 1)) (ZR kja) hq3 ?_|refine Z3 7 (j - 1) 0 (gt m3 (j)) (ZR kjb2) (hq32 _ _) ?_|refine Zk (m:=n) (j) hja ?_|refine l_ixW (m:=n) (j) hja ?_|refine Zk (m:=n) (j - 1) hjb2 ?_|refine l_ixW (m:=n) (j - 1) hjb2 ?_|refine Zl 7 (j) 0 (ZR kja) ?_|refine Zn 7 (j) 0 (ZR kja) ?_|refine Zl 7 (j - 1) 0 (ZR kjb) ?_|refine Zn 7 (j - 1) 0 (ZR kjb) ?_|refine Zv sp (fun _ _=>?_)|rw [wi j hja]|refine r_up ?_|(refine ZC (fun hc=>?_) (fun hc=>?_)<;>(try simp at hc)<;>(try omega))|(refine ZQ (fun hc=>?_) (fun hc=>?_)<;>(try simp at hc)<;>(try omega))|refine ZD 5 [] [(0,0),(1,0),(2,0),(3,0),(4,0),(5,0),(6,0),(7,0),(8,0),(9,0),(10,0),(11,0),(12,0),(13,0),(14,4),(15,0),(16,0),(17,0)] [] ?_|refine ZD 11 [] [(0,0),(1,0),(2,0),(3,0),(4,0),(5,0),(6,0),(7,0),(8,0),(9,0),(10,0),(11,0),(12,0),(13,0),(14,0),(15,4),(16,0)] [17] ?_|refine ZD 16 [] [(0,0),(1,0),(2,0),(3,0),(4,0),(5,0),(6,0),(7,0),(8,0),(9,0),(10,4),(11,0),(12,0)] [] ?_|refine ZD 17 [] [(0,0),(1,0),(2,0),(3,0),(4,0),(5,0),(6,0),(7,0),(8,0),(9,0),(10,0),(11,0),(12,0),(13,0),(14,0),(15,4),(16,0)] [17] ?_|refine ZD 22 [] [(0,0),(1,0),(2,0),(3,0),(4,0),(5,0),(6,0),(7,0),(8,0),(9,0),(10,4),(11,0),(12,0)] [] ?_|refine ZD 23 [Ax _ _ _ _ _] [(0,0),(1,0),(2,0),(3,0),(4,0),(5,0),(6,0),(7,0),(8,0),(10,0),(11,0),(12,0),(9,3),(13,3),(14,0),(15,4),(16,0)] [17] ?_|(refine ZF (fun hc=>?_) (fun hc=>?_)<;>(try simp at hc)<;>(try omega)))
      exact Zi ⟨(j+1,sw m3 j (j - 1)),by show i<j+1;omega,by show j+1≤bb;omega,j3.trans (Win.sw (by omega) hjb (by omega) (by omega) (by omega))⟩ (by show bb - (j+1)<bb - j;omega) ⟨rfl,rfl,rfl,rfl,rfl,rfl,rfl,trivial⟩
     ·repeat' (first|refine ZH ?_|refine ZI ?_|refine ZK ?_|refine ZG ?_|refine ZM ?_|refine ZJ ?_|refine ZN ?_|refine ZP (fun b=>?_)|refine ZO (fun b=>?_)|refine ZA ?_|refine ZB ?_|refine ZX ?_|refine ZY ?_|refine Zf ?_|refine Za ?_|refine Zb ?_|refine Zc (fun b=>?_)|refine Zd (fun b=>?_)|refine Ze ?_|refine ZZ ?_|refine Zk (m:=n) (j) hja ?_|refine l_ixW (m:=n) (j) hja ?_|refine Zk (m:=n) (j - 1) hjb2 ?_|refine l_ixW (m:=n) (j - 1) hjb2 ?_|refine Zl 7 (j) 0 (ZR kja) ?_|refine Zn 7 (j) 0 (ZR kja) ?_|refine Zl 7 (j - 1) 0 (ZR kjb) ?_|refine Zn 7 (j - 1) 0 (ZR kjb) ?_|refine Zv sp (fun _ _=>?_)|(refine ZC (fun hc=>?_) (fun hc=>?_)<;>(try simp at hc)<;>(try omega))|(refine ZQ (fun hc=>?_) (fun hc=>?_)<;>(try simp at hc)<;>(try omega))|refine ZD 5 [] [(0,0),(1,0),(2,0),(3,0),(4,0),(5,0),(6,0),(7,0),(8,0),(9,0),(10,0),(11,0),(12,0),(13,0),(14,4),(15,0),(16,0),(17,0)] [] ?_|refine ZD 11 [] [(0,0),(1,0),(2,0),(3,0),(4,0),(5,0),(6,0),(7,0),(8,0),(9,0),(10,0),(11,0),(12,0),(13,0),(14,0),(15,4),(16,0)] [17] ?_|refine ZD 16 [] [(0,0),(1,0),(2,0),(3,0),(4,0),(5,0),(6,0),(7,0),(8,0),(9,0),(10,4),(11,0),(12,0)] [] ?_|refine ZD 17 [] [(0,0),(1,0),(2,0),(3,0),(4,0),(5,0),(6,0),(7,0),(8,0),(9,0),(10,0),(11,0),(12,0),(13,0),(14,0),(15,4),(16,0)] [17] ?_|refine ZD 22 [] [(0,0),(1,0),(2,0),(3,0),(4,0),(5,0),(6,0),(7,0),(8,0),(9,0),(10,4),(11,0),(12,0)] [] ?_|refine ZD 23 [] [(0,0),(1,0),(2,0),(3,0),(4,0),(5,0),(6,0),(7,0),(8,0),(9,0),(10,0),(11,0),(12,0),(13,0),(14,0),(15,4),(16,0)] [17] ?_|(refine ZF (fun hc=>?_) (fun hc=>?_)<;>(try simp at hc)<;>(try omega)))
      exact Yg hx ⟨m3,j3⟩ ⟨rfl,rfl,rfl,rfl,rfl,rfl,trivial⟩
    ·repeat' (first|refine ZH ?_|refine ZI ?_|refine ZK ?_|refine ZG ?_|refine ZM ?_|refine ZJ ?_|refine ZN ?_|refine ZP (fun b=>?_)|refine ZO (fun b=>?_)|refine ZA ?_|refine ZB ?_|(refine ZC (fun hc=>?_) (fun hc=>?_)<;>(try simp at hc)<;>(try omega))|(refine ZF (fun hc=>?_) (fun hc=>?_)<;>(try simp at hc)<;>(try omega)))
     exact Yg hx ⟨m3,j3⟩ ⟨rfl,rfl,rfl,rfl,rfl,rfl,trivial⟩
   rintro ⟨m3,j3⟩
   repeat' (first|refine ZH ?_|refine ZI ?_|refine ZK ?_|refine ZG ?_|refine ZM ?_|refine ZJ ?_|refine ZN ?_|refine ZP (fun b=>?_)|refine ZO (fun b=>?_)|refine ZA ?_|refine ZB ?_|rw [wr]|(refine ZC (fun hc=>?_) (fun hc=>?_)<;>(try simp at hc)<;>(try omega))|(refine ZF (fun hc=>?_) (fun hc=>?_)<;>(try simp at hc)<;>(try omega)))
   exact Zi ⟨(r+1,i,m3),by show r+1≤5;omega,g1,g2,hw2.trans (j3.mono (by omega) (Nat.le_refl _)),hs2.out j3⟩ (by show 5 - (r+1)<5 - r;omega) ⟨rfl,rfl,rfl,rfl,rfl,rfl,trivial⟩
 ·intro hcut
  by_cases hia:i - a<2
  ·repeat' (first|refine WN ?_|refine k_to hcut ⟨m1,hw1,Sw.nil (by omega)⟩ ⟨rfl,rfl,rfl,rfl,rfl,rfl,trivial⟩|refine ZH ?_|refine ZI ?_|refine ZK ?_|refine ZG ?_|refine ZM ?_|refine ZJ ?_|refine ZN ?_|refine ZP (fun b=>?_)|refine ZO (fun b=>?_)|refine ZA ?_|refine ZB ?_|(refine ZC (fun hc=>?_) (fun hc=>?_)<;>(try simp at hc)<;>(try omega))|(refine ZF (fun hc=>?_) (fun hc=>?_)<;>(try simp at hc)<;>(try omega)))
  ·repeat' (first|refine ZH ?_|refine ZI ?_|refine ZK ?_|refine ZG ?_|refine ZM ?_|refine ZJ ?_|refine ZN ?_|refine ZP (fun b=>?_)|refine ZO (fun b=>?_)|refine ZA ?_|refine ZB ?_|rw [wj i (by omega) hi]|(refine ZC (fun hc=>?_) (fun hc=>?_)<;>(try simp at hc)<;>(try omega))|(refine ZF (fun hc=>?_) (fun hc=>?_)<;>(try simp at hc)<;>(try omega)))
   refine WM (Y:={m3:List Ch // Win a i m1 m3∧Sw c a i m3}) (X:={t:Nat×List Ch // a≤t.1∧t.1<i∧Win a i m1 t.2∧Lsh c a i t.1 t.2}) (fun t=>[(0,.slice (some ⟨bk,0,none⟩) n cap),(1,.int .i64 (a:Int)),(2,.int .i64 (bb:Int)),(3,.func (.func fv) #[] #[]),(9,.int .i64 (i:Int)),(10,.int .i64 (r:Int)),(11,.int .i64 (t.1.1:Int))]) (fun _=>[Fc]) (fun t=>[Ax 108 chf bk t.1.2 q]) (fun t=>t.1.1)
    (fun _=>[(0,.slice (some ⟨bk,0,none⟩) n cap),(1,.int .i64 (a:Int)),(2,.int .i64 (bb:Int)),(3,.func (.func fv) #[] #[]),(9,.int .i64 (i:Int)),(10,.int .i64 (r:Int))]) (fun _=>[Fc]) (fun m3=>[Ax 108 chf bk m3.1 q]) ⟨(i - 1,m1),by show a≤i - 1;omega,by show i - 1<i;omega,Win.refl,hl1⟩ ⟨rfl,rfl,rfl,rfl,rfl,rfl,rfl,trivial⟩ ?_ ?_
   rotate_left
   ·intro hx
    rintro ⟨⟨j,m3⟩,j1,j2,j3,j4⟩
    dsimp only at j1 j2 j3 j4 ⊢
    have hm3l:=j3.len
    have hw3:=hw1.trans (j3.mono (Nat.le_refl _) g2)
    by_cases hj0:1≤j
    ·have hja:j<n:=by omega
     have hjb2:j - 1<n:=by omega
     have kja:j<m3.length:=by omega
     have kjb:j - 1<m3.length:=by omega
     have kjb2:j - 1<(m3.set j (gt m3 (j - 1))).length:=by rw [List.length_set];exact kjb
     have hU3:=hw3.sub hU
     have hq3:AxOK (m3.length * 7) q:=by rw [hm3l,hm1l,←hn];exact hq
     have hq32:∀k y,AxOK ((m3.set k y).length * 7) q:=fun k y=>by rw [List.length_set];exact hq3
     have sp:=hcmp (gt m3 j) (gt m3 (j - 1)) (hU3 _ (Z9 kja)) (hU3 _ (Z9 kjb))
     by_cases hc1:c (gt m3 j) (gt m3 (j - 1))<0
     ·have haj:a<j:=by
       by_cases hj:j=a
       ·subst hj
        exact absurd hc1 (hlw.win hw3 (by omega) (by omega) j (Nat.le_refl _) hab)
       ·omega
      repeat' (first|refine ZH ?_|refine ZI ?_|refine ZK ?_|refine ZG ?_|refine ZM ?_|refine ZJ ?_|refine ZN ?_|refine ZP (fun b=>?_)|refine ZO (fun b=>?_)|refine ZA ?_|refine ZB ?_|refine ZX ?_|refine ZY ?_|refine Zf ?_|refine Za ?_|refine Zb ?_|refine Zc (fun b=>?_)|refine Zd (fun b=>?_)|refine Ze ?_|refine ZZ ?_|refine Zk (m:=n) (j) hja ?_|refine l_ixW (m:=n) (j) hja ?_|refine Zk (m:=n) (j - 1) hjb2 ?_|refine l_ixW (m:=n) (j - 1) hjb2 ?_|refine Zp 7 (j) 0 (ZR kja) ?_|refine Zp 7 (j - 1) 0 (ZR kjb) ?_|refine Yp 7 (j) 0 (gt m3 (j - 1)) (ZR kja) hq3 ?_|refine Z3 7 (j) 0 (gt m3 (j - 1)) (ZR kja) hq3 ?_|refine Z3 7 (j - 1) 0 (gt m3 (j)) (ZR kjb2) (hq32 _ _) ?_|refine Zk (m:=n) (j) hja ?_|refine l_ixW (m:=n) (j) hja ?_|refine Zk (m:=n) (j - 1) hjb2 ?_|refine l_ixW (m:=n) (j - 1) hjb2 ?_|refine Zl 7 (j) 0 (ZR kja) ?_|refine Zn 7 (j) 0 (ZR kja) ?_|refine Zl 7 (j - 1) 0 (ZR kjb) ?_|refine Zn 7 (j - 1) 0 (ZR kjb) ?_|refine Zv sp (fun _ _=>?_)|rw [wj j hj0 hja]|refine r_up ?_|(refine ZC (fun hc=>?_) (fun hc=>?_)<;>(try simp at hc)<;>(try omega))|(refine ZQ (fun hc=>?_) (fun hc=>?_)<;>(try simp at hc)<;>(try omega))|refine ZD 5 [] [(0,0),(1,0),(2,0),(3,0),(4,0),(5,0),(6,0),(7,0),(8,0),(9,0),(10,0),(11,0),(12,0),(13,0),(14,4),(15,0),(16,0),(17,0)] [] ?_|refine ZD 11 [] [(0,0),(1,0),(2,0),(3,0),(4,0),(5,0),(6,0),(7,0),(8,0),(9,0),(10,0),(11,0),(12,0),(13,0),(14,0),(15,4),(16,0)] [17] ?_|refine ZD 16 [] [(0,0),(1,0),(2,0),(3,0),(4,0),(5,0),(6,0),(7,0),(8,0),(9,0),(10,4),(11,0),(12,0)] [] ?_|refine ZD 17 [Ax _ _ _ _ _] [(0,0),(1,0),(2,0),(3,0),(4,0),(5,0),(6,0),(7,0),(8,0),(10,0),(11,0),(12,0),(9,3),(13,3),(14,0),(15,4),(16,0)] [17] ?_|refine ZD 22 [] [(0,0),(1,0),(2,0),(3,0),(4,0),(5,0),(6,0),(7,0),(8,0),(9,0),(10,4),(11,0),(12,0)] [] ?_|refine ZD 23 [] [(0,0),(1,0),(2,0),(3,0),(4,0),(5,0),(6,0),(7,0),(8,0),(9,0),(10,0),(11,0),(12,0),(13,0),(14,0),(15,4),(16,0)] [17] ?_|(refine ZF (fun hc=>?_) (fun hc=>?_)<;>(try simp at hc)<;>(try omega)))
      exact Zi ⟨(j - 1,sw m3 j (j - 1)),by show a≤j - 1;omega,by show j - 1<i;omega,j3.trans (Win.sw j1 j2 (by omega) (by omega) (by omega)),j4.step W haj j2 (by omega) hc1⟩ (by show j - 1<j;omega) ⟨rfl,rfl,rfl,rfl,rfl,rfl,rfl,trivial⟩
     ·repeat' (first|refine ZH ?_|refine ZI ?_|refine ZK ?_|refine ZG ?_|refine ZM ?_|refine ZJ ?_|refine ZN ?_|refine ZP (fun b=>?_)|refine ZO (fun b=>?_)|refine ZA ?_|refine ZB ?_|refine ZX ?_|refine ZY ?_|refine Zf ?_|refine Za ?_|refine Zb ?_|refine Zc (fun b=>?_)|refine Zd (fun b=>?_)|refine Ze ?_|refine ZZ ?_|refine Zk (m:=n) (j) hja ?_|refine l_ixW (m:=n) (j) hja ?_|refine Zk (m:=n) (j - 1) hjb2 ?_|refine l_ixW (m:=n) (j - 1) hjb2 ?_|refine Zl 7 (j) 0 (ZR kja) ?_|refine Zn 7 (j) 0 (ZR kja) ?_|refine Zl 7 (j - 1) 0 (ZR kjb) ?_|refine Zn 7 (j - 1) 0 (ZR kjb) ?_|refine Zv sp (fun _ _=>?_)|(refine ZC (fun hc=>?_) (fun hc=>?_)<;>(try simp at hc)<;>(try omega))|(refine ZQ (fun hc=>?_) (fun hc=>?_)<;>(try simp at hc)<;>(try omega))|refine ZD 5 [] [(0,0),(1,0),(2,0),(3,0),(4,0),(5,0),(6,0),(7,0),(8,0),(9,0),(10,0),(11,0),(12,0),(13,0),(14,4),(15,0),(16,0),(17,0)] [] ?_|refine ZD 11 [] [(0,0),(1,0),(2,0),(3,0),(4,0),(5,0),(6,0),(7,0),(8,0),(9,0),(10,0),(11,0),(12,0),(13,0),(14,0),(15,4),(16,0)] [17] ?_|refine ZD 16 [] [(0,0),(1,0),(2,0),(3,0),(4,0),(5,0),(6,0),(7,0),(8,0),(9,0),(10,4),(11,0),(12,0)] [] ?_|refine ZD 17 [] [(0,0),(1,0),(2,0),(3,0),(4,0),(5,0),(6,0),(7,0),(8,0),(9,0),(10,0),(11,0),(12,0),(13,0),(14,0),(15,4),(16,0)] [17] ?_|refine ZD 22 [] [(0,0),(1,0),(2,0),(3,0),(4,0),(5,0),(6,0),(7,0),(8,0),(9,0),(10,4),(11,0),(12,0)] [] ?_|refine ZD 23 [] [(0,0),(1,0),(2,0),(3,0),(4,0),(5,0),(6,0),(7,0),(8,0),(9,0),(10,0),(11,0),(12,0),(13,0),(14,0),(15,4),(16,0)] [17] ?_|(refine ZF (fun hc=>?_) (fun hc=>?_)<;>(try simp at hc)<;>(try omega)))
      exact Yg hx ⟨m3,j3,j4.stop W fun _=>hc1⟩ ⟨rfl,rfl,rfl,rfl,rfl,rfl,trivial⟩
    ·repeat' (first|refine ZH ?_|refine ZI ?_|refine ZK ?_|refine ZG ?_|refine ZM ?_|refine ZJ ?_|refine ZN ?_|refine ZP (fun b=>?_)|refine ZO (fun b=>?_)|refine ZA ?_|refine ZB ?_|(refine ZC (fun hc=>?_) (fun hc=>?_)<;>(try simp at hc)<;>(try omega))|(refine ZF (fun hc=>?_) (fun hc=>?_)<;>(try simp at hc)<;>(try omega)))
     exact Yg hx ⟨m3,j3,j4.stop W fun h=>by omega⟩ ⟨rfl,rfl,rfl,rfl,rfl,rfl,trivial⟩
   rintro ⟨m3,j3,j4⟩
   dsimp only at j3 j4 ⊢
   exact k_to hcut ⟨m3,hw1.trans (j3.mono (Nat.le_refl _) g2),j4⟩ ⟨rfl,rfl,rfl,rfl,rfl,rfl,trivial⟩
end
section
variable (bk cap:Nat) (q:List Value×(Nat×Nat)) (fv:FuncId) (Fc:Pf) (c:Ch→Ch→Int) (W:Wk0 c) (U:Ch→Prop) (hcmp:∀x y,U x→U y→Enters fv∧Spec prog fv #[x.v,y.v] [Fc] [] (RetV (.int .i64 (c x y))))
include hcmp W in
theorem insSC_ok (l:List Ch) (n:Nat) (hn:n=l.length) (hn2:n≤1000000) (hq:AxOK (n * 7) q) (hU:∀x ∈ l,U x) (a bb:Nat) (hab:a≤bb) (hb:bb≤n) :
  Enters 173∧Spec prog 173 #[.slice (some ⟨bk,0,none⟩) n cap,.int .i64 (a:Int),.int .i64 (bb:Int),.func (.func fv) #[] #[]] [Fc] [Ax 108 chf bk l q]
   ⟨{l':List Ch // Win a bb l l'∧Sw c a bb l'},fun _=>.tuple #[],fun _=>True,fun _=>[],fun l'=>[Ax 108 chf bk l'.1 q]⟩:=by
 obtain ⟨A,M,B,hl,hA,hM⟩:∃A M B,l=A++(M++B)∧A.length=a∧M.length=bb - a:=⟨l.take a,(l.drop a).take (bb - a),(l.drop a).drop (bb - a),by rw [List.take_append_drop,List.take_append_drop],by rw [List.length_take];omega,by rw [List.length_take,List.length_drop];omega⟩
 subst hl hA
 have e:bb=A.length+M.length:=by omega
 subst e
 have s:=insWC_ok bk cap q fv Fc c U hcmp A M B n (by rw [hn];simp) hn2 hq hU
 have h:=sw_of (A:=A) (B:=B) (isR_srd W M)
 rw [isR_len] at h
 exact ⟨s.1,s.2.imp fun G w hp x w' hx hs=>⟨⟨A++(isR c M++B),win_of (isR_perm M),h⟩,rfl,trivial,hs⟩⟩
include hcmp W in
set_option maxHeartbeats 8000000 in
theorem pdqWC_ok:∀(N:Nat) (l:List Ch) (n:Nat) (_:n=l.length) (_:n<256) (_:AxOK (n * 7) q) (_:∀x ∈ l,U x) (a bb:Nat) (_:a≤bb) (_:bb≤n) (_:bb - a≤N) (_:Lw c a bb l) (lim:Int),
  Enters 130∧Spec prog 130 #[.slice (some ⟨bk,0,none⟩) n cap,.int .i64 (a:Int),.int .i64 (bb:Int),.int .i64 lim,.func (.func fv) #[] #[]] [Fc] [Ax 108 chf bk l q]
   ⟨{l':List Ch // Win a bb l l'∧Sw c a bb l'},fun _=>.tuple #[],fun _=>True,fun _=>[],fun l'=>[Ax 108 chf bk l'.1 q]⟩:=by
 intro N
 induction N using Nat.strongRecOn with
 | ind N ih=>
 intro l n hn hn2 hq hU a bb hab hb hN hlw lim
 have ih2:=fun (m:List Ch) (hm:n=m.length) (hUm:∀x ∈ m,U x) (a' b':Nat) (h1:a'≤b') (h2:b'≤n) (h3:b' - a'<bb - a) (h4:Lw c a' b' m) lim=>ih (b' - a') (by omega) m n hm hn2 hq hUm a' b' h1 h2 (Nat.le_refl _) h4 lim
 clear ih
 refine ZV [_,_,_,_,_] func130 ntmps130 fun G w hp=>?_
 repeat' (first|refine ZH ?_|refine ZI ?_|refine ZK ?_|refine ZG ?_|refine ZM ?_|refine ZJ ?_|refine ZN ?_|refine ZP (fun b=>?_)|refine ZO (fun b=>?_)|refine ZA ?_|refine ZB ?_|(refine ZC (fun hc=>?_) (fun hc=>?_)<;>(try simp at hc))|(refine ZF (fun hc=>?_) (fun hc=>?_)<;>(try simp at hc)))
 refine YT (X:={t:Nat×Nat×Int×Bool×Bool×List Ch // t.1≤t.2.1∧Jw c a bb t.1 t.2.1 l t.2.2.2.2.2}) (fun t=>[(0,.slice (some ⟨bk,0,none⟩) n cap),(1,.int .i64 (t.1.1:Int)),(2,.int .i64 (t.1.2.1:Int)),(3,.int .i64 t.1.2.2.1),(4,.func (.func fv) #[] #[]),(10,.bool t.1.2.2.2.1),(11,.bool t.1.2.2.2.2.1)]) (fun _=>[Fc]) (fun t=>[Ax 108 chf bk t.1.2.2.2.2.2 q]) (fun t=>t.1.2.1 - t.1.1)
  ⟨(a,bb,lim,true,true,l),hab,Jw.init⟩ ⟨rfl,rfl,rfl,rfl,rfl,rfl,rfl,trivial⟩ ?_
 rintro ⟨⟨a1,b1,li,wb,wp,m⟩,h1,hJ⟩
 dsimp only at h1 hJ ⊢
 have hm:=hJ.w.len
 have ha1:=hJ.h1
 have hb1:=hJ.h2
 have hUm:=hJ.w.sub hU
 have hbl:bb≤l.length:=by omega
 obtain ⟨L,hL⟩:∃L,L=b1 - a1:=⟨_,rfl⟩
 have w0:IntKind.i64.wrap ((b1:Int) - (a1:Int))=(L:Int):=by simp (disch:=omega) only [wrapi];omega
 by_cases h12:L≤12
 ·have s1:=insSC_ok bk cap q fv Fc c W U hcmp m n (by omega) (by omega) hq hUm a1 b1 h1 (by omega)
  repeat' (first|refine ZH ?_|refine ZI ?_|refine ZK ?_|refine ZG ?_|refine ZM ?_|refine ZJ ?_|refine ZN ?_|refine ZP (fun b=>?_)|refine ZO (fun b=>?_)|refine ZA ?_|refine ZB ?_|refine ZE (s1) (fun _ _=>?_)|refine l_call0 (s1) (fun _ _=>?_)|rw [w0]|(refine ZC (fun hc=>?_) (fun hc=>?_)<;>(try simp at hc)<;>(try omega))|(refine ZF (fun hc=>?_) (fun hc=>?_)<;>(try simp at hc)<;>(try omega)))
  rename_i l' _
  obtain ⟨l',g1,g2⟩:=l'
  exact XE (XR (YZ ⟨l',(hJ.win hbl g1).done g2⟩ rfl trivial))
 by_cases hli:li=0
 ·have s1:=heapC_ok bk cap q fv Fc c W U hcmp m n (by omega) (by omega) hq hUm a1 b1 (by omega) (by omega)
  repeat' (first|refine ZH ?_|refine ZI ?_|refine ZK ?_|refine ZG ?_|refine ZM ?_|refine ZJ ?_|refine ZN ?_|refine ZP (fun b=>?_)|refine ZO (fun b=>?_)|refine ZA ?_|refine ZB ?_|refine ZE (s1) (fun _ _=>?_)|refine l_call0 (s1) (fun _ _=>?_)|rw [w0]|(refine ZC (fun hc=>?_) (fun hc=>?_)<;>(try simp at hc)<;>(try omega))|(refine ZF (fun hc=>?_) (fun hc=>?_)<;>(try simp at hc)<;>(try omega)))
  rename_i l' _
  obtain ⟨l',g1,g2⟩:=l'
  exact XE (XR (YZ ⟨l',(hJ.win hbl g1).done g2⟩ rfl trivial))
 have e12:decide ((L:Int)≤12)=false:=decide_eq_false (by omega)
 have eli:(li == 0)=false:=by rw [beq_eq_false_iff_ne];exact hli
 repeat' (first|refine ZH ?_|refine ZI ?_|refine ZK ?_|refine ZG ?_|refine ZM ?_|refine ZJ ?_|refine ZN ?_|refine ZP (fun b=>?_)|refine ZO (fun b=>?_)|refine ZA ?_|refine ZB ?_|rw [w0]|rw [e12]|rw [eli]|(refine ZC (fun hc=>?_) (fun hc=>?_)<;>(try simp at hc)))
 refine k_cut (Y:={t:Int×List Ch // Win a1 b1 m t.2}) (fun t=>[(0,.slice (some ⟨bk,0,none⟩) n cap),(1,.int .i64 (a1:Int)),(2,.int .i64 (b1:Int)),(3,.int .i64 t.1.1),(4,.func (.func fv) #[] #[]),(10,.bool wb),(11,.bool wp),(12,.int .i64 (L:Int))]) (fun _=>[Fc]) (fun t=>[Ax 108 chf bk t.1.2 q]) ?_ ?_
 rotate_left
 ·intro hcut
  cases wb with
  | true=>
   repeat' (first|refine WN ?_|refine k_to hcut ⟨(li,m),Win.refl⟩ ⟨rfl,rfl,rfl,rfl,rfl,rfl,rfl,rfl,trivial⟩|refine ZH ?_|refine ZI ?_|refine ZK ?_|refine ZG ?_|refine ZM ?_|refine ZJ ?_|refine ZN ?_|refine ZP (fun b=>?_)|refine ZO (fun b=>?_)|refine ZA ?_|refine ZB ?_|(refine ZC (fun hc=>?_) (fun hc=>?_)<;>(try simp at hc))|(refine ZF (fun hc=>?_) (fun hc=>?_)<;>(try simp at hc)))
  | false=>
   have s1:=brkC_ok bk cap q fv Fc m n (by omega) hn2 hq a1 b1 (by omega) (by omega)
   repeat' (first|refine WN ?_|refine k_to hcut ⟨(_,_),?_⟩ ⟨rfl,rfl,rfl,rfl,rfl,rfl,rfl,rfl,trivial⟩|refine ZH ?_|refine ZI ?_|refine ZK ?_|refine ZG ?_|refine ZM ?_|refine ZJ ?_|refine ZN ?_|refine ZP (fun b=>?_)|refine ZO (fun b=>?_)|refine ZA ?_|refine ZB ?_|refine ZE (s1) (fun _ _=>?_)|refine l_call0 (s1) (fun _ _=>?_)|(refine ZC (fun hc=>?_) (fun hc=>?_)<;>(try simp at hc))|(refine ZF (fun hc=>?_) (fun hc=>?_)<;>(try simp at hc)))
   rename_i l' _
   exact l'.2
 rintro ⟨⟨li1,m1⟩,hw1⟩
 dsimp only at hw1 ⊢
 have hm1:=hw1.len
 have hJ1:=hJ.win hbl hw1
 have sp:=chpC_ok bk cap q fv Fc c U hcmp m1 n (by omega) (by omega) (hJ1.w.sub hU) a1 b1 (by omega) (by omega)
 repeat' (first|refine ZH ?_|refine ZI ?_|refine ZK ?_|refine ZG ?_|refine ZM ?_|refine ZJ ?_|refine ZN ?_|refine ZP (fun b=>?_)|refine ZO (fun b=>?_)|refine ZA ?_|refine ZB ?_|refine ZE (sp) (fun _ _=>?_)|refine l_call0 (sp) (fun _ _=>?_)|(refine ZC (fun hc=>?_) (fun hc=>?_)<;>(try simp at hc)))
 rename_i p _
 obtain ⟨⟨p,z⟩,hp1,hp2,hz⟩:=p
 dsimp only at hp1 hp2 hz ⊢
 refine k_cut (Y:={t:Nat×Int×List Ch // a1≤t.1∧t.1<b1∧Win a1 b1 m1 t.2.2}) (fun t=>[(0,.slice (some ⟨bk,0,none⟩) n cap),(1,.int .i64 (a1:Int)),(2,.int .i64 (b1:Int)),(3,.int .i64 li1),(4,.func (.func fv) #[] #[]),(10,.bool wb),(11,.bool wp),(12,.int .i64 (L:Int)),(13,.int .i64 (t.1.1:Int)),(14,.int .i64 t.1.2.1)]) (fun _=>[Fc]) (fun t=>[Ax 108 chf bk t.1.2.2 q]) ?_ ?_
 rotate_left
 ·intro hcut
  by_cases hz2:z=2
  ·subst hz2
   have s1:=revC_ok bk cap q fv Fc m1 n (by omega) (by omega) hq a1 b1 (by omega) (by omega)
   have w1:IntKind.i64.wrap (IntKind.i64.wrap ((b1:Int) - 1) - IntKind.i64.wrap ((p:Int) - (a1:Int)))=((b1 - 1 - (p - a1):Nat):Int):=by simp (disch:=omega) only [wrapi];omega
   refine ZA ?_
   refine ZG ?_
   repeat' (first|refine ZH ?_|refine l_call0 s1 (fun _ _=>?_)|refine ZE s1 (fun _ _=>?_))
   refine ZI ?_
   refine ZG ?_
   repeat' (first|refine ZH ?_)
   rw [w1]
   refine ZI ?_
   refine ZG ?_
   repeat' (first|refine ZH ?_)
   refine ZI ?_
   rename_i l' _
   refine k_to hcut ⟨(b1 - 1 - (p - a1),_,_),?_⟩ ⟨rfl,rfl,rfl,rfl,rfl,rfl,rfl,rfl,rfl,rfl,trivial⟩
   exact ⟨by show a1≤b1 - 1 - (p - a1);omega,by show b1 - 1 - (p - a1)<b1;omega,l'.2⟩
  ·have ez:(z == 2)=false:=by rw [beq_eq_false_iff_ne];exact hz2
   rw [ez]
   repeat' (first|refine WN ?_|refine k_to hcut ⟨(p,z,m1),hp1,hp2,Win.refl⟩ ⟨rfl,rfl,rfl,rfl,rfl,rfl,rfl,rfl,rfl,rfl,trivial⟩|refine ZH ?_|refine ZI ?_|refine ZK ?_|refine ZG ?_|refine ZM ?_|refine ZJ ?_|refine ZN ?_|refine ZP (fun b=>?_)|refine ZO (fun b=>?_)|refine ZA ?_|refine ZB ?_|(refine ZC (fun hc=>?_) (fun hc=>?_)<;>(try simp at hc))|(refine ZF (fun hc=>?_) (fun hc=>?_)<;>(try simp at hc)))
 rintro ⟨⟨p,z,m2⟩,hp1,hp2,hw2⟩
 dsimp only at hp1 hp2 hw2 ⊢
 have hm2:=hw2.len
 have hJ2:=hJ1.win hbl hw2
 have hlw2:=hJ2.low hbl hlw
 have sp:=pinsC_ok bk cap q fv Fc c W U hcmp m2 n (by omega) (by omega) hq (hJ2.w.sub hU) a1 b1 (by omega) (by omega) hlw2
 refine k_cutd (Y:={m3:List Ch // Win a1 b1 m2 m3}) 1 (fun _=>[(0,.slice (some ⟨bk,0,none⟩) n cap),(1,.int .i64 (a1:Int)),(2,.int .i64 (b1:Int)),(3,.int .i64 li1),(4,.func (.func fv) #[] #[]),(10,.bool wb),(11,.bool wp),(12,.int .i64 (L:Int)),(13,.int .i64 (p:Int))]) (fun _=>[Fc]) (fun m3=>[Ax 108 chf bk m3.1 q]) ?_ ?_
 rotate_left
 ·intro hcut
  repeat' (first|refine WN ?_|refine k_to hcut ⟨_,?_⟩ ⟨rfl,rfl,rfl,rfl,rfl,rfl,rfl,rfl,rfl,trivial⟩|refine ZH ?_|refine ZI ?_|refine ZK ?_|refine ZG ?_|refine ZM ?_|refine ZJ ?_|refine ZN ?_|refine ZP (fun b=>?_)|refine ZO (fun b=>?_)|refine ZA ?_|refine ZB ?_|refine ZE (sp) (fun _ _=>?_)|refine l_call0 (sp) (fun _ _=>?_)|(refine ZC (fun hc=>?_) (fun hc=>?_)<;>(try simp at hc))|(refine ZF (fun hc=>?_) (fun hc=>?_)<;>(try simp at hc)))
  ·rename_i x _
   obtain ⟨⟨f,m3⟩,g1,g2⟩:=x
   obtain rfl:f=true:=hc
   exact XE (XR (YZ ⟨m3,(hJ2.win hbl g1).done (g2 rfl)⟩ rfl trivial))
  ·rename_i x _
   exact x.2.1
  all_goals exact Win.refl
 rintro ⟨m3,hw3⟩
 dsimp only at hw3 ⊢
 have hm3:=hw3.len
 have hJ3:=hJ2.win hbl hw3
 have hlw3:=hJ3.low hbl hlw
 have hU3:=hJ3.w.sub hU
 have hn3:n=m3.length:=by omega
 have hp:p<n:=by omega
 have kp:p<m3.length:=by omega
 have ga:=fun (h:0<a1)=>ZR (l:=m3) (i:=a1 - 1) (by omega)
 have wa1:0<a1→IntKind.i64.wrap ((a1:Int) - 1)=((a1 - 1:Nat):Int):=fun h=>by simp (disch:=omega) only [wrapi];omega
 by_cases h0:0<a1∧¬c (gt m3 (a1 - 1)) (gt m3 p)<0
 ·have g1:=ga h0.1
  have hh1:a1 - 1<n:=by omega
  have sp2:=hcmp (gt m3 (a1 - 1)) (gt m3 p) (hU3 _ (Z9 (by omega))) (hU3 _ (Z9 kp))
  have s1:=parEC_ok bk cap q fv Fc c W U hcmp m3 n hn3 (by omega) hq hU3 a1 b1 p (by omega) (by omega) hp1 hp2
  have h01:=h0.1
  have h02:=h0.2
  repeat' (first|refine ZH ?_|refine ZI ?_|refine ZK ?_|refine ZG ?_|refine ZM ?_|refine ZJ ?_|refine ZN ?_|refine ZP (fun b=>?_)|refine ZO (fun b=>?_)|refine ZA ?_|refine ZB ?_|refine ZX ?_|refine ZY ?_|refine Zf ?_|refine Za ?_|refine Zb ?_|refine Zc (fun b=>?_)|refine Zd (fun b=>?_)|refine Ze ?_|refine ZZ ?_|refine ZE (s1) (fun _ _=>?_)|refine l_call0 (s1) (fun _ _=>?_)|refine ZS (s1) (fun _ _=>?_)|rw [wa1 h01]|refine Zk (m:=n) (a1 - 1) hh1 ?_|refine Zk (m:=n) p hp ?_|refine Zl 7 (a1 - 1) 0 g1 ?_|refine Zl 7 p 0 (ZR kp) ?_|refine Zv sp2 (fun _ _=>?_)|(refine ZC (fun hc=>?_) (fun hc=>?_)<;>(try simp at hc)<;>(try omega))|(refine ZQ (fun hc=>?_) (fun hc=>?_)<;>(try simp at hc)<;>(try omega))|refine ZD 17 [] [(0,0),(1,0),(2,0),(3,0),(4,0),(5,0),(6,0),(7,0),(8,0),(9,0),(10,0),(11,0),(12,0),(13,4),(14,0),(15,0),(16,0)] [] ?_|(refine ZF (fun hc=>?_) (fun hc=>?_)<;>(try simp at hc)<;>(try omega)))
  rename_i x _
  obtain ⟨⟨mid,m4⟩,f1,f2,f3,f4,f5⟩:=x
  dsimp only at f1 f2 f3 f4 f5 ⊢
  have hlow:∀k,a1≤k→k<b1→¬c (gt m4 k) (gt m4 a1)<0:=fun k k1 k2=>by
   rw [f4]
   exact f1.all (by omega) (P:=fun x=>¬c x (gt m3 p)<0) (fun k k1 k2=>W.t _ _ _ h02 (hlw3 h01 k k1 k2)) k k1 k2
  exact Zi ⟨(mid,b1,li1,wb,wp,m4),f3,(hJ3.win hbl f1).shrink (by omega) (Nat.le_refl _) (eq_shrink W hlow f5)⟩ (by show b1 - mid<b1 - a1;omega) ⟨rfl,rfl,rfl,rfl,rfl,rfl,rfl,trivial⟩
 ·have s1:=partC_ok bk cap q fv Fc c U hcmp m3 n hn3 (by omega) hq hU3 a1 b1 p (by omega) (by omega) hp1 hp2
  have w8:IntKind.i64.wrap ((L:Int).tdiv 8)=((L / 8:Nat):Int):=by
   have:(L:Int).tdiv 8=((L / 8:Nat):Int):=(Int.ofNat_tdiv _ _).symm
   rw [this,wrapi (by omega) (by omega)]
  have key:∀(mid:Nat) (ap:Bool) (m4:List Ch),Win a1 b1 m3 m4→Pt0 c a1 b1 mid m4→True:=fun _ _ _ _ _=>trivial
  clear key
  refine k_cutd (Y:={t:Nat×Bool×List Ch // Win a1 b1 m3 t.2.2∧Pt0 c a1 b1 t.1 t.2.2}) 2 (fun t=>[(0,.slice (some ⟨bk,0,none⟩) n cap),(1,.int .i64 (a1:Int)),(2,.int .i64 (b1:Int)),(3,.int .i64 li1),(4,.func (.func fv) #[] #[]),(12,.int .i64 (L:Int)),(16,.int .i64 (t.1.1:Int)),(17,.bool t.1.2.1)]) (fun _=>[Fc]) (fun t=>[Ax 108 chf bk t.1.2.2 q]) ?_ ?_
  rotate_left
  ·intro hcut
   by_cases h01:0<a1
   ·have g1:=ga h01
    have hh1:a1 - 1<n:=by omega
    have sp2:=hcmp (gt m3 (a1 - 1)) (gt m3 p) (hU3 _ (Z9 (by omega))) (hU3 _ (Z9 kp))
    have h02:c (gt m3 (a1 - 1)) (gt m3 p)<0:=Classical.byContradiction fun h=>h0 ⟨h01,h⟩
    repeat' (first|refine WN ?_|refine k_to hcut ⟨(_,_,_),?_⟩ ⟨rfl,rfl,rfl,rfl,rfl,rfl,rfl,rfl,trivial⟩|refine ZH ?_|refine ZI ?_|refine ZK ?_|refine ZG ?_|refine ZM ?_|refine ZJ ?_|refine ZN ?_|refine ZP (fun b=>?_)|refine ZO (fun b=>?_)|refine ZA ?_|refine ZB ?_|refine ZX ?_|refine ZY ?_|refine Zf ?_|refine Za ?_|refine Zb ?_|refine Zc (fun b=>?_)|refine Zd (fun b=>?_)|refine Ze ?_|refine ZZ ?_|refine ZE (s1) (fun _ _=>?_)|refine l_call0 (s1) (fun _ _=>?_)|refine ZS (s1) (fun _ _=>?_)|rw [wa1 h01]|refine Zk (m:=n) (a1 - 1) hh1 ?_|refine Zk (m:=n) p hp ?_|refine Zl 7 (a1 - 1) 0 g1 ?_|refine Zl 7 p 0 (ZR kp) ?_|refine Zv sp2 (fun _ _=>?_)|(refine ZC (fun hc=>?_) (fun hc=>?_)<;>(try simp at hc)<;>(try omega))|(refine ZQ (fun hc=>?_) (fun hc=>?_)<;>(try simp at hc)<;>(try omega))|refine ZD 17 [] [(0,0),(1,0),(2,0),(3,0),(4,0),(5,0),(6,0),(7,0),(8,0),(9,0),(10,0),(11,0),(12,0),(13,4),(14,0),(15,0),(16,0)] [] ?_|(refine ZF (fun hc=>?_) (fun hc=>?_)<;>(try simp at hc)<;>(try omega)))
   ·repeat' (first|refine WN ?_|refine k_to hcut ⟨(_,_,_),?_⟩ ⟨rfl,rfl,rfl,rfl,rfl,rfl,rfl,rfl,trivial⟩|refine ZH ?_|refine ZI ?_|refine ZK ?_|refine ZG ?_|refine ZM ?_|refine ZJ ?_|refine ZN ?_|refine ZP (fun b=>?_)|refine ZO (fun b=>?_)|refine ZA ?_|refine ZB ?_|refine ZX ?_|refine ZY ?_|refine Zf ?_|refine Za ?_|refine Zb ?_|refine Zc (fun b=>?_)|refine Zd (fun b=>?_)|refine Ze ?_|refine ZZ ?_|refine ZE (s1) (fun _ _=>?_)|refine l_call0 (s1) (fun _ _=>?_)|refine ZS (s1) (fun _ _=>?_)|(refine ZC (fun hc=>?_) (fun hc=>?_)<;>(try simp at hc)<;>(try omega))|(refine ZQ (fun hc=>?_) (fun hc=>?_)<;>(try simp at hc)<;>(try omega))|refine ZD 17 [] [(0,0),(1,0),(2,0),(3,0),(4,0),(5,0),(6,0),(7,0),(8,0),(9,0),(10,0),(11,0),(12,0),(13,4),(14,0),(15,0),(16,0)] [] ?_|(refine ZF (fun hc=>?_) (fun hc=>?_)<;>(try simp at hc)<;>(try omega)))
  clear s1
  rintro ⟨⟨mid,ap,m4⟩,f1,f2⟩
  dsimp only at f1 f2 ⊢
  have f3:=f2.h1
  have f4:=f2.h2
  have hJ4:=hJ3.win hbl f1
  have hlw4:=hJ4.low hbl hlw
  have hm4:=f1.len
  have hU4:=hJ4.w.sub hU
  have w1:IntKind.i64.wrap ((mid:Int) - (a1:Int))=((mid - a1:Nat):Int):=by simp (disch:=omega) only [wrapi];omega
  have w2:IntKind.i64.wrap ((b1:Int) - (mid:Int))=((b1 - mid:Nat):Int):=by simp (disch:=omega) only [wrapi];omega
  have w3:IntKind.i64.wrap ((mid:Int)+1)=((mid+1:Nat):Int):=by simp (disch:=omega) only [wrapi];omega
  by_cases hlr:mid - a1<b1 - mid
  ·have s1:=ih2 m4 (by omega) hU4 a1 mid f3 (by omega) (by omega) (hlw4.sub (by omega)) li1
   repeat' (first|refine ZH ?_|refine ZI ?_|refine ZK ?_|refine ZG ?_|refine ZM ?_|refine ZJ ?_|refine ZN ?_|refine ZP (fun b=>?_)|refine ZO (fun b=>?_)|refine ZA ?_|refine ZB ?_|refine ZE (s1) (fun _ _=>?_)|refine l_call0 (s1) (fun _ _=>?_)|rw [w1]|rw [w2]|rw [w3]|rw [w8]|(refine ZC (fun hc=>?_) (fun hc=>?_)<;>(try simp at hc)<;>(try omega))|(refine ZF (fun hc=>?_) (fun hc=>?_)<;>(try simp at hc)<;>(try omega)))
   rename_i x _
   obtain ⟨m5,k1,k2⟩:=x
   exact Zi ⟨(mid+1,b1,li1,_,ap,m5),by show mid+1≤b1;omega,(hJ4.win hbl (k1.mono (Nat.le_refl _) (by omega))).shrink (by omega) (Nat.le_refl _) (f2.left W (by omega) k1 k2)⟩ (by show b1 - (mid+1)<b1 - a1;omega) ⟨rfl,rfl,rfl,rfl,rfl,rfl,rfl,trivial⟩
  ·have s1:=ih2 m4 (by omega) hU4 (mid+1) b1 (by omega) (by omega) (by omega) f2.lw li1
   repeat' (first|refine ZH ?_|refine ZI ?_|refine ZK ?_|refine ZG ?_|refine ZM ?_|refine ZJ ?_|refine ZN ?_|refine ZP (fun b=>?_)|refine ZO (fun b=>?_)|refine ZA ?_|refine ZB ?_|refine ZE (s1) (fun _ _=>?_)|refine l_call0 (s1) (fun _ _=>?_)|rw [w1]|rw [w2]|rw [w3]|rw [w8]|(refine ZC (fun hc=>?_) (fun hc=>?_)<;>(try simp at hc)<;>(try omega))|(refine ZF (fun hc=>?_) (fun hc=>?_)<;>(try simp at hc)<;>(try omega)))
   rename_i x _
   obtain ⟨m5,k1,k2⟩:=x
   exact Zi ⟨(a1,mid,li1,_,ap,m5),f3,(hJ4.win hbl (k1.mono (by omega) (Nat.le_refl _))).shrink (Nat.le_refl _) (by show mid≤b1;omega) (f2.right W (by omega) k1 k2)⟩ (by show mid - a1<b1 - a1;omega) ⟨rfl,rfl,rfl,rfl,rfl,rfl,rfl,trivial⟩
end
theorem insC0_ok (o:Option Addr) (cap:Nat) (fv:FuncId) :
  Enters 173∧Spec prog 173 #[.slice o 0 cap,.int .i64 0,.int .i64 0,.func (.func fv) #[] #[]] [] [] ⟨Unit,fun _=>.tuple #[],fun _=>True,fun _=>[],fun _=>[]⟩:=by
 refine ZV [_,_,_,_] func173 ntmps173 fun G w hp=>?_
 repeat' (first|refine ZH ?_|refine ZI ?_|refine ZK ?_|refine ZG ?_|refine ZM ?_|refine ZJ ?_|refine ZN ?_|refine ZP (fun b=>?_)|refine ZO (fun b=>?_)|refine ZA ?_|refine ZB ?_|refine ZL ?_|refine ZX ?_|refine ZY ?_|refine Zf ?_|refine Za ?_|refine Zb ?_|refine Zc (fun b=>?_)|refine Zd (fun b=>?_)|refine Ze ?_|refine ZZ ?_|refine ZC (fun hc=>?_) (fun hc=>?_)|refine ZQ (fun hc=>?_) (fun hc=>?_)|refine ZD 4 [] [(0,0),(1,0),(2,0),(3,0),(4,0),(5,0),(6,0),(7,0),(8,0),(9,0),(10,0),(11,0),(12,0),(13,0),(14,4),(15,0),(16,0)] [] ?_|refine ZD 6 [] [(0,0),(1,0),(2,0),(3,0),(4,0),(5,0),(6,0),(7,0),(8,0),(9,0),(10,0),(11,0),(12,0),(13,0),(14,0),(15,4),(16,0)] [17] ?_|refine ZF (fun hc=>?_) (fun hc=>?_))
 refine YT (X:=Unit) (fun _=>[(2,.int .i64 0),(8,.int .i64 1)]) (fun _=>[]) (fun _=>[]) (fun _=>0) () ⟨rfl,rfl,trivial⟩ ?_
 rintro ⟨⟩
 repeat' (first|refine ZH ?_|refine ZI ?_|refine ZK ?_|refine ZG ?_|refine ZM ?_|refine ZJ ?_|refine ZN ?_|refine ZP (fun b=>?_)|refine ZO (fun b=>?_)|refine ZA ?_|refine ZB ?_|refine ZL ?_|(refine ZC (fun hc=>?_) (fun hc=>?_)<;>(try simp at hc)<;>(try omega))|(refine ZF (fun hc=>?_) (fun hc=>?_)<;>(try simp at hc)<;>(try omega)))
 exact Y8 () rfl trivial
theorem pdqC0_ok (o:Option Addr) (cap:Nat) (lim:Int) (fv:FuncId) :
  Enters 130∧Spec prog 130 #[.slice o 0 cap,.int .i64 0,.int .i64 0,.int .i64 lim,.func (.func fv) #[] #[]] [] [] ⟨Unit,fun _=>.tuple #[],fun _=>True,fun _=>[],fun _=>[]⟩:=by
 have s1:=insC0_ok o cap fv
 refine ZV [_,_,_,_,_] func130 ntmps130 fun G w hp=>?_
 repeat' (first|refine ZH ?_|refine ZI ?_|refine ZK ?_|refine ZG ?_|refine ZM ?_|refine ZJ ?_|refine ZN ?_|refine ZP (fun b=>?_)|refine ZO (fun b=>?_)|refine ZA ?_|refine ZB ?_|refine ZL ?_|refine ZC (fun hc=>?_) (fun hc=>?_)|refine ZF (fun hc=>?_) (fun hc=>?_))
 refine YT (X:=Unit) (fun _=>[(0,.slice o 0 cap),(1,.int .i64 0),(2,.int .i64 0),(3,.int .i64 lim),(4,.func (.func fv) #[] #[])]) (fun _=>[]) (fun _=>[]) (fun _=>0) () ⟨rfl,rfl,rfl,rfl,rfl,trivial⟩ ?_
 rintro ⟨⟩
 repeat' (first|refine ZH ?_|refine ZI ?_|refine ZK ?_|refine ZG ?_|refine ZM ?_|refine ZJ ?_|refine ZN ?_|refine ZP (fun b=>?_)|refine ZO (fun b=>?_)|refine ZA ?_|refine ZB ?_|refine ZL ?_|refine ZE (s1) (fun _ _=>?_)|refine l_call0 (s1) (fun _ _=>?_)|(refine ZC (fun hc=>?_) (fun hc=>?_)<;>(try simp at hc)<;>(try omega))|(refine ZF (fun hc=>?_) (fun hc=>?_)<;>(try simp at hc)<;>(try omega)))
 exact XE (XR (YZ () rfl trivial))
theorem Wa (o:Option Addr) (cap:Nat) (es:List Ch) (fv:FuncId) (Fc:Pf) (c:Ch→Ch→Int) (hn:es.length≤200)
  (ha:∀a b,c a b<0→¬c b a<0) (ht:∀a b d,¬c b a<0→¬c d b<0→¬c d a<0) (hcmp:∀x y,x ∈ es→y ∈ es→Enters fv∧Spec prog fv #[x.v,y.v] [Fc] [] (RetV (.int .i64 (c x y)))) :
  Enters 67∧Spec prog 67 #[.slice o es.length cap,.func (.func fv) #[] #[]] [Fc] [Row 108 7 o es.length cap (es.flatMap chf)]
   ⟨List Ch,fun _=>.tuple #[],fun l=>l.Perm es∧Srd c l,fun _=>[],fun l=>[Row 108 7 o es.length cap (l.flatMap chf)]⟩:=by
 have hu:IntKind.u64.wrap ((es.length:Nat):Int)=(es.length:Int):=VP (by omega)
 have s2:=bitsLen_ok es.length (by omega)
 by_cases h0:es=[]
 ·subst h0
  refine ZV [_,_] func67 ntmps67 fun G w hp=>?_
  have s3:=fun lim=>pdqC0_ok o cap lim fv
  repeat' (first|refine ZH ?_|refine ZI ?_|refine ZK ?_|refine ZG ?_|refine ZM ?_|refine ZJ ?_|refine ZN ?_|refine ZP (fun b=>?_)|refine ZO (fun b=>?_)|refine ZA ?_|refine ZB ?_|refine ZL ?_|refine ZE (s2) (fun _ _=>?_)|refine l_call0 (s2) (fun _ _=>?_)|refine ZE (s3 _) (fun _ _=>?_)|refine l_call0 (s3 _) (fun _ _=>?_)|rw [hu]|(refine ZC (fun hc=>?_) (fun hc=>?_)<;>(try simp at hc))|(refine ZF (fun hc=>?_) (fun hc=>?_)<;>(try simp at hc)))
  exact Y8 [] rfl ⟨List.Perm.refl _,List.Pairwise.nil⟩
 ·have hlen:0<es.length:=List.length_pos_iff.2 h0
  refine ZV [_,_] func67 ntmps67 fun G w hp=>?_
  refine k_row hlen fun p hp=>?_
  have hq:AxOK (es.length * 7) p.2:=by
   rcases hp.f with h|h
   ·exact .inl h
   ·exact .inr (by rw [List.length_append,hp.l] at h;exact h)
  have ho:=hp.o
  subst ho
  have s4:=fun lim=>pdqWC_ok p.1 cap p.2 fv Fc c ⟨ha,fun x y z=>ht x y z⟩ (fun x=>x ∈ es) (fun x y hx hy=>hcmp x y hx hy) es.length es es.length rfl (by omega) hq (fun x hx=>hx) 0 es.length (Nat.zero_le _) (Nat.le_refl _) (Nat.le_refl _) (fun h=>absurd h (Nat.lt_irrefl _)) lim
  have s3:∀lim,Enters 130∧Spec prog 130 #[.slice (some ⟨p.1,0,none⟩) es.length cap,.int .i64 0,.int .i64 (es.length:Int),.int .i64 lim,.func (.func fv) #[] #[]] [Fc] [Ax 108 chf p.1 es p.2]
    ⟨List Ch,fun _=>.tuple #[],fun l=>l.Perm es∧Srd c l,fun _=>[],fun l=>[Ax 108 chf p.1 l p.2]⟩:=fun lim=>⟨(s4 lim).1,(s4 lim).2.imp fun G w hp x w' hx hs=>⟨x.1,rfl,⟨x.2.1.perm,Sw.srdn x.2.1.len x.2.2⟩,hs⟩⟩
  repeat' (first|refine ZH ?_|refine ZI ?_|refine ZK ?_|refine ZG ?_|refine ZM ?_|refine ZJ ?_|refine ZN ?_|refine ZP (fun b=>?_)|refine ZO (fun b=>?_)|refine ZA ?_|refine ZB ?_|refine ZL ?_|refine ZE (s2) (fun _ _=>?_)|refine l_call0 (s2) (fun _ _=>?_)|refine ZE (s3 _) (fun _ _=>?_)|refine l_call0 (s3 _) (fun _ _=>?_)|rw [hu]|(refine ZC (fun hc=>?_) (fun hc=>?_)<;>(try simp at hc))|(refine ZF (fun hc=>?_) (fun hc=>?_)<;>(try simp at hc)))
  rename_i l hl
  have hll:=hl.1.length_eq
  refine Zr (r:=Row 108 7 (some ⟨p.1,0,none⟩) es.length cap (l.flatMap chf)) (Lx:=[Ax 108 chf p.1 l p.2]) (fun h hh=>Wm (q:=p) ⟨rfl,by rw [Z1 (f:=chf) (sz:=7) (fun _=>rfl),hll],by rw [←hp.c,List.length_append,List.length_append,Z1 (f:=chf) (sz:=7) (fun _=>rfl),Z1 (f:=chf) (sz:=7) (fun _=>rfl),hll],hp.m,by rw [List.length_append,Z1 (f:=chf) (sz:=7) (fun _=>rfl),hll];rcases hp.f with h|h;exact .inl h;exact .inr (by rw [List.length_append,hp.l] at h;exact h)⟩ h hh) ?_
  exact Y8 l rfl hl
def cmpC (a b:Ch):Int:=cmpO a.nm b.nm
theorem VN (a b:Ch) (h:cmpC a b<0):¬cmpC b a<0:=by
 have:=(Z2 a.nm b.nm).1 h
 unfold cmpC;omega
theorem cmpO_le {a b d:Nm} (h1:¬cmpO b a<0) (h2:¬cmpO d b<0):¬cmpO d a<0:=fun h=>by
 by_cases h3:cmpO a b<0
 ·exact h2 (YI h h3)
 ·have h4:¬0<cmpO a b:=fun h5=>h1 ((Z2 b a).2 h5)
  have h5:cmpO a b=0:=by omega
  obtain rfl:=(Z8 a b).1 h5
  exact h2 h
theorem cmpC_t (a b d:Ch) (h1:¬cmpC b a<0) (h2:¬cmpC d b<0):¬cmpC d a<0:=cmpO_le h1 h2
theorem Spec.more {P:Program} {f:FuncId} {args:Array Value} {F:List Pf} {R:List HP} {post:Post} (h:Spec P f args [] R post):Spec P f args F R post:=fun G w hp hs=>
 (h G w hp (hs.facts fun _ _ _ hx=>by cases hx))
theorem UC (a c:Ch) (ha:a.nm.owner.size≤1099511627770) (hc:c.nm.owner.size≤1099511627770):Enters 66∧Spec prog 66 #[a.v,c.v] [] [] (RetV (.int .i64 (cmpC a c))):=by
 have n1:=YW a.nm c.nm ha hc
 refine ZV [_,_] func66 ntmps66 fun G w hp=>?_
 repeat' (first|refine ZH ?_|refine ZI ?_|refine ZK ?_|refine ZG ?_|refine ZM ?_|refine ZJ ?_|refine ZN ?_|refine ZP (fun b=>?_)|refine ZO (fun b=>?_)|refine ZA ?_|refine ZB ?_|refine ZL ?_|refine ZE (n1) (fun _ _=>?_)|refine l_call0 (n1) (fun _ _=>?_)|(refine ZC (fun hc=>?_) (fun hc=>?_)<;>(try simp at hc))|(refine ZF (fun hc=>?_) (fun hc=>?_)<;>(try simp at hc)))
 exact ZT () rfl trivial
def Ch.z:Ch:=⟨⟨0,⟨#[]⟩,0,0,⟨#[]⟩⟩,⟨#[]⟩,false⟩
def chAt (cs:List Ch) (p:Nm×Nat):Ch:=(cs[p.2]?).getD Ch.z
def insC (c:Ch):List Ch→List Ch
 | []=>[c]
 | d::l=>if cmpC c d<0 then c::d::l else d::insC c l
def srtC (l:List Ch):List Ch:=l.foldr insC []
def vwr (cs:List Ch):List Ch:=srtC ((lastL cs).map (chAt cs))
theorem UE (c:Ch):∀l,(insC c l).Perm (c::l)
 | []=>List.Perm.refl _
 | d::l=>by
  unfold insC
  split
  ·exact List.Perm.refl _
  ·exact ((UE c l).cons d).trans (List.Perm.swap _ _ _)
theorem Yb:∀l,(srtC l).Perm l
 | []=>List.Perm.refl _
 | c::l=>(UE c _).trans ((Yb l).cons c)
theorem insC_srd (c:Ch):∀l,Srd cmpC l→Srd cmpC (insC c l)
 | [],_=>List.pairwise_singleton _ _
 | d::l,h=>by
  obtain ⟨h1,h2⟩:=List.pairwise_cons.1 h
  unfold insC
  split
  ·rename_i hlt
   refine List.pairwise_cons.2 ⟨fun x hx=>?_,h⟩
   rcases List.mem_cons.1 hx with rfl|hx
   ·exact VN _ _ hlt
   ·exact cmpC_t _ _ _ (VN _ _ hlt) (h1 x hx)
  ·rename_i hge
   refine List.pairwise_cons.2 ⟨fun x hx=>?_,insC_srd c l h2⟩
   rcases List.mem_cons.1 ((UE c l).mem_iff.1 hx) with rfl|hx
   ·exact hge
   ·exact h1 x hx
theorem srtC_srd:∀l,Srd cmpC (srtC l)
 | []=>List.Pairwise.nil
 | c::l=>insC_srd c _ (srtC_srd l)
theorem srd_eq:∀(a b:List Ch),a.Perm b→Srd cmpC a→Srd cmpC b→(a.map (·.nm)).Nodup→a=b
 | [],b,hp,_,_,_=>(List.nil_perm.1 hp).symm
 | x::a,[],hp,_,_,_=>by have:=hp.length_eq;simp at this
 | x::a,y::b,hp,ha,hb,hn=>by
  obtain ⟨a1,a2⟩:=List.pairwise_cons.1 ha
  obtain ⟨b1,b2⟩:=List.pairwise_cons.1 hb
  have hxy:x=y:=by
   rcases List.mem_cons.1 (hp.mem_iff.1 (List.mem_cons_self (a:=x))) with h|h
   ·exact h
   ·rcases List.mem_cons.1 (hp.mem_iff.2 (List.mem_cons_self (a:=y))) with h'|h'
    ·exact h'.symm
    ·have h1:=a1 y h'
     have h2:=b1 x h
     have h3:cmpO x.nm y.nm=0:=by
      have:=Z2 x.nm y.nm
      have:=Z2 y.nm x.nm
      unfold cmpC at h1 h2
      omega
     have h4:=(Z8 _ _).1 h3
     simp only [List.map_cons,List.nodup_cons] at hn
     exact absurd (List.mem_map.2 ⟨y,h',h4.symm⟩) hn.1
  subst hxy
  simp only [List.map_cons,List.nodup_cons] at hn
  rw [srd_eq a b (List.Perm.cons_inv hp) a2 b2 hn.2]
theorem XQ {cs:List Ch} {p:Nm×Nat} (h:p ∈ lastL cs):cs[p.2]? = some (chAt cs p)∧(chAt cs p).nm=p.1:=by
 have h1:=(Vz (lastL cs) (Yh cs) p.1 p.2).2 h
 obtain ⟨c,h2,h3⟩:=(XS p.1 cs).1 p.2 h1
 unfold chAt
 rw [h2]
 exact ⟨rfl,(We h3).1⟩
theorem vwr_eq {cs l:List Ch} (hp:l.Perm ((lastL cs).map (chAt cs))) (hs:Srd cmpC l):l=vwr cs:=by
 refine srd_eq _ _ (hp.trans (Yb _).symm) hs (srtC_srd _) ?_
 have h1:=hp.map (·.nm)
 refine h1.nodup_iff.2 ?_
 rw [List.map_map]
 have h2:(lastL cs).map ((·.nm) ∘ chAt cs)=(lastL cs).map (·.1):=List.map_congr_left fun p hp=>(XQ hp).2
 rw [h2]
 exact Yh cs
def WrPost (b:Nat) (ps:Option Addr) (rs:List (Nm×Ch)) (cs:List Ch):Post:=⟨Option Addr×Nat,fun q=>.slice q.1 (vwr cs).length q.2,fun _=>True,fun _=>[],fun q=>[Vw b ps rs cs,Row 108 7 q.1 (vwr cs).length q.2 ((vwr cs).flatMap chf)]⟩
theorem WG (cs:List Ch):(vwr cs).length=(lastL cs).length:=by
 unfold vwr;rw [(Yb _).length_eq,List.length_map]
set_option maxHeartbeats 2000000 in
theorem UX (b:Nat) (ps:Option Addr) (rs:List (Nm×Ch)) (cs:List Ch) (hl:(lastL cs).length≤200) (hsz:∀c ∈ cs,c.nm.owner.size≤1099511627770) :
  Enters 25∧Spec prog 25 #[.pointer (some ⟨b,0,none⟩)] [Usg] [Vw b ps rs cs] (WrPost b ps rs cs):=by
 by_cases hcs:cs=[]
 ·subst hcs
  have n1:=Wa none 0 [] 66 Usg cmpC (by simp) VN cmpC_t (by simp)
  refine ZV [_] func25 ntmps25 fun G w hp=>?_
  refine k_vw fun q=>?_
  obtain ⟨r1,r2,o,cap⟩:=q
  repeat' (first|refine ZH ?_|refine ZI ?_|refine ZK ?_|refine ZG ?_|refine ZM ?_|refine ZJ ?_|refine ZN ?_|refine ZP (fun b=>?_)|refine ZO (fun b=>?_)|refine ZA ?_|refine ZB ?_|refine ZL ?_|refine l_rng (K:=Nm.v) (V:=iv) (fun it=>?_)|(refine ZC (fun hc=>?_) (fun hc=>?_)<;>(try simp at hc))|(refine ZF (fun hc=>?_) (fun hc=>?_)<;>(try simp at hc)))
  refine YT (X:=Unit) (fun _=>[(0,.pointer (some ⟨b,0,none⟩)),(3,.slice none 0 0),(12,.pointer (some ⟨it,0,none⟩))]) (fun _=>[Usg]) (fun _=>[Pt b (.cells #[.pointer ps,.map (some r1),.slice o 0 cap,.map (some r2)] 143),Mp Nm.v Ch.v r1 rs,Row 108 7 o 0 cap [],MpI Nm.v iv r2 it [] []]) (fun _=>0) () ⟨rfl,rfl,rfl,trivial⟩ ?_
  rintro ⟨⟩
  refine Zr (r:=Row 108 7 none 0 0 []) (Lx:=[]) (fun h _=>Yf _ _ h) ?_
  repeat' (first|refine ZH ?_|refine ZI ?_|refine ZK ?_|refine ZG ?_|refine ZM ?_|refine ZJ ?_|refine ZN ?_|refine ZP (fun b=>?_)|refine ZO (fun b=>?_)|refine ZA ?_|refine ZB ?_|refine ZL ?_|refine ZE (n1) (fun _ _=>?_)|refine l_call0 (n1) (fun _ _=>?_)|refine l_nxt (K:=Nm.v) (V:=iv) (fun p hp=>?_) (fun hp=>?_)|(refine ZC (fun hc=>?_) (fun hc=>?_)<;>(try simp at hc))|(refine ZF (fun hc=>?_) (fun hc=>?_)<;>(try simp at hc)))
  ·exfalso
   obtain ⟨rest,h⟩:=hp
   have:=h.length_eq
   simp at this
  ·rename_i l hl2
   obtain rfl:l=[]:=List.perm_nil.1 hl2.1
   refine k_rngE (r:=r2) (it:=it) (K:=Nm.v) (V:=iv) (m:=[]) ?_
   refine k_vw' (cs:=[]) (rs:=rs) ?_ rfl rfl rfl
   exact ZT (post:=WrPost b ps rs []) (none,0) rfl trivial
 ·have hpos:0<cs.length:=List.length_pos_iff.2 hcs
  refine ZV [_] func25 ntmps25 fun G w hp=>?_
  refine k_vw fun q=>?_
  obtain ⟨r1,r2,o,cap⟩:=q
  refine k_row (m:=cs.length) hpos fun p hp=>?_
  have ho:=hp.o
  subst ho
  have hsp:Ax 108 chf p.1 cs p.2=Pt p.1 (.cells (cs.flatMap chf++p.2.1).toArray 108 p.2.2):=rfl
  rw [←hsp]
  repeat' (first|refine ZH ?_|refine ZI ?_|refine ZK ?_|refine ZG ?_|refine ZM ?_|refine ZJ ?_|refine ZN ?_|refine ZP (fun b=>?_)|refine ZO (fun b=>?_)|refine ZA ?_|refine ZB ?_|refine ZL ?_|refine l_rng (K:=Nm.v) (V:=iv) (fun it=>?_)|(refine ZC (fun hc=>?_) (fun hc=>?_)<;>(try simp at hc))|(refine ZF (fun hc=>?_) (fun hc=>?_)<;>(try simp at hc)))
  refine Zr (r:=Row 108 7 none 0 0 []) (Lx:=[]) (fun h _=>Yf _ _ h) ?_
  refine YT (X:={t:List (Nm×Nat)×Option Addr×Nat // ∃rest,(t.1++rest).Perm (lastL cs)}) (fun t=>[(0,.pointer (some ⟨b,0,none⟩)),(3,.slice t.1.2.1 (t.1.1.map (chAt cs)).length t.1.2.2),(12,.pointer (some ⟨it,0,none⟩))]) (fun _=>[Usg])
   (fun t=>[Pt b (.cells #[.pointer ps,.map (some r1),.slice (some ⟨p.1,0,none⟩) cs.length cap,.map (some r2)] 143),Mp Nm.v Ch.v r1 rs,Ax 108 chf p.1 cs p.2,MpI Nm.v iv r2 it (lastL cs) t.1.1,Row 108 7 t.1.2.1 (t.1.1.map (chAt cs)).length t.1.2.2 ((t.1.1.map (chAt cs)).flatMap chf)]) (fun t=>(lastL cs).length - t.1.1.length)
   ⟨([],none,0),lastL cs,by simp⟩ ⟨rfl,rfl,rfl,trivial⟩ ?_
  rintro ⟨⟨pre,o,oc⟩,rest,hrest⟩
  have hprel:=hrest.length_eq
  rw [List.length_append] at hprel
  dsimp only
  repeat' (first|refine ZH ?_|refine ZI ?_|refine ZK ?_|refine ZG ?_|refine ZM ?_|refine ZJ ?_|refine ZN ?_|refine ZP (fun b=>?_)|refine ZO (fun b=>?_)|refine ZA ?_|refine ZB ?_|refine ZL ?_|refine l_nxt (K:=Nm.v) (V:=iv) (fun e he=>?_) (fun he=>?_)|refine l_ent (K:=Nm.v) (V:=iv) e ?_|(refine ZC (fun hc=>?_) (fun hc=>?_)<;>(try simp at hc))|(refine ZF (fun hc=>?_) (fun hc=>?_)<;>(try simp at hc)))
  ·have hem:e ∈ lastL cs:=by
    obtain ⟨rest',h⟩:=he
    exact h.mem_iff.1 (by simp)
   obtain ⟨he1,he2⟩:=XQ hem
   have hil:=(List.getElem?_eq_some_iff.1 he1).1
   have hlen2:pre.length<(lastL cs).length:=by
    obtain ⟨rest',h⟩:=he
    have:=h.length_eq
    simp at this;omega
   have hpl:(List.map (chAt cs) pre).length≤200:=by simp;omega
   repeat' (first|refine ZH ?_|refine ZI ?_|refine ZK ?_|refine ZG ?_|refine ZM ?_|refine ZJ ?_|refine ZN ?_|refine ZP (fun b=>?_)|refine ZO (fun b=>?_)|refine ZA ?_|refine ZB ?_|refine ZL ?_|refine l_ixS (m:=cs.length) e.2 hil ?_|refine Zn 7 e.2 0 he1 ?_|refine l_app1 (fun o' cap'=>?_)|(refine ZC (fun hc=>?_) (fun hc=>?_)<;>(try simp at hc))|(refine ZF (fun hc=>?_) (fun hc=>?_)<;>(try simp at hc)))
   have e1:(List.map (chAt cs) pre).length+1=(List.map (chAt cs) (pre++[e])).length:=by simp
   have e2:List.flatMap chf (List.map (chAt cs) pre)++chf (chAt cs e)=List.flatMap chf (List.map (chAt cs) (pre++[e])):=by simp
   refine k_rowc (T:=108) (sz:=7) (o:=o') (cap:=cap') (m:=(List.map (chAt cs) pre).length+1) _ _ e1 e2 ?_
   exact Zi ⟨(pre++[e],o',cap'),he⟩ (by show (lastL cs).length - (pre++[e]).length<(lastL cs).length - pre.length;simp;omega) ⟨rfl,(by show look _ _=some (Value.slice o' (List.map (chAt cs) (pre++[e])).length cap');rw [←e1];rfl),rfl,trivial⟩
  ·have hpm:(pre.map (chAt cs)).Perm ((lastL cs).map (chAt cs)):=he.map _
   have n1:=Wa o oc (pre.map (chAt cs)) 66 Usg cmpC (by rw [hpm.length_eq,List.length_map];exact hl) VN cmpC_t (fun x y hx hy=>by
    have hz:∀x ∈ pre.map (chAt cs),x.nm.owner.size≤1099511627770:=fun x hx=>by
     obtain ⟨p,hp1,hp2⟩:=List.mem_map.1 (hpm.mem_iff.1 hx)
     rw [←hp2]
     exact hsz _ (List.mem_of_getElem? (XQ hp1).1)
    have:=UC x y (hz x hx) (hz y hy)
    exact ⟨this.1,this.2.more⟩)
   repeat' (first|refine ZH ?_|refine ZI ?_|refine ZK ?_|refine ZG ?_|refine ZM ?_|refine ZJ ?_|refine ZN ?_|refine ZP (fun b=>?_)|refine ZO (fun b=>?_)|refine ZA ?_|refine ZB ?_|refine ZL ?_|refine ZE (n1) (fun _ _=>?_)|refine l_call0 (n1) (fun _ _=>?_)|(refine ZC (fun hc=>?_) (fun hc=>?_)<;>(try simp at hc))|(refine ZF (fun hc=>?_) (fun hc=>?_)<;>(try simp at hc)))
   rename_i l hl2
   have hle:l=vwr cs:=vwr_eq (hl2.1.trans hpm) hl2.2
   subst hle
   have e3:(pre.map (chAt cs)).length=(vwr cs).length:=hl2.1.length_eq.symm
   refine k_rngE (r:=r2) (it:=it) (K:=Nm.v) (V:=iv) (m:=lastL cs) (pre:=pre) ?_
   refine Zr (r:=Row 108 7 (some ⟨p.1,0,none⟩) cs.length cap (cs.flatMap chf)) (Lx:=[Ax 108 chf p.1 cs p.2]) (fun h hh=>Wm hp h hh) ?_
   refine k_vw' (cs:=cs) (rs:=rs) (o:=some ⟨p.1,0,none⟩) (m:=cs.length) (xs:=cs.flatMap chf) ?_ rfl rfl rfl
   refine k_rowc (T:=108) (sz:=7) (o:=o) (cap:=oc) (m:=(pre.map (chAt cs)).length) _ _ e3 rfl ?_
   exact ZT (post:=WrPost b ps rs cs) (o,oc) (by show resV [Value.slice o (pre.map (chAt cs)).length oc]=_;rw [e3];rfl) trivial
section
variable {F0:List Pf} {Rs N N' A:List HP} {L L':List (Nat×Nat)} {Tl:List Nat} {i:Nat}
def IterU {α:Type} (gf:FuncId) (lb:List Value) (enc:α→Value) (Ok All:List α→Prop) (Fg:List Pf) (A A':List HP):Prop:=
 ∀(v:Value) (Y:Pf) (I Ix:List α→HP),(∀pre e,Ok (pre++[e])→SpecV v [enc e] [Y] [I pre] (YPost I Ix pre e))→
  Enters gf∧Spec prog gf (v::lb).toArray (Y::Fg) (I []::A) ⟨Option (List α)×List α,fun _=>.tuple #[],fun r=>match r.1 with|none=>All r.2|some _=>True,fun _=>[],fun r=>(match r.1 with|none=>I r.2|some pre=>Ix pre)::A'⟩
theorem k_rangeU {α:Type} {g:Operand} {p:Nat} {assign body:Code} {gf:FuncId} {lb:Array Value} {enc:α→Value} {Ok All:List α→Prop} {A':List HP} {Fg:List Pf} {G:H} {w0:World} {hp0:H} {ds:List Deferred} (J Jx:List α→HP) (hit:IterU gf lb.toList enc Ok All Fg A A')
  (hbody:∀(q:LR) (l:Nat) (pre:List α) (e:α),Ok (pre++[e])→∀G w0 hp0,Wk n ⟨some l,G,w0,hp0,[]⟩ [.c assign,.r l,.c body] (RQ q l G w0 hp0 (J (pre++[e])) (Jx (pre++[e]))) ((p,enc e)::E) F [Pt l (.loop (rcd q .ready none)),J pre])
  (hdone:∀D xs,All xs→Wk n ⟨none,G,w0,hp0,{target:=.collected D,args:=#[]}::ds⟩ k' Q E F (J xs::(A'++Pt D (.deferred (some []))::R')))
  (hstop:∀D pre,Wret n ⟨none,G,w0,hp0,{target:=.collected D,args:=#[]}::ds⟩ Q E F (Jx pre::(A'++Pt D (.deferred (some []))::R')))
  (h:nf 1000 k = .c (.rangeFunc g #[p] assign body)::k':=by rfl) (hg:ev E g=some (.func (.func gf) #[] lb):=by rfl) (hpn:Nat.blt p n=true:=by rfl) (hnr:noR k'=true:=by rfl)
  (sel:Sels (J []::A) R R':=by (repeat (first|exact Sels.nil|exact Sel.here|apply Sel.there|apply Sels.cons));first|done|fail) (hFg:EntF F Fg:=by (repeat (first|exact trivial|exact Sel.here|apply Sel.there|apply EntF.cons));first|done|fail):Wk n ⟨none,G,w0,hp0,ds⟩ k Q E F R:=fun a w ha hs=>Y7 1000 k (by
 rw [h]
 show (Code.rangeFunc g #[p] assign body).wpIn (fz none) 0 prog (after none k' Q) a w
 refine wpIn_rangeFunc fun fn hfn=>?_
 let q:LR:=⟨fn,a.tmps,#[p],assign,body,w.heap.size⟩
 let lo:Obj:=.loop (rcd q .ready none)
 have hs1:Sat G w0 hp0 F (Pt (w.heap.size+1) lo::Pt w.heap.size (.deferred (some []))::J []::(A++R')) ((w.alloc (.deferred (some []))).alloc lo):=by
  have:=((hs.sels sel).alloc (.deferred (some []))).alloc lo
  simpa using this
 have hs2:Sat G w0 hp0 F (both (Pt (w.heap.size+1) lo) (J [])::Pt w.heap.size (.deferred (some []))::(A++R')) ((w.alloc (.deferred (some []))).alloc lo):=
  (hs1.sels (A:=[Pt (w.heap.size+1) lo,J []]) (.cons .here (.cons (.there .here) .nil))).shut (x:=both _ _) fun _ hh=>hh
 have hy:∀pre e,Ok (pre++[e])→SpecV (.func (.yield (w.heap.size+1)) #[] #[]) [enc e] _ _ _:=fun pre e hpre=>
  yield_ok (n:=n) (E:=E) (F:=F) (enc:=enc) (q:=q) (l:=w.heap.size+1) (p:=p) (J:=J) (Jx:=Jx) (pre:=pre) (e:=e) rfl (Nat.le_of_ble_eq_true hpn)
   (fun b hb hd=>⟨by rw [hb];exact ha.size,hd,fun t v hv=>by rw [hb];exact ha.slots t v hv⟩) (fun G w0 hp0=>hbody q _ pre e hpre G w0 hp0)
 obtain ⟨eg,hsp⟩:=hit _ _ _ _ hy
 have hev:=ha.ev (x:=g) (by rw [ZU];exact hg)
 refine ⟨w.heap.size+1,[{target:=.collected w.heap.size,args:=#[]}],(w.alloc (.deferred (some []))).alloc lo,{target:=.fn (.func gf) lb,args:=#[.func (.yield (w.heap.size+1)) #[] #[]]},(w.alloc (.deferred (some []))).alloc lo,gf,#[.func (.yield (w.heap.size+1)) #[] #[]]++lb,(w.alloc (.deferred (some []))).alloc lo,run_enterLoop_outer _ _ _ _ _,?_,fun _ _=>trivial,?_,(fun hx=>by cases hx),?_⟩
 ·simp only [resolve,hev]
  simp [go_sem,Deferred.ofValue,Act.eval]
 ·simp only [invoke]
  exact eg _ _
 ·have e1 : #[Value.func (.yield (w.heap.size+1)) #[] #[]]++lb=(Value.func (.yield (w.heap.size+1)) #[] #[]::lb.toList).toArray:=by rw [←Array.toList_inj];simp
  rw [e1]
  refine VJ (Yj hsp hs2 (.cons .here (Vv A _ R')) (fun hp hF f hf=>?_) fun r w' hr hs3=>?_)
  ·rcases List.mem_cons.1 hf with rfl|hf
   ·exact hF
   ·exact hFg.all hp hF f hf
  ·have hds:({a with defers:=[{target:=.collected w.heap.size,args:=#[]}]++a.defers}:Act).defers={target:=.collected w.heap.size,args:=#[]}::ds:=by simp [ha.defers]
   have ha':Agree n ({target:=.collected w.heap.size,args:=#[]}::ds) (look E) {a with defers:=[{target:=.collected w.heap.size,args:=#[]}]++a.defers}:=⟨ha.size,hds,ha.slots⟩
   obtain ⟨r1,xs⟩:=r
   cases r1 with
   | none=>
    obtain ⟨_,h4⟩:=(show Sat G w0 hp0 F (both (Pt (w.heap.size+1) lo) (J xs)::(A'++Pt w.heap.size (.deferred (some []))::R')) w' from hs3).open' (X:=Unit) (L:=fun _=>[Pt (w.heap.size+1) lo,J xs]) fun _ hh=>⟨(),hh⟩
    refine ⟨none,_,run_endLoop (h4.pt Sel.here) (by simp [rcd]),?_⟩
    have h5:=YM (o':=.loop (rcd q .exhausted none)) h4
    exact hdone w.heap.size xs hr _ _ ha' (h5.res fun _ hh=>Wi hh)
   | some pre=>
    obtain ⟨_,h4⟩:=(show Sat G w0 hp0 F (both (Pt (w.heap.size+1) (.loop (rcd q .done (some .ret)))) (Jx pre)::(A'++Pt w.heap.size (.deferred (some []))::R')) w' from hs3).open' (X:=Unit) (L:=fun _=>[Pt (w.heap.size+1) (.loop (rcd q .done (some .ret))),Jx pre]) fun _ hh=>⟨(),hh⟩
    refine ⟨some .ret,_,run_endLoop (h4.pt Sel.here) (by simp [rcd]),?_⟩
    have h5:=YM (o':=.loop (rcd q .exhausted (some .ret))) h4
    refine wpIn_ret ?_
    rw [XU hnr]
    exact hstop w.heap.size pre _ _ ha' (h5.res fun _ hh=>Wi hh))
end
theorem VA (r:Nat):Enters 65∧Spec prog 65 #[.map (some r)] [] []
  ⟨Nat,fun b=>.func (.func 129) #[] #[.pointer (some ⟨b,0,none⟩)],fun _=>True,fun b=>[Blk b (.cells #[.map (some r)] 140)],fun _=>[]⟩:=by
 refine ZV [_] func65 ntmps65 fun G w hp=>?_
 repeat' (first|refine ZH ?_|refine ZI ?_|refine ZK ?_|refine ZG ?_|refine ZM ?_|refine ZJ ?_|refine ZN ?_|refine ZP (fun b=>?_)|refine ZO (fun b=>?_)|refine ZA ?_|refine ZB ?_|refine ZL ?_|refine ZC (fun hc=>?_) (fun hc=>?_)|refine ZF (fun hc=>?_) (fun hc=>?_))
 refine k_fz ?_
 exact ZT b rfl trivial
abbrev chv (p:Nm×Ch):Value:=p.2.v
def OkP {γ:Type} (m pre:List γ):Prop:=∃rest,(pre++rest).Perm m
theorem Ub (b r:Nat) (m:List (Nm×Ch)):IterU 129 [.pointer (some ⟨b,0,none⟩)] chv (OkP m) (fun xs=>xs.Perm m) [Blk b (.cells #[.map (some r)] 140)] [Mp Nm.v Ch.v r m] [Mp Nm.v Ch.v r m]:=by
 intro v Y I Ix hy
 refine ZV [_,_] func129 ntmps129 fun G w hp=>?_
 repeat' (first|refine ZH ?_|refine ZI ?_|refine ZK ?_|refine ZG ?_|refine ZM ?_|refine ZJ ?_|refine ZN ?_|refine ZP (fun b=>?_)|refine ZO (fun b=>?_)|refine ZA ?_|refine ZB ?_|refine ZL ?_|refine l_rng (K:=Nm.v) (V:=Ch.v) (fun it=>?_)|(refine ZC (fun hc=>?_) (fun hc=>?_)<;>(try simp at hc))|(refine ZF (fun hc=>?_) (fun hc=>?_)<;>(try simp at hc)))
 refine YT (X:={pre:List (Nm×Ch) // OkP m pre}) (fun _=>[(0,v),(6,.pointer (some ⟨it,0,none⟩))]) (fun _=>[Y]) (fun t=>[I t.1,MpI Nm.v Ch.v r it m t.1]) (fun t=>m.length - t.1.length) ⟨[],m,by simp⟩ ⟨rfl,rfl,trivial⟩ ?_
 rintro ⟨pre,hpre⟩
 dsimp only
 repeat' (first|refine ZH ?_|refine ZI ?_|refine ZK ?_|refine ZG ?_|refine ZM ?_|refine ZJ ?_|refine ZN ?_|refine ZP (fun b=>?_)|refine ZO (fun b=>?_)|refine ZA ?_|refine ZB ?_|refine ZL ?_|refine l_nxt (K:=Nm.v) (V:=Ch.v) (fun e he=>?_) (fun he=>?_)|refine l_ent (K:=Nm.v) (V:=Ch.v) e ?_|refine l_callV (hy pre e he) (fun x _=>?_)|(refine ZC (fun hc=>?_) (fun hc=>?_)<;>(try simp at hc))|(refine ZF (fun hc=>?_) (fun hc=>?_)<;>(try simp at hc)))
 ·cases x with
  | true=>simp at hc
  | false=>
   refine k_rngE (r:=r) (it:=it) (K:=Nm.v) (V:=Ch.v) (m:=m) (pre:=pre++[e]) ?_
   exact XE (XR (YZ (some (pre++[e]),[]) rfl trivial))
 ·cases x with
  | false=>simp at hc
  | true=>
   exact Zi ⟨pre++[e],he⟩ (by
    obtain ⟨rest,h⟩:=he
    have:=h.length_eq
    show m.length - (pre++[e]).length<m.length - pre.length
    simp at this ⊢;omega) ⟨rfl,rfl,trivial⟩
 ·refine k_rngE (r:=r) (it:=it) (K:=Nm.v) (V:=Ch.v) (m:=m) (pre:=pre) ?_
  exact Y8 (none,pre) rfl he
theorem V7:∀A:List HP,Sels A A []
 | []=>.nil
 | _::A=>.cons .here (V7 A)
theorem sel_last (x:HP):∀A:List HP,Sel x (A++[x]) A
 | []=>.here
 | _::A=>.there (sel_last x A)
theorem sels_tl:∀(A:List HP) (X:HP),Sels A (X::A) [X]
 | [],_=>.nil
 | _::A,X=>.cons (.there .here) (sels_tl A X)
theorem sels_app0:∀A:List HP,Sels A (A++[]) []
 | []=>.nil
 | _::A=>.cons .here (sels_app0 A)
theorem entF_app:∀(F1 F0:List Pf),EntF (F0++F1) F1
 | [],_=>trivial
 | f::F1,F0=>⟨by
   induction F0 with
   | nil=>exact ⟨_,.here⟩
   | cons g F0 ih=>obtain ⟨F',s⟩:=ih;exact ⟨_,.there s⟩,by
   have:=entF_app F1 (F0++[f])
   rwa [List.append_assoc,List.singleton_append] at this⟩
theorem entF_self (F:List Pf):EntF F F:=by simpa using entF_app F []
abbrev JAL (b:Nat) (pre:List (Nm×Ch)) (q:Option Addr×Nat):List HP:=[Pt b (.cells #[.slice q.1 (pre.map (·.2)).length q.2] 42),Row 108 7 q.1 (pre.map (·.2)).length q.2 ((pre.map (·.2)).flatMap chf)]
def JA (b:Nat) (pre:List (Nm×Ch)):HP:=fun h=>∃q,True∧Sep (JAL b pre q) h
set_option maxHeartbeats 1000000 in
theorem appendSeq_ok (gf:FuncId) (lb:Array Value) (Ok All:List (Nm×Ch)→Prop) (Fg:List Pf) (A A':List HP) (hit:IterU gf lb.toList chv Ok All Fg A A') (hlen:∀pre,Ok pre→pre.length≤1000000) :
  Enters 172∧Spec prog 172 #[.slice none 0 0,.func (.func gf) #[] lb] Fg A
   ⟨List (Nm×Ch)×Option Addr×Nat,fun q=>.slice q.2.1 (q.1.map (·.2)).length q.2.2,fun q=>All q.1,fun _=>[],fun q=>Row 108 7 q.2.1 (q.1.map (·.2)).length q.2.2 ((q.1.map (·.2)).flatMap chf)::A'⟩:=by
 refine ⟨enters_of func172 (by kernel_rfl) rfl,Wp (vs:=[_,_]) func172 rfl ntmps172 rfl fun G w hp=>?_⟩
 repeat' (first|refine ZH ?_|refine ZI ?_|refine ZK ?_|refine ZG ?_|refine ZM ?_|refine ZJ ?_|refine ZN ?_|refine ZP (fun b=>?_)|refine ZO (fun b=>?_)|refine ZA ?_|refine ZB ?_|refine ZL ?_|refine ZC (fun hc=>?_) (fun hc=>?_)|refine ZF (fun hc=>?_) (fun hc=>?_))
 generalize b=b2
 refine Zr (Lx:=[]) (r:=Row 108 7 none 0 0 []) (fun h _=>Yf _ _ h) ?_
 refine Zr (Lx:=JAL b2 [] (none,0)) (r:=JA b2 []) (fun h hh=>⟨(none,0),trivial,hh⟩) ?_
 refine k_rangeU (α:=Nm×Ch) (enc:=chv) (Ok:=Ok) (All:=All) (JA b2) (fun _ _=>False) hit ?_ ?_ ?_ (sel:=.cons .here (V7 A)) (hFg:=entF_self Fg)
 ·intro lr l pre e hpre G w0 hp0
  have hple:=hlen _ hpre
  simp only [List.length_append,List.length_singleton] at hple
  refine Z4 (X:=Option Addr×Nat) (Lx:=fun q=>JAL b2 pre q) (p:=fun _=>True) (r:=JA b2 pre) (.there .here) (fun h hh=>hh) (fun q _=>?_)
  have hpl:(List.map (·.2) pre).length≤1000000:=by simp;omega
  obtain ⟨o,cap⟩:=q
  repeat' (first|refine ZH ?_|refine ZI ?_|refine ZK ?_|refine ZG ?_|refine ZM ?_|refine ZJ ?_|refine ZN ?_|refine ZP (fun b=>?_)|refine ZO (fun b=>?_)|refine ZA ?_|refine ZB ?_|refine ZL ?_|refine k_beg ?_|refine l_app1 (fun o' cap'=>?_)|refine ZC (fun hc=>?_) (fun hc=>?_)|refine ZF (fun hc=>?_) (fun hc=>?_))
  have e1:(List.map (·.2) pre).length+1=(List.map (·.2) (pre++[e])).length:=by simp
  have e2:List.flatMap chf (List.map (·.2) pre)++chf e.2=List.flatMap chf (List.map (·.2) (pre++[e])):=by simp
  refine k_rowc (T:=108) (sz:=7) (o:=o') (cap:=cap') (m:=(List.map (·.2) pre).length+1) _ _ e1 e2 ?_
  rw [e1]
  refine Zr (Lx:=JAL b2 (pre++[e]) (o',cap')) (r:=JA b2 (pre++[e])) (fun h hh=>⟨(o',cap'),trivial,hh⟩) ?_
  exact k_rn
 ·intro D xs hxs
  refine Z4 (X:=Option Addr×Nat) (Lx:=fun q=>JAL b2 xs q) (p:=fun _=>True) (r:=JA b2 xs) .here (fun h hh=>hh) (fun q _=>?_)
  dsimp only [JAL]
  repeat' (first|refine ZH ?_|refine ZI ?_|refine ZK ?_|refine ZG ?_|refine ZM ?_|refine ZJ ?_|refine ZN ?_|refine ZP (fun b=>?_)|refine ZO (fun b=>?_)|refine ZA ?_|refine ZB ?_|refine ZL ?_|refine ZC (fun hc=>?_) (fun hc=>?_)|refine ZF (fun hc=>?_) (fun hc=>?_))
  obtain ⟨o,cap⟩:=q
  exact VH (xs,o,cap) rfl hxs (hD:=.there (.there (sel_last _ A'))) (hR:=.cons (.there .here) (sels_tl A' _))
 ·intro D pre
  exact w_open (X:=Empty) (Lx:=fun _=>[]) (p:=fun _=>False) .here (fun h hh=>hh.elim) (fun q hq=>hq.elim)
theorem collect_ok (gf:FuncId) (lb:Array Value) (Ok All:List (Nm×Ch)→Prop) (Fg:List Pf) (A A':List HP) (hit:IterU gf lb.toList chv Ok All Fg A A') (hlen:∀pre,Ok pre→pre.length≤1000000) :
  Enters 128∧Spec prog 128 #[.func (.func gf) #[] lb] Fg A
   ⟨List (Nm×Ch)×Option Addr×Nat,fun q=>.slice q.2.1 (q.1.map (·.2)).length q.2.2,fun q=>All q.1,fun _=>[],fun q=>Row 108 7 q.2.1 (q.1.map (·.2)).length q.2.2 ((q.1.map (·.2)).flatMap chf)::A'⟩:=by
 have n1:=appendSeq_ok gf lb Ok All Fg A A' hit hlen
 refine ZV [_] func128 ntmps128 fun G w hp=>?_
 repeat' (first|refine ZH ?_|refine ZI ?_|refine ZK ?_|refine ZG ?_|refine ZM ?_|refine ZJ ?_|refine ZN ?_|refine ZP (fun b=>?_)|refine ZO (fun b=>?_)|refine ZA ?_|refine ZB ?_|refine ZL ?_|(refine ZC (fun hc=>?_) (fun hc=>?_)<;>(try simp at hc))|(refine ZF (fun hc=>?_) (fun hc=>?_)<;>(try simp at hc)))
 refine ZE n1 (fun q hq=>?_) (sel:=V7 A) (hF:=entF_self Fg)
 repeat' (first|refine ZH ?_|refine ZI ?_|refine ZK ?_|refine ZG ?_|refine ZM ?_|refine ZJ ?_|refine ZN ?_|refine ZP (fun b=>?_)|refine ZO (fun b=>?_)|refine ZA ?_|refine ZB ?_|refine ZL ?_|(refine ZC (fun hc=>?_) (fun hc=>?_)<;>(try simp at hc))|(refine ZF (fun hc=>?_) (fun hc=>?_)<;>(try simp at hc)))
 exact ZT q rfl hq (R0:=[]) (hR:=sels_app0 _)
structure RdOK (rs:List (Nm×Ch)):Prop where
 nd:(rs.map (·.1)).Nodup
 nm:∀p ∈ rs,p.2.nm=p.1
 sz:∀p ∈ rs,p.1.owner.size≤1099511627770
def vrd (rs:List (Nm×Ch)):List Ch:=srtC (rs.map (·.2))
theorem vrd_len (rs:List (Nm×Ch)):(vrd rs).length=rs.length:=by
 unfold vrd;rw [(Yb _).length_eq,List.length_map]
theorem vrd_eq {rs:List (Nm×Ch)} {l:List Ch} (h:RdOK rs) (hp:l.Perm (rs.map (·.2))) (hs:Srd cmpC l):l=vrd rs:=by
 refine srd_eq _ _ (hp.trans (Yb _).symm) hs (srtC_srd _) ?_
 refine (hp.map (·.nm)).nodup_iff.2 ?_
 rw [List.map_map]
 have h2:rs.map ((·.nm) ∘ (·.2))=rs.map (·.1):=List.map_congr_left fun p hp=>h.nm p hp
 rw [h2]
 exact h.nd
theorem sortedFunc_ok (b r:Nat) (rs:List (Nm×Ch)) (h:RdOK rs) (hl:rs.length≤200) :
  Enters 64∧Spec prog 64 #[.func (.func 129) #[] #[.pointer (some ⟨b,0,none⟩)],.func (.func 66) #[] #[]]
   [Blk b (.cells #[.map (some r)] 140),Usg] [Mp Nm.v Ch.v r rs]
   ⟨Option Addr×Nat,fun q=>.slice q.1 (vrd rs).length q.2,fun _=>True,fun _=>[],fun q=>[Row 108 7 q.1 (vrd rs).length q.2 ((vrd rs).flatMap chf),Mp Nm.v Ch.v r rs]⟩:=by
 have n1:=collect_ok 129 #[.pointer (some ⟨b,0,none⟩)] _ _ _ _ _ (Ub b r rs) (fun pre hp=>by
  obtain ⟨rest,hp⟩:=hp
  have:=hp.length_eq
  simp at this;omega)
 refine ZV [_,_] func64 ntmps64 fun G w hp=>?_
 repeat' (first|refine ZH ?_|refine ZI ?_|refine ZK ?_|refine ZG ?_|refine ZM ?_|refine ZJ ?_|refine ZN ?_|refine ZP (fun b=>?_)|refine ZO (fun b=>?_)|refine ZA ?_|refine ZB ?_|refine ZL ?_|refine ZE (n1) (fun _ _=>?_)|refine l_call0 (n1) (fun _ _=>?_)|(refine ZC (fun hc=>?_) (fun hc=>?_)<;>(try simp at hc))|(refine ZF (fun hc=>?_) (fun hc=>?_)<;>(try simp at hc)))
 rename_i q hq
 obtain ⟨xs,o,cap⟩:=q
 have hpm:(xs.map (·.2)).Perm (rs.map (·.2)):=List.Perm.map _ hq
 have n2:=Wa o cap (xs.map (·.2)) 66 Usg cmpC (by rw [hpm.length_eq,List.length_map];exact hl) VN cmpC_t (fun x y hx hy=>by
  have hz:∀x ∈ xs.map (·.2),x.nm.owner.size≤1099511627770:=fun x hx=>by
   obtain ⟨p,hp1,hp2⟩:=List.mem_map.1 (hpm.mem_iff.1 hx)
   rw [←hp2,h.nm p hp1]
   exact h.sz p hp1
  have:=UC x y (hz x hx) (hz y hy)
  exact ⟨this.1,this.2.more⟩)
 repeat' (first|refine ZH ?_|refine ZI ?_|refine ZK ?_|refine ZG ?_|refine ZM ?_|refine ZJ ?_|refine ZN ?_|refine ZP (fun b=>?_)|refine ZO (fun b=>?_)|refine ZA ?_|refine ZB ?_|refine ZL ?_|refine ZE (n2) (fun _ _=>?_)|refine l_call0 (n2) (fun _ _=>?_)|(refine ZC (fun hc=>?_) (fun hc=>?_)<;>(try simp at hc))|(refine ZF (fun hc=>?_) (fun hc=>?_)<;>(try simp at hc)))
 rename_i l hl2
 have hle:l=vrd rs:=vrd_eq h (hl2.1.trans hpm) hl2.2
 subst hle
 have e3:(xs.map (·.2)).length=(vrd rs).length:=hl2.1.length_eq.symm
 refine k_rowc (T:=108) (sz:=7) (o:=o) (cap:=cap) (m:=(xs.map (·.2)).length) _ _ e3 rfl ?_
 exact ZT (o,cap) (by show resV [Value.slice o (xs.map (·.2)).length cap]=_;rw [e3];rfl) trivial
theorem vwReads_ok (b:Nat) (ps:Option Addr) (rs:List (Nm×Ch)) (cs:List Ch) (h:RdOK rs) (hl:rs.length≤200) :
  Enters 23∧Spec prog 23 #[.pointer (some ⟨b,0,none⟩)] [Usg] [Vw b ps rs cs]
   ⟨Option Addr×Nat,fun q=>.slice q.1 (vrd rs).length q.2,fun _=>True,fun _=>[],fun q=>[Vw b ps rs cs,Row 108 7 q.1 (vrd rs).length q.2 ((vrd rs).flatMap chf)]⟩:=by
 have n2:=fun (r:Nat) (c:Nat)=>sortedFunc_ok c r rs h hl
 refine ZV [_] func23 ntmps23 fun G w hp=>?_
 refine k_vw fun q=>?_
 obtain ⟨r1,r2,o,cap⟩:=q
 repeat' (first|refine ZH ?_|refine ZI ?_|refine ZK ?_|refine ZG ?_|refine ZM ?_|refine ZJ ?_|refine ZN ?_|refine ZP (fun b=>?_)|refine ZO (fun b=>?_)|refine ZA ?_|refine ZB ?_|refine ZL ?_|refine ZE (VA _) (fun _ _=>?_)|refine l_call0 (VA _) (fun _ _=>?_)|refine ZE (n2 r1 _) (fun _ _=>?_)|refine l_call0 (n2 r1 _) (fun _ _=>?_)|(refine ZC (fun hc=>?_) (fun hc=>?_)<;>(try simp at hc))|(refine ZF (fun hc=>?_) (fun hc=>?_)<;>(try simp at hc)))
 rename_i q2 _
 refine k_vw' (cs:=cs) (rs:=rs) (o:=o) (m:=cs.length) (xs:=cs.flatMap chf) ?_ rfl rfl rfl
 exact ZT q2 rfl trivial
section
def less (G:H) (b:Nat):H:=fun c=>if c=b then none else G c
theorem Wc (G:H) (b:Nat):Sub (less G b) G:=fun c o e=>by
 unfold less at e
 split at e
 ·cases e
 ·exact e
theorem VR {G:H} {b c:Nat} (h:c≠b):less G b c=G c:=by unfold less;rw [if_neg h]
theorem less_eq (G:H) (b:Nat):less G b b=none:=by unfold less;rw [if_pos rfl]
theorem Sat.lend {G:H} {w0 w:World} {hp0:H} {F:List Pf} {R:List HP} {b:Nat} {o:Obj} (hG:G b=some o) (h:Sat G w0 hp0 F R w) :
  ∃hp1,Sat (less G b) w hp1 (Blk b o::F) R w∧∀F' R' w',Sat (less G b) w hp1 F' R' w'→Sat G w0 hp0 F R' w':=by
 obtain ⟨hp,hr,t⟩:=h
 have hpb:hp b=none:=by
  rcases t.d2 b with h|h
  ·exact h
  ·rw [hG] at h;cases h
 have hrb:hr b=none:=by
  rcases t.d3 b with h|h
  ·exact h
  ·rw [hG] at h;cases h
 have hs1:Sub hp (un hp (one b o)):=Zg _ _
 have e1:un hp (one b o) b=some o:=by unfold un one;simp [hpb]
 refine ⟨un hp (one b o),⟨un hp (one b o),hr,In.un t.inp (fun c x e=>?_),t.inr,t.ing.sub (Wc G b),Z7.2 ⟨t.d1,fun c=>?_⟩,Z7.2 ⟨(t.d2.symm.sub (Wc G b)).symm,fun c=>?_⟩,(t.d3.symm.sub (Wc G b)).symm,Sub.refl _,fun x hx=>?_,t.r,Same.refl _⟩,fun F' R' w' hs=>?_⟩
 ·unfold one at e
  split at e
  ·rename_i hc;subst hc;cases e;exact t.ing _ _ hG
  ·cases e
 ·by_cases hc:c=b
  ·subst hc;exact .inr hrb
  ·exact .inl (by unfold one;simp [hc])
 ·by_cases hc:c=b
  ·subst hc;exact .inr (less_eq _ _)
  ·exact .inl (by unfold one;simp [hc])
 ·rcases List.mem_cons.1 hx with rfl|hx
  ·exact e1
  ·exact x.m _ _ hs1 (t.f x hx)
 ·obtain ⟨hp',hr',t'⟩:=hs
  have hb':hp' b=some o:=t'.sub b o e1
  have hrb':hr' b=none:=by
   rcases t'.d1 b with h|h
   ·rw [hb'] at h;cases h
   ·exact h
  have hs2:Sub hp (less hp' b):=fun c x e=>by
   have hc:c≠b:=fun h=>by subst h;rw [hpb] at e;cases e
   rw [VR hc]
   exact t'.sub c x (hs1 c x e)
  refine ⟨less hp' b,hr',t'.inp.sub (Wc _ _),t'.inr,fun c x e=>?_,t'.d1.sub (Wc _ _),fun c=>?_,fun c=>?_,t.sub.trans hs2,fun x hx=>x.m _ _ hs2 (t.f x hx),t'.r,t.same.trans t'.same⟩
  ·by_cases hc:c=b
   ·subst hc;rw [hG] at e;cases e;exact t'.inp _ _ hb'
   ·exact t'.ing c x (by rw [VR hc];exact e)
  ·by_cases hc:c=b
   ·subst hc;exact .inl (less_eq _ _)
   ·rw [VR hc]
    rcases t'.d2 c with h|h
    ·exact .inl h
    ·rw [VR hc] at h;exact .inr h
  ·by_cases hc:c=b
   ·subst hc;exact .inl hrb'
   ·rcases t'.d3 c with h|h
    ·exact .inl h
    ·rw [VR hc] at h;exact .inr h
variable {Rs N N' A:List HP} {L L':List (Nat×Nat)} {Tl:List Nat} {i:Nat} {o:Obj}
theorem r_callS {f:FuncId} {args:Array Operand} {tys:Array TypeId} {vs:List Value} {post:Post} (spec:Enters f∧Spec prog f vs.toArray (Blk b o::F1) A post) (_hpF:∀x,post.F x=[])
  (nx:∀x,post.pure x→Wr n C ops k Q Tl Fs R L ((d,post.val x)::E) F (post.R x++N')) (ho:nth ops i=some ⟨some d,.call ⟨.value (.func f),args,tys⟩,ty0,pos,aft,gd⟩:=by rfl)
  (hw:wantL ops E ⟨some d,.call ⟨.value (.func f),args,tys⟩,ty0,pos,aft,gd⟩=some true:=by rfl) (hargs:evs (ev E) args.toList some=some vs:=by rfl)
  (hb:Sel (Pt b o) R R0:=by (repeat (first|exact Sel.here|apply Sel.there));first|done|fail)
  (sel:Sels A N N':=by (repeat (first|exact Sels.nil|exact Sel.here|apply Sel.there|apply Sels.cons));first|done|fail)
  (hF:EntF F F1:=by (repeat (first|exact trivial|exact Sel.here|apply Sel.there|apply EntF.cons));first|done|fail):Wr n C ops k Q Tl Fs R ((i,4)::L) E F N:=
 Ye ho fun hp hr w st hz sb=>by
  simp only [Zq hw]
  refine ⟨⟨post.X,post.val,post.pure,fun _=>F,fun x=>post.R x++N'⟩,fun a G w hp' ha hsub hsat=>?_,fun x hx=>nx x hx hp hr w st hz sb⟩
  unfold OpRes
  rw [V5 spec.1 hargs ha w]
  have hzb:un G hp' b=some o:=hsub _ _ (sb _ _ (stat_pt st hb))
  have hF1:∀(Fx:List Pf) hp,(∀x ∈ Blk b o::F,x.p hp)→∀x ∈ Blk b o::F1,x.p hp:=fun _ hp hf x hx=>by
   rcases List.mem_cons.1 hx with rfl|hx
   ·exact hf _ List.mem_cons_self
   ·exact hF.all hp (fun y hy=>hf y (List.mem_cons_of_mem _ hy)) x hx
  cases hGb:G b with
  | some o'=>
   obtain rfl:o'=o:=by
    have:un G hp' b=some o':=Zg _ _ _ _ hGb
    rw [hzb] at this;exact (Option.some.inj this).symm
   obtain ⟨hp1,h1,h2⟩:=hsat.lend hGb
   exact Yj spec.2 h1 sel (hF1 []) fun x w' hx hs'=>⟨x,rfl,hx,h2 _ _ _ hs'⟩
  | none=>
   have hpb:hp' b=some o:=by
    rcases un_or hzb with h|h
    ·rw [hGb] at h;cases h
    ·exact h
   have h1:Sat G w hp' (Blk b o::F) N w:=by
    obtain ⟨hp2,hr2,t2⟩:=hsat
    exact ⟨hp2,hr2,t2.inp,t2.inr,t2.ing,t2.d1,t2.d2,t2.d3,t2.sub,fun y hy=>by
     rcases List.mem_cons.1 hy with rfl|hy
     ·exact t2.sub _ _ hpb
     ·exact t2.f y hy,t2.r,t2.same⟩
   exact Yj spec.2 h1 sel (hF1 []) fun x w' hx hs'=>⟨x,rfl,hx,hs'.facts fun hp hf y hy=>hf y (List.mem_append_right _ (List.mem_cons_of_mem _ hy))⟩
end
def WrPostF (r2:Nat) (o:Option Addr) (cap:Nat) (cs:List Ch):Post:=⟨Option Addr×Nat,fun q=>.slice q.1 (vwr cs).length q.2,fun _=>True,fun _=>[],fun q=>[Row 108 7 o cs.length cap (cs.flatMap chf),Mp Nm.v iv r2 (lastL cs),Row 108 7 q.1 (vwr cs).length q.2 ((vwr cs).flatMap chf)]⟩
set_option maxHeartbeats 2000000 in
theorem V6 (b:Nat) (ps:Option Addr) (r1 r2:Nat) (o:Option Addr) (cap:Nat) (cs:List Ch) (hl:(lastL cs).length≤200) (hsz:∀c ∈ cs,c.nm.owner.size≤1099511627770) :
  Enters 25∧Spec prog 25 #[.pointer (some ⟨b,0,none⟩)] [Blk b (.cells #[.pointer ps,.map (some r1),.slice o cs.length cap,.map (some r2)] 143),Usg] [Row 108 7 o cs.length cap (cs.flatMap chf),Mp Nm.v iv r2 (lastL cs)] (WrPostF r2 o cap cs):=by
 by_cases hcs:cs=[]
 ·subst hcs
  have n1:=Wa none 0 [] 66 Usg cmpC (by simp) VN cmpC_t (by simp)
  refine ZV [_] func25 ntmps25 fun G w hp=>?_
  repeat' (first|refine ZH ?_|refine ZI ?_|refine ZK ?_|refine ZG ?_|refine ZM ?_|refine ZJ ?_|refine ZN ?_|refine ZP (fun b=>?_)|refine ZO (fun b=>?_)|refine ZA ?_|refine ZB ?_|refine ZL ?_|refine l_rng (K:=Nm.v) (V:=iv) (fun it=>?_)|(refine ZC (fun hc=>?_) (fun hc=>?_)<;>(try simp at hc))|(refine ZF (fun hc=>?_) (fun hc=>?_)<;>(try simp at hc)))
  refine YT (X:=Unit) (fun _=>[(0,.pointer (some ⟨b,0,none⟩)),(3,.slice none 0 0),(12,.pointer (some ⟨it,0,none⟩))]) (fun _=>[Usg]) (fun _=>[Row 108 7 o 0 cap [],MpI Nm.v iv r2 it [] []]) (fun _=>0) () ⟨rfl,rfl,rfl,trivial⟩ ?_
  rintro ⟨⟩
  refine Zr (r:=Row 108 7 none 0 0 []) (Lx:=[]) (fun h _=>Yf _ _ h) ?_
  repeat' (first|refine ZH ?_|refine ZI ?_|refine ZK ?_|refine ZG ?_|refine ZM ?_|refine ZJ ?_|refine ZN ?_|refine ZP (fun b=>?_)|refine ZO (fun b=>?_)|refine ZA ?_|refine ZB ?_|refine ZL ?_|refine ZE (n1) (fun _ _=>?_)|refine l_call0 (n1) (fun _ _=>?_)|refine l_nxt (K:=Nm.v) (V:=iv) (fun p hp=>?_) (fun hp=>?_)|(refine ZC (fun hc=>?_) (fun hc=>?_)<;>(try simp at hc))|(refine ZF (fun hc=>?_) (fun hc=>?_)<;>(try simp at hc)))
  ·exfalso
   obtain ⟨rest,h⟩:=hp
   have:=h.length_eq
   simp at this
  ·rename_i l hl2
   obtain rfl:l=[]:=List.perm_nil.1 hl2.1
   refine k_rngE (r:=r2) (it:=it) (K:=Nm.v) (V:=iv) (m:=[]) ?_
   exact ZT (post:=WrPostF r2 o cap []) (none,0) rfl trivial
 ·have hpos:0<cs.length:=List.length_pos_iff.2 hcs
  refine ZV [_] func25 ntmps25 fun G w hp=>?_
  refine k_row (m:=cs.length) hpos fun p hp=>?_
  have ho:=hp.o
  subst ho
  have hsp:Ax 108 chf p.1 cs p.2=Pt p.1 (.cells (cs.flatMap chf++p.2.1).toArray 108 p.2.2):=rfl
  rw [←hsp]
  repeat' (first|refine ZH ?_|refine ZI ?_|refine ZK ?_|refine ZG ?_|refine ZM ?_|refine ZJ ?_|refine ZN ?_|refine ZP (fun b=>?_)|refine ZO (fun b=>?_)|refine ZA ?_|refine ZB ?_|refine ZL ?_|refine l_rng (K:=Nm.v) (V:=iv) (fun it=>?_)|(refine ZC (fun hc=>?_) (fun hc=>?_)<;>(try simp at hc))|(refine ZF (fun hc=>?_) (fun hc=>?_)<;>(try simp at hc)))
  refine Zr (r:=Row 108 7 none 0 0 []) (Lx:=[]) (fun h _=>Yf _ _ h) ?_
  refine YT (X:={t:List (Nm×Nat)×Option Addr×Nat // ∃rest,(t.1++rest).Perm (lastL cs)}) (fun t=>[(0,.pointer (some ⟨b,0,none⟩)),(3,.slice t.1.2.1 (t.1.1.map (chAt cs)).length t.1.2.2),(12,.pointer (some ⟨it,0,none⟩))]) (fun _=>[Blk b (.cells #[.pointer ps,.map (some r1),.slice (some ⟨p.1,0,none⟩) cs.length cap,.map (some r2)] 143),Usg])
   (fun t=>[Ax 108 chf p.1 cs p.2,MpI Nm.v iv r2 it (lastL cs) t.1.1,Row 108 7 t.1.2.1 (t.1.1.map (chAt cs)).length t.1.2.2 ((t.1.1.map (chAt cs)).flatMap chf)]) (fun t=>(lastL cs).length - t.1.1.length)
   ⟨([],none,0),lastL cs,by simp⟩ ⟨rfl,rfl,rfl,trivial⟩ ?_
  rintro ⟨⟨pre,o,oc⟩,rest,hrest⟩
  have hprel:=hrest.length_eq
  rw [List.length_append] at hprel
  dsimp only
  repeat' (first|refine ZH ?_|refine ZI ?_|refine ZK ?_|refine ZG ?_|refine ZM ?_|refine ZJ ?_|refine ZN ?_|refine ZP (fun b=>?_)|refine ZO (fun b=>?_)|refine ZA ?_|refine ZB ?_|refine ZL ?_|refine l_nxt (K:=Nm.v) (V:=iv) (fun e he=>?_) (fun he=>?_)|refine l_ent (K:=Nm.v) (V:=iv) e ?_|(refine ZC (fun hc=>?_) (fun hc=>?_)<;>(try simp at hc))|(refine ZF (fun hc=>?_) (fun hc=>?_)<;>(try simp at hc)))
  ·have hem:e ∈ lastL cs:=by
    obtain ⟨rest',h⟩:=he
    exact h.mem_iff.1 (by simp)
   obtain ⟨he1,he2⟩:=XQ hem
   have hil:=(List.getElem?_eq_some_iff.1 he1).1
   have hlen2:pre.length<(lastL cs).length:=by
    obtain ⟨rest',h⟩:=he
    have:=h.length_eq
    simp at this;omega
   have hpl:(List.map (chAt cs) pre).length≤200:=by simp;omega
   repeat' (first|refine ZH ?_|refine ZI ?_|refine ZK ?_|refine ZG ?_|refine ZM ?_|refine ZJ ?_|refine ZN ?_|refine ZP (fun b=>?_)|refine ZO (fun b=>?_)|refine ZA ?_|refine ZB ?_|refine ZL ?_|refine l_ixS (m:=cs.length) e.2 hil ?_|refine Zn 7 e.2 0 he1 ?_|refine l_app1 (fun o' cap'=>?_)|(refine ZC (fun hc=>?_) (fun hc=>?_)<;>(try simp at hc))|(refine ZF (fun hc=>?_) (fun hc=>?_)<;>(try simp at hc)))
   have e1:(List.map (chAt cs) pre).length+1=(List.map (chAt cs) (pre++[e])).length:=by simp
   have e2:List.flatMap chf (List.map (chAt cs) pre)++chf (chAt cs e)=List.flatMap chf (List.map (chAt cs) (pre++[e])):=by simp
   refine k_rowc (T:=108) (sz:=7) (o:=o') (cap:=cap') (m:=(List.map (chAt cs) pre).length+1) _ _ e1 e2 ?_
   exact Zi ⟨(pre++[e],o',cap'),he⟩ (by show (lastL cs).length - (pre++[e]).length<(lastL cs).length - pre.length;simp;omega) ⟨rfl,(by show look _ _=some (Value.slice o' (List.map (chAt cs) (pre++[e])).length cap');rw [←e1];rfl),rfl,trivial⟩
  ·have hpm:(pre.map (chAt cs)).Perm ((lastL cs).map (chAt cs)):=he.map _
   have n1:=Wa o oc (pre.map (chAt cs)) 66 Usg cmpC (by rw [hpm.length_eq,List.length_map];exact hl) VN cmpC_t (fun x y hx hy=>by
    have hz:∀x ∈ pre.map (chAt cs),x.nm.owner.size≤1099511627770:=fun x hx=>by
     obtain ⟨p,hp1,hp2⟩:=List.mem_map.1 (hpm.mem_iff.1 hx)
     rw [←hp2]
     exact hsz _ (List.mem_of_getElem? (XQ hp1).1)
    have:=UC x y (hz x hx) (hz y hy)
    exact ⟨this.1,this.2.more⟩)
   repeat' (first|refine ZH ?_|refine ZI ?_|refine ZK ?_|refine ZG ?_|refine ZM ?_|refine ZJ ?_|refine ZN ?_|refine ZP (fun b=>?_)|refine ZO (fun b=>?_)|refine ZA ?_|refine ZB ?_|refine ZL ?_|refine ZE (n1) (fun _ _=>?_)|refine l_call0 (n1) (fun _ _=>?_)|(refine ZC (fun hc=>?_) (fun hc=>?_)<;>(try simp at hc))|(refine ZF (fun hc=>?_) (fun hc=>?_)<;>(try simp at hc)))
   rename_i l hl2
   have hle:l=vwr cs:=vwr_eq (hl2.1.trans hpm) hl2.2
   subst hle
   have e3:(pre.map (chAt cs)).length=(vwr cs).length:=hl2.1.length_eq.symm
   refine k_rngE (r:=r2) (it:=it) (K:=Nm.v) (V:=iv) (m:=lastL cs) (pre:=pre) ?_
   refine Zr (r:=Row 108 7 (some ⟨p.1,0,none⟩) cs.length cap (cs.flatMap chf)) (Lx:=[Ax 108 chf p.1 cs p.2]) (fun h hh=>Wm hp h hh) ?_
   refine k_rowc (T:=108) (sz:=7) (o:=o) (cap:=oc) (m:=(pre.map (chAt cs)).length) _ _ e3 rfl ?_
   exact ZT (post:=WrPostF r2 (some ⟨p.1,0,none⟩) cap cs) (o,oc) (by show resV [Value.slice o (pre.map (chAt cs)).length oc]=_;rw [e3];rfl) trivial
theorem r_frz {n:Nat} {C:Cx} {Q:Exit→Act→World→Prop} {E:List (Nat×Value)} {F Fs:List Pf} {R N N':List HP} {k:List Fr} {ops:List Oper} {L:List (Nat×Nat)} {Tl:List Nat} {α:Type} {T sz:Nat} {f:α→List Value} {o:Option Addr} {m cap:Nat} {xs:List Value} (es:List α)
  (t:Wr n C ops k Q Tl Fs R L E (Sl T f o cap es::F) N') (hx:xs=es.flatMap f) (hm:m=es.length) (hs:Sel (Row T sz o m cap xs) N N':=by (repeat (first|exact Sel.here|apply Sel.there));first|done|fail) (h5:(L.all fun y=>y.2 != 5)=true:=by rfl):Wr n C ops k Q Tl Fs R L E F N:=
 r_imp (fun _ _ _ _ h=>V3 hx hm hs h) t h5
structure FitC (c:Ch):Prop where
 ok:nchk c.nm=0
 val:c.val.size≤65536
 abs:c.abs=false
 own:c.nm.owner.size≤1099511627770
 txt:c.nm.text.size≤1099511627776
def applyE (es:Al) (l:List Ch):Al:=l.foldl (fun es c=>insO c.nm c.val es) es
theorem UV (es:Al) (l:List Ch) (c:Ch):applyE es (l++[c])=insO c.nm c.val (applyE es l):=by simp [applyE]
theorem VF (es:Al) (l:List Ch):(applyE es l).length≤es.length+l.length:=by
 refine Xf (P:=fun l=>(applyE es l).length≤es.length+l.length) (by simp [applyE]) (fun l c ih=>?_) l
 rw [UV]
 have:=Vp c.nm c.val (applyE es l)
 simp;omega
set_option maxHeartbeats 1000000 in
theorem apply_ok (bs:Nat) (es:Al) (o:Option Addr) (cap:Nat) (l:List Ch) (hf:∀c ∈ l,FitC c) (hl:es.length+l.length≤65536) :
  Enters 22∧Spec prog 22 #[.pointer (some ⟨bs,0,none⟩),.slice o l.length cap] [St (some ⟨bs,0,none⟩) es,Sl 108 chf o cap l,Usg] []
   ⟨Nat,fun b=>.tuple #[.pointer (some ⟨b,0,none⟩),.int .i64 0],fun _=>True,fun b=>[St (some ⟨b,0,none⟩) (applyE es l)],fun _=>[]⟩:=by
 refine ZV [_,_] func22 ntmps22 fun G w hp=>?_
 repeat' (first|refine ZH ?_|refine ZI ?_|refine ZK ?_|refine ZG ?_|refine ZM ?_|refine ZJ ?_|refine ZN ?_|refine ZP (fun b=>?_)|refine ZO (fun b=>?_)|refine ZA ?_|refine ZB ?_|refine ZL ?_|(refine ZC (fun hc=>?_) (fun hc=>?_)<;>(try simp at hc))|(refine ZF (fun hc=>?_) (fun hc=>?_)<;>(try simp at hc)))
 refine YT (X:={t:Nat×Nat // t.1≤l.length}) (fun t=>[(0,.pointer (some ⟨t.1.2,0,none⟩)),(11,.slice o l.length cap),(12,.int .i64 (l.length:Int)),(13,.int .i64 (t.1.1:Int))]) (fun t=>[St (some ⟨t.1.2,0,none⟩) (applyE es (l.take t.1.1)),Sl 108 chf o cap l,Usg]) (fun _=>[]) (fun t=>l.length - t.1.1)
  ⟨(0,bs),by simp⟩ ⟨rfl,rfl,rfl,rfl,trivial⟩ ?_
 rintro ⟨⟨i,b1⟩,hi⟩
 dsimp only at hi ⊢
 by_cases hlt:i<l.length
 ·have hgt:=List.getElem?_eq_getElem hlt
  obtain ⟨c,hcc⟩:∃c,l[i]=c:=⟨_,rfl⟩
  rw [hcc] at hgt
  have hm:c ∈ l:=by rw [←hcc];exact List.getElem_mem hlt
  have fc:=hf c hm
  have he:withE (applyE es (l.take i)) c.nm c.val=0:=by
   have h1:=VF es (l.take i)
   have h2:(l.take i).length=i:=by simp;omega
   have h3:=fc.ok
   have h4:=fc.val
   unfold withE
   rw [if_neg (by simp [h3]),if_neg (by omega),if_neg (fun h=>by omega)]
  have n1:=Vl (some ⟨b1,0,none⟩) (applyE es (l.take i)) c.nm c.val fc.own fc.txt
  rw [he] at n1
  have ea:=fc.abs
  repeat' (first|refine ZH ?_|refine ZI ?_|refine ZK ?_|refine ZG ?_|refine ZM ?_|refine ZJ ?_|refine ZN ?_|refine ZP (fun b=>?_)|refine ZO (fun b=>?_)|refine ZA ?_|refine ZB ?_|refine ZL ?_|refine ZE (n1) (fun _ _=>?_)|refine l_call0 (n1) (fun _ _=>?_)|refine l_ixe i c hgt (fun b off=>?_)|refine XJ ?_|rw [ea]|(refine ZC (fun hc=>?_) (fun hc=>?_)<;>(try simp at hc)<;>(try omega))|(refine ZF (fun hc=>?_) (fun hc=>?_)<;>(try simp at hc)<;>(try omega)))
  rename_i q _
  refine XD (X:=Nat) (Fx:=fun b=>[St (some ⟨b,0,none⟩) (applyE es (l.take (i+1)))]) (p:=fun b=>q=some ⟨b,0,none⟩) (f:=StR q 0 (insO c.nm c.val (applyE es (l.take i)))) .here (fun h hh=>?_) (fun b2 hb2=>?_)
  ·have hh':(St q (insO c.nm c.val (applyE es (l.take i)))).p h:=hh
   obtain ⟨tr,g1,g2,b3,p3,g3,g4⟩:=hh'
   subst g3
   refine ⟨b3,rfl,fun g hg=>?_⟩
   obtain rfl:=List.mem_singleton.1 hg
   rw [List.take_succ_eq_append_getElem hlt,hcc,UV]
   exact ⟨tr,g1,g2,b3,p3,rfl,g4⟩
  ·subst hb2
   rw [wrapi (z:=(i:Int)+1) (by omega) (by omega)]
   exact Zi ⟨(i+1,b2),by simp;omega⟩ (by show l.length - (i+1)<l.length - i;omega) ⟨rfl,rfl,rfl,rfl,trivial⟩
 ·repeat' (first|refine ZH ?_|refine ZI ?_|refine ZK ?_|refine ZG ?_|refine ZM ?_|refine ZJ ?_|refine ZN ?_|refine ZP (fun b=>?_)|refine ZO (fun b=>?_)|refine ZA ?_|refine ZB ?_|refine ZL ?_|(refine ZC (fun hc=>?_) (fun hc=>?_)<;>(try simp at hc)<;>(try omega))|(refine ZF (fun hc=>?_) (fun hc=>?_)<;>(try simp at hc)<;>(try omega)))
  obtain rfl:i=l.length:=by omega
  rw [List.take_length]
  exact ZT b1 rfl trivial
theorem vcs_fit {cs:List Ch} (h:∀c ∈ cs,FitC c):∀c ∈ vwr cs,FitC c:=fun c hc=>by
 have h1:=(Yb _).mem_iff.1 hc
 obtain ⟨p,hp1,hp2⟩:=List.mem_map.1 h1
 rw [←hp2]
 exact h _ (List.mem_of_getElem? (XQ hp1).1)
set_option maxHeartbeats 1000000 in
theorem vwAfter_ok (b bs:Nat) (es:Al) (rs:List (Nm×Ch)) (cs:List Ch) (hl:(lastL cs).length≤200) (hf:∀c ∈ cs,FitC c) (hes:es.length≤65000) :
  Enters 49∧Spec prog 49 #[.pointer (some ⟨b,0,none⟩)] [St (some ⟨bs,0,none⟩) es,Usg] [Vw b (some ⟨bs,0,none⟩) rs cs]
   ⟨Nat,fun q=>.tuple #[.pointer (some ⟨q,0,none⟩),.int .i64 0],fun _=>True,fun q=>[St (some ⟨q,0,none⟩) (applyE es (vwr cs))],fun _=>[Vw b (some ⟨bs,0,none⟩) rs cs]⟩:=by
 have n1:=fun (r1 r2:Nat) (o:Option Addr) (cap:Nat)=>V6 b (some ⟨bs,0,none⟩) r1 r2 o cap cs hl (fun c hc=>(hf c hc).own)
 have hw:=WG cs
 have n2:=fun (q:Option Addr×Nat)=>apply_ok bs es q.1 q.2 (vwr cs) (vcs_fit hf) (by omega)
 refine ZV [_] func49 ntmps49 fun G w hp=>?_
 refine k_vw fun q=>?_
 obtain ⟨r1,r2,o,cap⟩:=q
 repeat' (first|refine ZH ?_|refine ZI ?_|refine ZK ?_|refine ZG ?_|refine ZM ?_|refine ZJ ?_|refine ZN ?_|refine ZP (fun b=>?_)|refine ZO (fun b=>?_)|refine ZA ?_|refine ZB ?_|refine ZL ?_|refine ZX ?_|refine ZY ?_|refine Zf ?_|refine Za ?_|refine Zb ?_|refine Zc (fun b=>?_)|refine Zd (fun b=>?_)|refine Ze ?_|refine ZZ ?_|refine r_callS (n1 r1 r2 o cap) (fun _=>rfl) (fun q _=>?_)|(refine ZC (fun hc=>?_) (fun hc=>?_)<;>(try simp at hc))|(refine ZQ (fun hc=>?_) (fun hc=>?_)<;>(try simp at hc))|refine ZD 3 [Row _ _ _ _ _ _,Mp Nm.v iv _ _] [(0,0),(1,0),(2,0),(3,0),(4,0),(5,4),(6,4),(7,0),(8,0),(9,0),(10,0)] [] ?_|(refine ZF (fun hc=>?_) (fun hc=>?_)<;>(try simp at hc)))
 obtain ⟨qo,qc⟩:=q
 have n2':=n2 (qo,qc)
 refine r_frz (T:=108) (sz:=7) (f:=chf) (o:=qo) (cap:=qc) (m:=(vwr cs).length) (xs:=(vwr cs).flatMap chf) (vwr cs) ?_ rfl rfl (hs:=.there (.there .here))
 repeat' (first|refine ZS n2' (fun _ _=>?_)|refine ZH ?_|refine ZI ?_|refine ZK ?_|refine ZG ?_|refine ZM ?_|refine ZJ ?_|refine ZN ?_|refine ZP (fun b=>?_)|refine ZO (fun b=>?_)|refine ZA ?_|refine ZB ?_|refine ZL ?_|refine ZE (n2') (fun _ _=>?_)|refine l_call0 (n2') (fun _ _=>?_)|refine ZX ?_|refine ZY ?_|refine ZZ ?_|(refine ZC (fun hc=>?_) (fun hc=>?_)<;>(try simp at hc))|(refine ZF (fun hc=>?_) (fun hc=>?_)<;>(try simp at hc)))
 rename_i b' _
 refine k_vw' (cs:=cs) (rs:=rs) (o:=o) (m:=cs.length) (xs:=cs.flatMap chf) ?_ rfl rfl rfl
 exact ZT b' rfl trivial
structure Ct where
 b:Int
 o:Int
 c:Int
 deriving DecidableEq
def Ct.v (c:Ct):Value:=.agg #[.int .i64 c.b,.int .i64 c.o,.int .i64 c.c]
def Ct.z:Ct:=⟨0,0,0⟩
structure CtOK (c:Ct):Prop where
 b0:0≤c.b
 b1:c.b≤1048576
 o0:0≤c.o
 o1:c.o≤1048576
 c0:0≤c.c
 c1:c.c≤1048576
def cenc (c:Ct):List UInt8:=venc c.b.toNat++venc c.o.toNat++venc c.c.toNat
theorem Z5 (x m:Int):Enters 106∧Spec prog 106 #[.int .i64 x,.int .i64 m] [] [] (RetV (.bool (decide (0≤x) && decide (x≤m)))):=by
 refine ZV [_,_] func106 ntmps106 fun G w hp=>?_
 repeat' (first|refine ZH ?_|refine ZI ?_|refine ZK ?_|refine ZG ?_|refine ZM ?_|refine ZJ ?_|refine ZN ?_|refine ZP (fun b=>?_)|refine ZO (fun b=>?_)|refine ZA ?_|refine ZB ?_|refine ZL ?_|(refine ZC (fun hc=>?_) (fun hc=>?_)<;>(try simp at hc))|(refine ZF (fun hc=>?_) (fun hc=>?_)<;>(try simp at hc)))
 all_goals (refine ZT () ?_ trivial;simp_all [RetV,resV]<;>omega)
def cchk (c:Ct):Int:=if 0≤c.b∧c.b≤1048576∧0≤c.o∧c.o≤1048576∧0≤c.c∧c.c≤1048576 then 0 else 2
theorem cchk_ok {c:Ct} (h:CtOK c):cchk c=0:=by
 unfold cchk;rw [if_pos ⟨h.b0,h.b1,h.o0,h.o1,h.c0,h.c1⟩]
theorem cntCheck_ok (c:Ct):Enters 222∧Spec prog 222 #[c.v] [] [] (RetV (.int .i64 (cchk c))):=by
 have n1:=Z5 c.b 1048576
 have n2:=Z5 c.o 1048576
 have n3:=Z5 c.c 1048576
 refine ZV [_] func222 ntmps222 fun G w hp=>?_
 repeat' (first|refine ZH ?_|refine ZI ?_|refine ZK ?_|refine ZG ?_|refine ZM ?_|refine ZJ ?_|refine ZN ?_|refine ZP (fun b=>?_)|refine ZO (fun b=>?_)|refine ZA ?_|refine ZB ?_|refine ZL ?_|refine ZE (n1) (fun _ _=>?_)|refine l_call0 (n1) (fun _ _=>?_)|refine ZE (n2) (fun _ _=>?_)|refine l_call0 (n2) (fun _ _=>?_)|refine ZE (n3) (fun _ _=>?_)|refine l_call0 (n3) (fun _ _=>?_)|(refine ZC (fun hc=>?_) (fun hc=>?_)<;>(try simp at hc))|(refine ZF (fun hc=>?_) (fun hc=>?_)<;>(try simp at hc)))
 all_goals (refine ZT () ?_ trivial;simp_all [RetV,resV,cchk]<;>omega)
abbrev EncL (b bw:Nat) (e:Int) (bs:List UInt8):List HP:=[Pt b (.cells #[.pointer (some ⟨bw,0,none⟩),.int .i64 e] 323),Wtr bw bs]
theorem Yv (e:Int):Enters 203∧Spec prog 203 #[.int .i64 e] [] [] ⟨Nat×Nat,fun q=>.pointer (some ⟨q.1,0,none⟩),fun _=>True,fun _=>[],fun q=>EncL q.1 q.2 e []⟩:=by
 refine ZV [_] func203 ntmps203 fun G w hp=>?_
 repeat' (first|refine ZH ?_|refine ZI ?_|refine ZK ?_|refine ZG ?_|refine ZM ?_|refine ZJ ?_|refine ZN ?_|refine ZP (fun b=>?_)|refine ZO (fun b=>?_)|refine ZA ?_|refine ZB ?_|refine ZL ?_|refine ZE (VV) (fun _ _=>?_)|refine l_call0 (VV) (fun _ _=>?_)|(refine ZC (fun hc=>?_) (fun hc=>?_)<;>(try simp at hc))|(refine ZF (fun hc=>?_) (fun hc=>?_)<;>(try simp at hc)))
 rename_i bw _
 exact ZT (b,bw) rfl trivial
theorem Wy:∀l:List Int,(∀z ∈ l,0≤z∧z≤4294967296)→(l.flatMap fun z=>venc z.toNat).length≤l.length * 10
 | [],_=>by simp
 | z::l,h=>by
  have h1:=Yy z.toNat (by have:=h z (by simp);omega)
  have h2:=Wy l (fun y hy=>h y (by simp [hy]))
  simp only [List.flatMap_cons,List.length_append,List.length_cons]
  omega
theorem numbers_ok (b bw:Nat) (e:Int) (bs:List UInt8) (o:Option Addr) (cap:Nat) (l:List Int) (hl:l.length≤1000) (hz:∀z ∈ l,0≤z∧z≤4294967296) (hb:bs.length≤1000000) :
  Enters 204∧Spec prog 204 #[.pointer (some ⟨b,0,none⟩),.slice o l.length cap] [Sl 3 zf o cap l] (EncL b bw e bs)
   ⟨Unit,fun _=>.tuple #[],fun _=>True,fun _=>[],fun _=>EncL b bw e (bs++l.flatMap fun z=>venc z.toNat)⟩:=by
 refine ZV [_,_] func204 ntmps204 fun G w hp=>?_
 repeat' (first|refine ZH ?_|refine ZI ?_|refine ZK ?_|refine ZG ?_|refine ZM ?_|refine ZJ ?_|refine ZN ?_|refine ZP (fun b=>?_)|refine ZO (fun b=>?_)|refine ZA ?_|refine ZB ?_|refine ZL ?_|(refine ZC (fun hc=>?_) (fun hc=>?_)<;>(try simp at hc))|(refine ZF (fun hc=>?_) (fun hc=>?_)<;>(try simp at hc)))
 refine YT (X:={i:Nat // i≤l.length}) (fun i=>[(0,.pointer (some ⟨b,0,none⟩)),(6,.slice o l.length cap),(7,.int .i64 (l.length:Int)),(8,.int .i64 (i.1:Int))]) (fun _=>[Sl 3 zf o cap l]) (fun i=>EncL b bw e (bs++(l.take i.1).flatMap fun z=>venc z.toNat)) (fun i=>l.length - i.1) ⟨0,by omega⟩ ⟨rfl,rfl,rfl,rfl,trivial⟩ ?_ (hr:=by simp only [List.take_zero,List.flatMap_nil,List.append_nil];exact Sels.cons .here (.cons .here .nil))
 rintro ⟨i,hi⟩
 dsimp only at hi ⊢
 by_cases hlt:i<l.length
 ·have hgt:=List.getElem?_eq_getElem hlt
  obtain ⟨z,hzz⟩:∃z,l[i]=z:=⟨_,rfl⟩
  rw [hzz] at hgt
  have hm:z ∈ l:=by rw [←hzz];exact List.getElem_mem hlt
  obtain ⟨z0,z1⟩:=hz z hm
  have hlen:=Wy (l.take i) (fun y hy=>hz y (List.mem_of_mem_take hy))
  have h2:(l.take i).length=i:=by simp;omega
  have n1:=wtrNumber_ok bw (bs++(l.take i).flatMap fun z=>venc z.toNat) z.toNat (by omega) (by rw [List.length_append];omega)
  rw [show ((z.toNat:Nat):Int)=z by omega] at n1
  repeat' (first|refine ZH ?_|refine ZI ?_|refine ZK ?_|refine ZG ?_|refine ZM ?_|refine ZJ ?_|refine ZN ?_|refine ZP (fun b=>?_)|refine ZO (fun b=>?_)|refine ZA ?_|refine ZB ?_|refine ZL ?_|refine ZE (n1) (fun _ _=>?_)|refine l_call0 (n1) (fun _ _=>?_)|refine l_ixe i z hgt (fun b off=>?_)|refine XJ ?_|(refine ZC (fun hc=>?_) (fun hc=>?_)<;>(try simp at hc)<;>(try omega))|(refine ZF (fun hc=>?_) (fun hc=>?_)<;>(try simp at hc)<;>(try omega)))
  rw [wrapi (z:=(i:Int)+1) (by omega) (by omega)]
  have e1:bs++((l.take i).flatMap fun z=>venc z.toNat)++venc z.toNat=bs++(l.take (i+1)).flatMap fun z=>venc z.toNat:=by
   rw [List.take_succ_eq_append_getElem hlt,hzz];simp
  rw [e1]
  exact Zi ⟨i+1,by omega⟩ (by show l.length - (i+1)<l.length - i;omega) ⟨rfl,rfl,rfl,rfl,trivial⟩
 ·obtain rfl:i=l.length:=by omega
  rw [List.take_length]
  repeat' (first|refine ZH ?_|refine ZI ?_|refine ZK ?_|refine ZG ?_|refine ZM ?_|refine ZJ ?_|refine ZN ?_|refine ZP (fun b=>?_)|refine ZO (fun b=>?_)|refine ZA ?_|refine ZB ?_|refine ZL ?_|(refine ZC (fun hc=>?_) (fun hc=>?_)<;>(try simp at hc)<;>(try omega))|(refine ZF (fun hc=>?_) (fun hc=>?_)<;>(try simp at hc)<;>(try omega)))
  exact Y8 () rfl trivial
theorem venc_props:∀(k u:Nat),u≤k→∃init last,venc u=init++[last]∧(∀b ∈ init,128≤b.toNat)∧last.toNat<128∧(0<u→last.toNat≠0)∧(init≠[]→0<u)∧dval (venc u)=u:=by
 intro k
 induction k with
 | zero=>
  intro u hu
  obtain rfl:u=0:=by omega
  refine ⟨[],0,?_,by simp,by decide,by simp,by simp,?_⟩
  ·rw [venc];simp
  ·rw [venc];simp [dval]
 | succ k ih=>
  intro u hu
  by_cases h:u<128
  ·have hv:venc u=[UInt8.ofNat u]:=by rw [venc,if_pos h]
   have ht:(UInt8.ofNat u).toNat=u:=by simp;omega
   refine ⟨[],UInt8.ofNat u,by rw [hv];rfl,by simp,by omega,fun h0=>by omega,by simp,?_⟩
   rw [hv,dval,dval,ht];omega
  ·have hv:venc u=UInt8.ofNat (u % 128+128)::venc (u / 128):=by rw [venc,if_neg h]
   have ht:(UInt8.ofNat (u % 128+128)).toNat=u % 128+128:=by simp;omega
   obtain ⟨init,last,h1,h2,h3,h4,h5,h6⟩:=ih (u / 128) (by omega)
   refine ⟨UInt8.ofNat (u % 128+128)::init,last,by rw [hv,h1];rfl,fun b hb=>?_,h3,fun _=>h4 (by omega),fun _=>by omega,?_⟩
   ·rcases List.mem_cons.1 hb with rfl|hb
    ·omega
    ·exact h2 b hb
   ·rw [hv,dval,h6,ht];omega
theorem pnat_venc (u:Nat) (hu:u<9223372036854775808) (rest:List UInt8):pnat (venc u++rest) 9=(u,(venc u).length,0):=by
 obtain ⟨init,last,h1,h2,h3,h4,h5,h6⟩:=venc_props u u (Nat.le_refl _)
 have hl:(venc u).length≤9:=venc_len 8 u (by simpa using hu)
 have hlen:(venc u).length=init.length+1:=by rw [h1];simp
 have hlast:lastN (venc u++rest) 9=init.length:=by
  refine Wg (by simp;omega) (by omega) (fun i hi=>?_) (.inr (.inr ⟨last,?_,h3⟩))
  ·refine ⟨init[i],?_,h2 _ (List.getElem_mem hi)⟩
   rw [h1,List.append_assoc,List.getElem?_append_left hi]
   exact List.getElem?_eq_getElem hi
  ·rw [h1,List.append_assoc,List.getElem?_append_right (Nat.le_refl _)]
   simp
 have hget:(venc u++rest)[init.length]? = some last:=by
  rw [h1,List.append_assoc,List.getElem?_append_right (Nat.le_refl _)];simp
 have htk:(venc u++rest).take (init.length+1)=venc u:=by rw [←hlen];simp
 unfold pnat
 dsimp only
 rw [hlast,if_neg (by omega),hget]
 dsimp only
 rw [if_neg,if_neg (by omega),htk,h6,hlen,Nat.mod_eq_of_lt (by omega)]
 rintro ⟨g1,g2⟩
 exact h4 (h5 (fun e=>by rw [e] at g1;simp at g1)) g2
theorem Yl (u:Nat) (hu:u<9223372036854775808) (rest:List UInt8) (pos:Nat) (most:Int) (hm:(u:Int)≤most):rnum ⟨venc u++rest,pos,0⟩ most=((u:Int),⟨rest,pos+(venc u).length,0⟩):=by
 have hp:pnum (venc u++rest) most=((u:Int),(venc u).length,0):=by
  unfold pnum
  rw [pnat_venc u hu rest]
  dsimp only
  rw [if_neg (by omega)]
 unfold rnum rstep
 dsimp only
 rw [hp]
 simp
theorem rtext_venc (s:ByteArray) (rest:List UInt8) (pos:Nat) (most:Int) (hm:(s.size:Int)≤most) (h2:s.size≤16777216):rtext ⟨venc s.size++s.data.toList++rest,pos,0⟩ most=(s,⟨rest,pos+((venc s.size).length+s.size),0⟩):=by
 have hs:s.data.toList.length=s.size:=by simp
 have e1:(venc s.size++(s.data.toList++rest)).drop ((venc s.size).length+s.size)=rest:=by
  rw [←List.append_assoc,←hs,←List.length_append,List.drop_left]
 have e2:((venc s.size++(s.data.toList++rest)).take ((venc s.size).length+s.size)).drop (venc s.size).length=s.data.toList:=by
  rw [←List.append_assoc,←hs,←List.length_append,List.take_left,List.drop_left]
 have hp:ptext (venc s.size++(s.data.toList++rest)) most=(s,(venc s.size).length+s.size,0):=by
  unfold ptext
  rw [pnat_venc s.size (by omega) (s.data.toList++rest)]
  dsimp only
  rw [if_neg (by simp),if_neg (by omega),if_neg (by simp only [List.length_append];omega),e2]
 unfold rtext rstep
 dsimp only
 rw [List.append_assoc,hp,if_neg (by simp),if_neg (by simp)]
 dsimp only
 rw [e1]
theorem UO (b bw s:Nat) (e:Int) (bs:List UInt8) (l:List Int) (hl:l.length≤1000) (hz:∀z ∈ l,0≤z∧z≤4294967296) (hb:bs.length≤1000000) :
  Enters 204∧Spec prog 204 #[.pointer (some ⟨b,0,none⟩),.slice (some ⟨s,0,none⟩) l.length l.length] [] (Pt s (.cells (l.flatMap zf).toArray 3)::EncL b bw e bs)
   ⟨Unit,fun _=>.tuple #[],fun _=>True,fun _=>[],fun _=>EncL b bw e (bs++l.flatMap fun z=>venc z.toNat)⟩:=by
 have h:=numbers_ok b bw e bs (some ⟨s,0,none⟩) l.length l hl hz hb
 refine ⟨h.1,fun G w hp hs=>?_⟩
 have h1:=(hs.shut (L:=[Pt s (.cells (l.flatMap zf).toArray 3)]) (x:=Row 3 1 (some ⟨s,0,none⟩) l.length l.length (l.flatMap zf)) fun h hh=>by
  obtain ⟨h1,h2,_,s1,_,hx,_⟩:=hh
  exact .inr ⟨s,[],(0,0),rfl,by have:=s1 _ _ hx;simpa using this,by rw [Z1 (f:=zf) (sz:=1) (fun _=>rfl)],by rw [List.append_nil,Z1 (f:=zf) (sz:=1) (fun _=>rfl)],Nat.le_refl _,.inl rfl⟩)
 have h2:=V3 (f:=zf) (es:=l) rfl rfl Sel.here h1
 refine Yj h.2 h2 (V7 _) (fun hp hF f hf=>by simp at hf;subst hf;exact hF _ (by simp)) fun x w' hx h3=>⟨x,rfl,hx,?_⟩
 exact (h3.facts (F':=[]) (fun _ _ _ h=>by cases h)).res fun k hk=>by simpa using hk
theorem UU (b bw:Nat) (bs:List UInt8) (hl:bs.length≤1000000) :
  Enters 205∧Spec prog 205 #[.pointer (some ⟨b,0,none⟩)] [] (EncL b bw 0 bs) (RetV (.tuple #[.string ⟨bs.toArray⟩,.int .i64 0])):=by
 refine ZV [_] func205 ntmps205 fun G w hp=>?_
 repeat' (first|refine ZH ?_|refine ZI ?_|refine ZK ?_|refine ZG ?_|refine ZM ?_|refine ZJ ?_|refine ZN ?_|refine ZP (fun b=>?_)|refine ZO (fun b=>?_)|refine ZA ?_|refine ZB ?_|refine ZL ?_|refine ZX ?_|refine ZY ?_|refine Zf ?_|refine Za ?_|refine Zb ?_|refine Zc (fun b=>?_)|refine Zd (fun b=>?_)|refine Ze ?_|refine ZZ ?_|refine ZE (Ws _ bs (by omega)) (fun _ _=>?_)|refine l_call0 (Ws _ bs (by omega)) (fun _ _=>?_)|refine ZS (Ws _ bs (by omega)) (fun _ _=>?_)|(refine ZC (fun hc=>?_) (fun hc=>?_)<;>(try simp at hc))|(refine ZQ (fun hc=>?_) (fun hc=>?_)<;>(try simp at hc))|refine ZD 5 [] [(0,0),(1,0),(2,0),(3,0),(4,0),(5,0)] [] ?_|(refine ZF (fun hc=>?_) (fun hc=>?_)<;>(try simp at hc)))
 refine l_frz (sz:=1) (f:=bf) bs ?_ (Xd _) rfl
 refine l_b2s ?_
 repeat' (first|refine ZH ?_|refine ZI ?_|refine ZK ?_|refine ZG ?_|refine ZM ?_|refine ZJ ?_|refine ZN ?_|refine ZP (fun b=>?_)|refine ZO (fun b=>?_)|refine ZA ?_|refine ZB ?_|refine ZL ?_|refine ZX ?_|refine ZY ?_|refine Zf ?_|refine Za ?_|refine Zb ?_|refine Zc (fun b=>?_)|refine Zd (fun b=>?_)|refine Ze ?_|refine ZZ ?_|refine ZC (fun hc=>?_) (fun hc=>?_)|refine ZQ (fun hc=>?_) (fun hc=>?_)|refine ZD 5 [] [(0,0),(1,0),(2,0),(3,0),(4,0),(5,0)] [] ?_|refine ZF (fun hc=>?_) (fun hc=>?_))
 exact ZT () rfl trivial
theorem cenc_len {c:Ct} (h:CtOK c):(cenc c).length≤30:=by
 have l1:=Yy c.b.toNat (by have:=h.b1;omega)
 have l2:=Yy c.o.toNat (by have:=h.o1;omega)
 have l3:=Yy c.c.toNat (by have:=h.c1;omega)
 simp only [cenc,List.length_append];omega
theorem Ua (c:Ct) (h:CtOK c):Enters 202∧Spec prog 202 #[c.v] [] [] (RetV (.tuple #[.string ⟨(cenc c).toArray⟩,.int .i64 0])):=by
 have n1:=cntCheck_ok c
 rw [cchk_ok h] at n1
 have e:([c.b,c.o,c.c].flatMap fun z=>venc z.toNat)=cenc c:=by simp [cenc]
 have n2:=fun b bw s=>UO b bw s 0 [] [c.b,c.o,c.c] (by simp) (fun z hz=>by
  simp only [List.mem_cons,List.not_mem_nil,or_false] at hz
  have:=h.b0;have:=h.b1;have:=h.o0;have:=h.o1;have:=h.c0;have:=h.c1
  rcases hz with rfl|rfl|rfl<;>omega) (by simp)
 rw [e,List.nil_append] at n2
 have hl:=cenc_len h
 have n3:=fun b bw=>UU b bw (cenc c) (by omega)
 refine ZV [_] func202 ntmps202 fun G w hp=>?_
 repeat' (first|refine ZH ?_|refine ZI ?_|refine ZK ?_|refine ZG ?_|refine ZM ?_|refine ZJ ?_|refine ZN ?_|refine ZP (fun b=>?_)|refine ZO (fun b=>?_)|refine ZA ?_|refine ZB ?_|refine ZL ?_|refine ZE (n1) (fun _ _=>?_)|refine l_call0 (n1) (fun _ _=>?_)|refine ZE (Yv _) (fun _ _=>?_)|refine l_call0 (Yv _) (fun _ _=>?_)|refine ZE (n2 _ _ _) (fun _ _=>?_)|refine l_call0 (n2 _ _ _) (fun _ _=>?_)|refine ZE (n3 _ _) (fun _ _=>?_)|refine l_call0 (n3 _ _) (fun _ _=>?_)|(refine ZC (fun hc=>?_) (fun hc=>?_)<;>(try simp at hc))|(refine ZF (fun hc=>?_) (fun hc=>?_)<;>(try simp at hc)))
 exact ZT () rfl trivial
def cread (s:RS):Ct×RS:=
 let (b,s1):=rnum s 1048576
 let (o,s2):=rnum s1 1048576
 let (c,s3):=rnum s2 1048576
 (⟨b,o,c⟩,s3)
def cdec (s:ByteArray):Option Ct:=
 let r:=cread ⟨s.data.toList,0,0⟩
 if r.2.err=0∧r.2.rest=[] then some r.1 else none
set_option maxHeartbeats 1000000 in
theorem UZ (s:ByteArray) (hs:s.size≤1099511627776):Enters 201∧Spec prog 201 #[.string s] [] [] (RetV (.tuple #[((cdec s).getD Ct.z).v,.int .i64 (if (cdec s).isSome then 0 else 3)])):=by
 have hsz:s.data.toList.length=s.size:=by simp
 generalize hd:cdec s=d
 unfold cdec cread at hd
 generalize h0:(⟨s.data.toList,0,0⟩:RS)=s0 at hd
 have g0:s0.pos+s0.rest.length≤1099511627776:=by subst h0;dsimp only;omega
 have g1:=rstep_le 0 s0 (pnum s0.rest 1048576) (VU _ _)
 have n1:=fun b o cap=>YE b o cap s0 1048576 g0
 generalize hr1:rnum s0 1048576=r1 at *
 obtain ⟨v1,s1⟩:=r1
 have g1:s1.pos+s1.rest.length≤1099511627776:=by
  have:(rnum s0 1048576).2.pos+(rnum s0 1048576).2.rest.length≤s0.pos+s0.rest.length:=g1
  rw [hr1] at this;dsimp only at this;omega
 have g2:=rstep_le 0 s1 (pnum s1.rest 1048576) (VU _ _)
 have n2:=fun b o cap=>YE b o cap s1 1048576 g1
 dsimp only at *
 generalize hr2:rnum s1 1048576=r2 at *
 obtain ⟨v2,s2⟩:=r2
 have g2:s2.pos+s2.rest.length≤1099511627776:=by
  have:(rnum s1 1048576).2.pos+(rnum s1 1048576).2.rest.length≤s1.pos+s1.rest.length:=g2
  rw [hr2] at this;dsimp only at this;omega
 have n3:=fun b o cap=>YE b o cap s2 1048576 g2
 dsimp only at *
 generalize hr3:rnum s2 1048576=r3 at *
 obtain ⟨v3,s3⟩:=r3
 dsimp only at *
 have n4:=fun b o cap=>UM b o cap s3
 have n0:=fun o cap=>Vd o cap s.data.toList (by omega)
 rw [h0] at n0
 have e0:s.data.toList=s0.rest:=by rw [←h0]
 rw [e0] at n0
 refine ZV [_] func201 ntmps201 fun G w hp=>?_
 repeat' (first|refine ZH ?_|refine ZI ?_|refine ZK ?_|refine ZG ?_|refine ZM ?_|refine ZJ ?_|refine ZN ?_|refine ZP (fun b=>?_)|refine ZO (fun b=>?_)|refine ZA ?_|refine ZB ?_|refine ZL ?_|refine ZE (n0 _ _) (fun _ _=>?_)|refine l_call0 (n0 _ _) (fun _ _=>?_)|refine ZE (n1 _ _ _) (fun _ _=>?_)|refine l_call0 (n1 _ _ _) (fun _ _=>?_)|refine ZE (n2 _ _ _) (fun _ _=>?_)|refine l_call0 (n2 _ _ _) (fun _ _=>?_)|refine ZE (n3 _ _ _) (fun _ _=>?_)|refine l_call0 (n3 _ _ _) (fun _ _=>?_)|refine ZE (n4 _ _ _) (fun _ _=>?_)|refine l_call0 (n4 _ _ _) (fun _ _=>?_)|refine l_s2b (fun o cap=>?_)|rw [e0]|refine ZC (fun hc=>?_) (fun hc=>?_)|refine ZF (fun hc=>?_) (fun hc=>?_))
 ·have hne:¬(s3.err=0∧s3.rest=[]):=fun h=>by rw [(close0 _ _).2 h] at hc;simp at hc
  rw [if_neg hne] at hd;subst hd;exact ZT () rfl trivial
 ·have h1:=(close0 _ _).1 (by simpa using hc)
  rw [if_pos h1] at hd;subst hd;exact ZT () rfl trivial
def cnm (who:ByteArray):Nm:=⟨5,who,0,0,⟨#[]⟩⟩
theorem VS (who:ByteArray):Enters 69∧Spec prog 69 #[.string who] [] [] (RetV (cnm who).v):=by
 refine ZV [_] func69 ntmps69 fun G w hp=>?_
 repeat' (first|refine ZH ?_|refine ZI ?_|refine ZK ?_|refine ZG ?_|refine ZM ?_|refine ZJ ?_|refine ZN ?_|refine ZP (fun b=>?_)|refine ZO (fun b=>?_)|refine ZA ?_|refine ZB ?_|refine ZL ?_|refine ZC (fun hc=>?_) (fun hc=>?_)|refine ZF (fun hc=>?_) (fun hc=>?_))
 exact ZT () rfl trivial
def madeE (es:Al) (cs:List Ch) (who:ByteArray):Ct×Int:=
 if lvalid who.data.toList then (if (vget es cs (cnm who)).2 then ((cdec (vget es cs (cnm who)).1).getD Ct.z,if (cdec (vget es cs (cnm who)).1).isSome then 0 else 3) else (Ct.z,0)) else (Ct.z,12)
def madeR (es:Al) (rs:List (Nm×Ch)) (cs:List Ch) (who:ByteArray):List (Nm×Ch):=if lvalid who.data.toList then vread es rs cs (cnm who) else rs
set_option maxHeartbeats 1000000 in
theorem made_ok (b:Nat) (ps:Option Addr) (es:Al) (rs:List (Nm×Ch)) (cs:List Ch) (who:ByteArray) (hw:who.size≤1099511627770) (hv:(vget es cs (cnm who)).1.size≤1099511627776) :
  Enters 154∧Spec prog 154 #[.pointer (some ⟨b,0,none⟩),.string who] [St ps es,Usg] [Vw b ps rs cs] ⟨Unit,fun _=>.tuple #[(madeE es cs who).1.v,.int .i64 (madeE es cs who).2],fun _=>True,fun _=>[],fun _=>[Vw b ps (madeR es rs cs who) cs]⟩:=by
 have n1:=YR who (by omega)
 have n2:=VS who
 have n3:=vwGet_ok b ps es rs cs (cnm who) hw (Nat.zero_le _)
 have n4:=UZ (vget es cs (cnm who)).1 hv
 generalize hm:madeE es cs who=m
 generalize hr:madeR es rs cs who=r
 unfold madeE at hm
 unfold madeR at hr
 cases h1:lvalid who.data.toList with
 | false=>
  rw [h1] at n1 hm hr
  simp only [Bool.false_eq_true,if_false] at hm hr
  subst hm;subst hr
  refine ZV [_,_] func154 ntmps154 fun G w hp=>?_
  repeat' (first|refine ZH ?_|refine ZI ?_|refine ZK ?_|refine ZG ?_|refine ZM ?_|refine ZJ ?_|refine ZN ?_|refine ZP (fun b=>?_)|refine ZO (fun b=>?_)|refine ZA ?_|refine ZB ?_|refine ZL ?_|refine ZE (n1) (fun _ _=>?_)|refine l_call0 (n1) (fun _ _=>?_)|(refine ZC (fun hc=>?_) (fun hc=>?_)<;>(try simp at hc))|(refine ZF (fun hc=>?_) (fun hc=>?_)<;>(try simp at hc)))
  exact ZT () rfl trivial
 | true=>
  rw [h1] at n1 hm hr
  simp only [if_true] at hm hr
  subst hr
  cases h2:(vget es cs (cnm who)).2 with
  | false=>
   rw [h2] at n3 hm
   simp only [Bool.false_eq_true,if_false] at hm
   subst hm
   refine ZV [_,_] func154 ntmps154 fun G w hp=>?_
   repeat' (first|refine ZH ?_|refine ZI ?_|refine ZK ?_|refine ZG ?_|refine ZM ?_|refine ZJ ?_|refine ZN ?_|refine ZP (fun b=>?_)|refine ZO (fun b=>?_)|refine ZA ?_|refine ZB ?_|refine ZL ?_|refine ZE (n1) (fun _ _=>?_)|refine l_call0 (n1) (fun _ _=>?_)|refine ZE (n2) (fun _ _=>?_)|refine l_call0 (n2) (fun _ _=>?_)|refine ZE (n3) (fun _ _=>?_)|refine l_call0 (n3) (fun _ _=>?_)|(refine ZC (fun hc=>?_) (fun hc=>?_)<;>(try simp at hc))|(refine ZF (fun hc=>?_) (fun hc=>?_)<;>(try simp at hc)))
   exact ZT () rfl trivial
  | true=>
   rw [h2] at n3 hm
   simp only [if_true] at hm
   subst hm
   refine ZV [_,_] func154 ntmps154 fun G w hp=>?_
   repeat' (first|refine ZH ?_|refine ZI ?_|refine ZK ?_|refine ZG ?_|refine ZM ?_|refine ZJ ?_|refine ZN ?_|refine ZP (fun b=>?_)|refine ZO (fun b=>?_)|refine ZA ?_|refine ZB ?_|refine ZL ?_|refine ZE (n1) (fun _ _=>?_)|refine l_call0 (n1) (fun _ _=>?_)|refine ZE (n2) (fun _ _=>?_)|refine l_call0 (n2) (fun _ _=>?_)|refine ZE (n3) (fun _ _=>?_)|refine l_call0 (n3) (fun _ _=>?_)|refine ZE (n4) (fun _ _=>?_)|refine l_call0 (n4) (fun _ _=>?_)|(refine ZC (fun hc=>?_) (fun hc=>?_)<;>(try simp at hc))|(refine ZF (fun hc=>?_) (fun hc=>?_)<;>(try simp at hc)))
   exact ZT () rfl trivial
theorem setMade_ok (b:Nat) (ps:Option Addr) (rs:List (Nm×Ch)) (cs:List Ch) (who:ByteArray) (c:Ct) (hw:who.size≤1099511627770) (hv:lvalid who.data.toList=true) (hc0:CtOK c) (hl:cs.length≤1000000) :
  Enters 155∧Spec prog 155 #[.pointer (some ⟨b,0,none⟩),.string who,c.v] [Usg] [Vw b ps rs cs] ⟨Unit,fun _=>.int .i64 (vset cs (cnm who) ⟨(cenc c).toArray⟩).1,fun _=>True,fun _=>[],fun _=>[Vw b ps rs (vset cs (cnm who) ⟨(cenc c).toArray⟩).2]⟩:=by
 have n1:=YR who (by omega)
 rw [hv] at n1
 have n2:=VS who
 have n3:=Ua c hc0
 have n4:=WY b ps rs cs (cnm who) ⟨(cenc c).toArray⟩ (by show who.size≤_;omega) (Nat.zero_le _) hl
 refine ZV [_,_,_] func155 ntmps155 fun G w hp=>?_
 repeat' (first|refine ZH ?_|refine ZI ?_|refine ZK ?_|refine ZG ?_|refine ZM ?_|refine ZJ ?_|refine ZN ?_|refine ZP (fun b=>?_)|refine ZO (fun b=>?_)|refine ZA ?_|refine ZB ?_|refine ZL ?_|refine ZE (n1) (fun _ _=>?_)|refine l_call0 (n1) (fun _ _=>?_)|refine ZE (n2) (fun _ _=>?_)|refine l_call0 (n2) (fun _ _=>?_)|refine ZE (n3) (fun _ _=>?_)|refine l_call0 (n3) (fun _ _=>?_)|refine ZE (n4) (fun _ _=>?_)|refine l_call0 (n4) (fun _ _=>?_)|(refine ZC (fun hc=>?_) (fun hc=>?_)<;>(try simp at hc))|(refine ZF (fun hc=>?_) (fun hc=>?_)<;>(try simp at hc)))
 exact ZT () rfl trivial
theorem mem_tw {α:Type} {p:α→Bool}:∀{l:List α} {x:α},x ∈ l.takeWhile p→p x=true
 | [],_,h=>by cases h
 | a::l,x,h=>by
  rw [List.takeWhile_cons] at h
  split at h
  ·rename_i ha
   rcases List.mem_cons.1 h with rfl|h
   ·exact ha
   ·exact mem_tw h
  ·cases h
theorem dval_pos:∀(init:List UInt8) (b:UInt8),b.toNat<128→0<b.toNat→0<dval (init++[b])
 | [],b,h,h0=>by simp [dval];omega
 | c::init,b,h,h0=>by
  have:=dval_pos init b h h0
  simp only [List.cons_append,dval];omega
theorem venc_dval:∀(init:List UInt8) (b:UInt8),(∀c ∈ init,128≤c.toNat)→b.toNat<128→(init≠[]→b.toNat≠0)→venc (dval (init++[b]))=init++[b]
 | [],b,_,h,_=>by
  have h1:dval ([]++[b])=b.toNat:=by simp [dval];omega
  rw [h1,venc,if_pos h];simp
 | c::init,b,hc,h,h0=>by
  have hb:0<b.toNat:=Nat.pos_of_ne_zero (h0 (by simp))
  have hp:=dval_pos init b h hb
  have ih:=venc_dval init b (fun x hx=>hc x (by simp [hx])) h (fun _=>by omega)
  have hc1:128≤c.toNat:=hc c (by simp)
  have hc2:c.toNat<256:=c.toNat_lt
  simp only [List.cons_append,dval]
  rw [venc,if_neg (by omega)]
  have e1:(c.toNat % 128+128 * dval (init++[b])) / 128=dval (init++[b]):=by omega
  have e2:(c.toNat % 128+128 * dval (init++[b])) % 128+128=c.toNat:=by omega
  rw [e1,e2,ih];simp
theorem pnat_inv (bs:List UInt8) (h:(pnat bs 9).2.2=0):bs.take (pnat bs 9).2.1=venc (pnat bs 9).1:=by
 have hle:=lastN_le bs 9
 unfold pnat at h ⊢
 dsimp only at h ⊢
 have hall:∀c ∈ bs.take (lastN bs 9),128≤c.toNat:=by
  intro c hc
  have h1:bs.take (lastN bs 9)=(bs.take 9).takeWhile fun b=>decide (128≤b.toNat):=by
   have h2:(bs.take 9).takeWhile (fun b=>decide (128≤b.toNat)) <+: bs:=(List.takeWhile_prefix _).trans (List.take_prefix _ _)
   exact (List.prefix_iff_eq_take.1 h2).symm
  rw [h1] at hc
  simpa using mem_tw hc
 by_cases h9:lastN bs 9=9
 ·simp [h9] at h
 ·rw [if_neg h9] at h ⊢
  cases hb:bs[lastN bs 9]? with
  | none=>simp [hb] at h
  | some b=>
   simp only [hb] at h ⊢
   by_cases hc:0<lastN bs 9∧b.toNat=0
   ·rw [if_pos hc] at h;cases h
   ·rw [if_neg hc] at h ⊢
    have h8:¬(lastN bs 9=9∧1<b.toNat):=fun h=>h9 h.1
    rw [if_neg h8]
    have hlt:lastN bs 9<bs.length:=(List.getElem?_eq_some_iff.1 hb).1
    have ht:bs.take (lastN bs 9+1)=bs.take (lastN bs 9)++[b]:=by rw [List.take_add_one,hb];rfl
    have hbl:b.toNat<128:=by
     have h1:lastN bs 9<(bs.take 9).length:=by simp;omega
     have h3:(bs.take 9)[lastN bs 9]? = some b:=by rw [List.getElem?_take];rw [if_pos (by omega)];exact hb
     have h4:((bs.take 9).takeWhile fun b=>decide (128≤b.toNat)).length=lastN bs 9:=rfl
     by_cases hx:128≤b.toNat
     ·exfalso
      have h5:(bs.take 9).take (lastN bs 9+1)=(bs.take 9).take (lastN bs 9)++[b]:=by rw [List.take_add_one,h3];rfl
      have h6:((bs.take 9).takeWhile fun b=>decide (128≤b.toNat))=(bs.take 9).take (lastN bs 9):=List.prefix_iff_eq_take.1 (List.takeWhile_prefix _)
      have h7:bs.take 9=((bs.take 9).take (lastN bs 9)++[b])++(bs.take 9).drop (lastN bs 9+1):=by rw [←h5,List.take_append_drop]
      have h8:∀c ∈ (bs.take 9).take (lastN bs 9)++[b],decide (128≤c.toNat)=true:=by
       intro c hc
       rcases List.mem_append.1 hc with hc|hc
       ·rw [←h6] at hc;exact mem_tw (p:=fun b:UInt8=>decide (128≤b.toNat)) hc
       ·simp only [List.mem_singleton] at hc;subst hc;simpa using hx
      have h9:((bs.take 9).take (lastN bs 9)++[b]).length≤((bs.take 9).takeWhile fun b=>decide (128≤b.toNat)).length:=by
       conv=>rhs;rw [h7]
       rw [List.takeWhile_append_of_pos h8]
       simp only [List.length_append];omega
      rw [h4] at h9
      simp at h9;omega
     ·omega
    show bs.take (lastN bs 9+1)=venc (dval (bs.take (lastN bs 9+1)) % 18446744073709551616)
    have hd:=dval_lt (bs.take (lastN bs 9+1))
    have hl:(bs.take (lastN bs 9+1)).length≤9:=by simp;omega
    have h128:128 ^ (bs.take (lastN bs 9+1)).length≤128 ^ 9:=Nat.pow_le_pow_right (by decide) hl
    rw [Nat.mod_eq_of_lt (Nat.lt_of_lt_of_le (Nat.lt_of_lt_of_le hd h128) (by decide)),ht]
    exact (venc_dval _ b hall hbl (fun hne hb0=>hc ⟨by
     rcases Nat.eq_zero_or_pos (lastN bs 9) with h0|h0
     ·rw [h0] at hne;exact absurd rfl hne
     ·exact h0,hb0⟩)).symm
theorem rstep_err {α:Type} (z:α) (s:RS) (p:α×Nat×Int) (h:(rstep z s p).2.err=0):s.err=0∧p.2.2=0∧rstep z s p=(p.1,⟨s.rest.drop p.2.1,s.pos+p.2.1,0⟩):=by
 unfold rstep at h ⊢
 by_cases h1:s.err=0
 ·rw [if_neg (by simp [h1])] at h ⊢
  by_cases h2:p.2.2=0
  ·rw [if_neg (by simp [h2])];exact ⟨h1,h2,rfl⟩
  ·rw [if_pos h2] at h;exact absurd h h2
 ·rw [if_pos h1] at h;exact absurd h h1
theorem X1 {s:RS} {most:Int} (h:(rnum s most).2.err=0):s.err=0∧0≤(rnum s most).1∧(rnum s most).1≤most∧(rnum s most).1<9223372036854775808∧s.rest=venc (rnum s most).1.toNat++(rnum s most).2.rest:=by
 obtain ⟨h1,h2,h3⟩:=rstep_err _ _ _ h
 have h4:rnum s most=_:=h3
 have hlt:=(Vq s.rest).1
 unfold pnum at h2
 dsimp only at h2
 have h5:(pnat s.rest 9).2.2=0∧¬most<((pnat s.rest 9).1:Int):=by
  split at h2
  ·cases h2
  ·rename_i hn
   exact ⟨h2,fun hm=>hn ⟨h2,hm⟩⟩
 rw [h4]
 refine ⟨h1,by simp [pnum],by simp only [pnum];omega,by simp only [pnum];omega,?_⟩
 have h6:=pnat_inv s.rest h5.1
 show s.rest=venc (((pnat s.rest 9).1:Int)).toNat++s.rest.drop (pnat s.rest 9).2.1
 rw [Int.toNat_natCast,←h6,List.take_append_drop]
theorem rtext_inv {s:RS} {most:Int} (h:(rtext s most).2.err=0):s.err=0∧((rtext s most).1.size:Int)≤most∧(rtext s most).1.size≤16777216∧s.rest=venc (rtext s most).1.size++(rtext s most).1.data.toList++(rtext s most).2.rest:=by
 obtain ⟨h1,h2,h3⟩:=rstep_err _ _ _ h
 have h4:rtext s most=_:=h3
 rw [h4]
 unfold ptext at h2 ⊢
 by_cases ha:(pnat s.rest 9).2.2=0
 ·rw [if_neg (by simp [ha])] at h2 ⊢
  by_cases hb:most<((pnat s.rest 9).1:Int)∨16777216<(pnat s.rest 9).1
  ·rw [if_pos hb] at h2;cases h2
  ·rw [if_neg hb] at h2 ⊢
   by_cases hc:s.rest.length<(pnat s.rest 9).2.1+(pnat s.rest 9).1
   ·rw [if_pos hc] at h2;cases h2
   ·rw [if_neg hc]
    have hsz:(ByteArray.mk ((s.rest.take ((pnat s.rest 9).2.1+(pnat s.rest 9).1)).drop (pnat s.rest 9).2.1).toArray).size=(pnat s.rest 9).1:=by
     show (List.toArray _).size=_
     simp;omega
    refine ⟨h1,by dsimp only;rw [hsz];omega,by dsimp only;rw [hsz];omega,?_⟩
    dsimp only
    rw [hsz]
    have h6:=pnat_inv s.rest ha
    generalize (pnat s.rest 9).2.1=a at *
    generalize (pnat s.rest 9).1=m at *
    rw [←h6]
    show s.rest=s.rest.take a++(List.toArray ((s.rest.take (a+m)).drop a)).toList++s.rest.drop (a+m)
    have e1:(s.rest.take (a+m)).take a=s.rest.take a:=by rw [List.take_take];congr 1;omega
    have e2:s.rest.take a++(s.rest.take (a+m)).drop a=s.rest.take (a+m):=by rw [←e1,List.take_append_drop]
    rw [List.toList_toArray,e2,List.take_append_drop]
 ·rw [if_pos ha] at h2;exact absurd h2 ha
end Go.Proofs.YtdkndahndgkmnaaGreatDoor
