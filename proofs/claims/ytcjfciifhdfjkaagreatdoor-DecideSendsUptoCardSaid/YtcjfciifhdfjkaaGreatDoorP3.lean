/-
  Lists that are changed in a window by exchanges: what sorting algorithms do, without a program.
  Stable order: what a stable sort gives is one list only. No program in sight.
  Rules for a range over an owned map.
  Entries as values, and their identities.
  Books of decisions: what may leave, and what holds when it has left.
  Books of decisions: a decision is found, and no matter is decided twice.
  What is written is read again; no program in sight.
  What a reader accepts is what a writer would have written.
  Books of decisions: their encoding, and what is read of bytes.
  Books of decisions: the scenes of layer 52, and the outputs that they have.
  Books of decisions: the world of layer 52, operation by operation.
  Books of decisions: every book of the world can be written, and its encoding says all of it.
  Slices that stay: the beginning of one, and one appended to another.
  What a view holds: changes, the last of each name.
  The contracts of package view: New, Get, Set, Delete.
  The contracts of pdqsort at replevin/state.Change, for windows of less than 50 elements.
  A cut behind the first statements of a function: the rest is walked once.
  Numbers that pdqsort reckons with: the length in bits, the next power of two, xorshift.
  Pivots: median of three, choosePivot. (replevin/state.Change)
  Reversal, sifting down. (replevin/state.Change)
  Sorting by a heap. (replevin/state.Change)
  What a partition keeps while it goes on, without a program.
  Partitions. (replevin/state.Change)
  Insertion that gives up. (replevin/state.Change)
  pdqsort, whole. (replevin/state.Change)
  The contract of slices.SortFunc at replevin/state.Change, for at most 200 elements.
  The contracts of package view: Writes.
  The range over a function whose order is open.
  The contracts of package view: Reads.
  A call may read a block that is set aside while the order is drawn.
  The contract of view's Writes, for a view that is only read.
  The contracts of package view: After, for views whose writes fit.
  The counts of a process: EncodeCounts (for counts that fit), DecodeCounts.
  The counts of a process: EncodeCounts, DecodeCounts, Made, SetMade.
  Contracts of the package inode: nodes; Check, Encode, Decode.
  A writer that may have failed; Encode of what does not fit.
  Texts cut as far as they go.
  Arrays of bytes that are owned: parts of them as slices, copy of a text into one, one as a text.
  Contracts of strings.Builder: copyCheck, Write, String.
  Contracts of strings.Builder: WriteString, WriteByte.
  The range over a function, whose rounds leave facts.
  Rules for interface values: calls of their methods, assertions of their types, comparison with nil.
  Rules for parts of texts.
  Templates of the language of rules: the model's reading agrees with the program's; no program in sight.
  Contracts of package rule: the scanner.
  Contracts of package rule: unquote, quote.
  The library's contracts, laid at this program: strings.IndexByte.
  Contracts of package rule: scan.
  Contracts of package rule: the parser's small steps.
  A rule for the literals of maps.
  Package rule: conditions in memory; how tests are read: kinds.
  Rules for texts that are joined.
  Package rule: how tests are read: channels, lineages.
  Package rule: quote.
  The library's contracts, laid at this program: strings.Contains of one byte, strconv.Atoi.
  Package rule: numbers.
  The model's parser of the language of rules, and that it agrees with the program's; no program in sight.
  The program's and the model's parser of the language of rules agree; no program in sight.
  A rule for maps that stay, in a drawn region.
  Package rule: how tests of texts are read.
  The library's contracts, laid at this program: strconv.Itoa.
  Package rule: how tests of numbers are read.
  The parser of rules: what is left is an end of what was there; how many nodes a condition has. No program in sight.
  Conditions: those that each theorem states.
-/
import Derived.Test.YtcjfciifhdfjkaaGreatDoorP2
import Derived.Test.YtcjfciifhdfjkaaGreatDoorP1
import Derived.Lib.Builder
import Derived.Lib.UnsafeStr
import Derived.Laws.Externs
import Derived.Shelf.Small.Strs
import Derived.Shelf.Strings.Search3
import Derived.Shelf.Strconv.AtoiAll
import Derived.Shelf.LaysM
import Derived.Shelf.Strconv.Itoa3
set_option maxRecDepth 10000
namespace Go.Proofs.YtcjfciifhdfjkaaGreatDoor
open Go.RowKit Go.Proofs.Tryz
variable {b:Nat}
variable {n:Nat}
section
variable {α:Type} [Inhabited α]
def gt (l:List α) (i:Nat):α:=l.getD i default
theorem ZV {l:List α} {i:Nat} (h:i<l.length):l[i]? = some (gt l i):=by
 unfold gt;rw [List.getD_eq_getElem?_getD,List.getElem?_eq_getElem h];rfl
theorem gt_of {l:List α} {i:Nat} {x:α} (h:l[i]? = some x):gt l i=x:=by
 unfold gt;rw [List.getD_eq_getElem?_getD,h];rfl
theorem X7 {l:List α} {i:Nat} (h:i<l.length):gt l i ∈ l:=List.mem_of_getElem? (ZV h)
theorem gt_set {l:List α} {i k:Nat} {x:α} (h:i<l.length):gt (l.set i x) k=if k=i then x else gt l k:=by
 unfold gt
 rw [List.getD_eq_getElem?_getD,List.getD_eq_getElem?_getD,List.getElem?_set]
 by_cases hk:k=i
 ·subst hk;simp [h]
 ·rw [if_neg (fun h=>hk h.symm),if_neg hk]
def sw (l:List α) (i j:Nat):List α:=(l.set i (gt l j)).set j (gt l i)
theorem sw_len (l:List α) (i j:Nat):(sw l i j).length=l.length:=by simp [sw]
theorem WD {l:List α} {i j k:Nat} (hi:i<l.length) (hj:j<l.length):gt (sw l i j) k=if k=j then gt l i else if k=i then gt l j else gt l k:=by
 unfold sw
 rw [gt_set (by simpa using hj),gt_set hi]
theorem sw_perm {l:List α} {i j:Nat} (hi:i<l.length) (hj:j<l.length):(sw l i j).Perm l:=by
 have h1:gt l j=l[j]:=gt_of (List.getElem?_eq_getElem hj)
 have h2:gt l i=l[i]:=gt_of (List.getElem?_eq_getElem hi)
 unfold sw
 rw [h1,h2]
 exact List.set_set_perm hi hj
structure Win (a b:Nat) (l l':List α):Prop where
 perm:l'.Perm l
 out:∀k,k<a∨b≤k→gt l' k=gt l k
variable {a a' b':Nat} {l l' l'':List α}
theorem Win.len (h:Win a b l l'):l'.length=l.length:=h.perm.length_eq
theorem Win.refl:Win a b l l:=⟨List.Perm.refl _,fun _ _=>rfl⟩
theorem Win.trans (h:Win a b l l') (k:Win a b l' l''):Win a b l l'':=⟨k.perm.trans h.perm,fun i hi=>(k.out i hi).trans (h.out i hi)⟩
theorem Win.mono (h:Win a' b' l l') (h1:a≤a') (h2:b'≤b):Win a b l l':=⟨h.perm,fun k hk=>h.out k (by omega)⟩
theorem Win.sw {i j:Nat} (h1:a≤i) (h2:i<b) (h3:a≤j) (h4:j<b) (hb:b≤l.length):Win a b l (sw l i j):=⟨sw_perm (by omega) (by omega),fun k hk=>by
 rw [WD (by omega) (by omega),if_neg (by omega),if_neg (by omega)]⟩
theorem Win.sub (h:Win a b l l') {U:α→Prop} (hU:∀x ∈ l,U x):∀x ∈ l',U x:=fun x hx=>hU x (h.perm.mem_iff.1 hx)
def wn (l:List α) (a b:Nat):List α:=(l.drop a).take (b - a)
theorem mem_wn {x:α} (hb:b≤l.length):x ∈ wn l a b↔∃k,a≤k∧k<b∧gt l k=x:=by
 unfold wn
 rw [List.mem_iff_getElem?]
 constructor
 ·rintro ⟨i,hi⟩
  rw [List.getElem?_take] at hi
  split at hi
  ·rw [List.getElem?_drop] at hi
   exact ⟨a+i,by omega,by omega,gt_of hi⟩
  ·cases hi
 ·rintro ⟨k,h1,h2,rfl⟩
  refine ⟨k - a,?_⟩
  rw [List.getElem?_take,if_pos (by omega),List.getElem?_drop,show a+(k - a)=k by omega,ZV (by omega)]
omit [Inhabited α] in
theorem XF (hab:a≤b):l=l.take a++(wn l a b++l.drop b):=by
 unfold wn
 rw [show l.drop b=(l.drop a).drop (b - a) by rw [List.drop_drop];congr 1;omega,List.take_append_drop,List.take_append_drop]
theorem Win.wn (h:Win a b l l') (hab:a≤b):(wn l' a b).Perm (wn l a b):=by
 have h1:=h.perm
 have e1:l'.take a=l.take a:=by
  apply List.ext_getElem?
  intro i
  rw [List.getElem?_take,List.getElem?_take]
  split
  ·rename_i hi
   by_cases hl:i<l.length
   ·rw [ZV (by rw [h.len];exact hl),ZV hl,h.out i (by omega)]
   ·rw [List.getElem?_eq_none (by rw [h.len];omega),List.getElem?_eq_none (by omega)]
  ·rfl
 have e2:l'.drop b=l.drop b:=by
  apply List.ext_getElem?
  intro i
  rw [List.getElem?_drop,List.getElem?_drop]
  by_cases hl:b+i<l.length
  ·rw [ZV (by rw [h.len];exact hl),ZV hl,h.out (b+i) (by omega)]
  ·rw [List.getElem?_eq_none (by rw [h.len];omega),List.getElem?_eq_none (by omega)]
 rw [XF (l:=l') hab,XF (l:=l) hab,e1,e2] at h1
 exact (List.perm_append_right_iff _).1 ((List.perm_append_left_iff _).1 h1)
theorem Win.all (h:Win a b l l') (hb:b≤l.length) {P:α→Prop} (hP:∀k,a≤k→k<b→P (gt l k)) (k:Nat) (h1:a≤k) (h2:k<b):P (gt l' k):=by
 have hm:gt l' k ∈ Go.Proofs.YtcjfciifhdfjkaaGreatDoor.wn l' a b:=(mem_wn (by rw [h.len];exact hb)).2 ⟨k,h1,h2,rfl⟩
 obtain ⟨j,h3,h4,h5⟩:=(mem_wn hb).1 ((h.wn (by omega)).mem_iff.1 hm)
 rw [←h5]
 exact hP j h3 h4
structure Wk0 (c:α→α→Int):Prop where
 a:∀x y,c x y<0→¬c y x<0
 t:∀x y z,¬c y x<0→¬c z y<0→¬c z x<0
variable {c:α→α→Int} (W:Wk0 c)
include W
omit [Inhabited α] in
theorem Wk0.i (x:α):¬c x x<0:=fun h=>W.a x x h h
omit [Inhabited α] in
theorem Wk0.lt_of {x y z:α} (h1:c x y<0) (h2:¬c z y<0):c x z<0:=Classical.byContradiction fun h=>W.t y z x h2 h h1
omit [Inhabited α] in
theorem Wk0.le_lt {x y z:α} (h1:¬c y x<0) (h2:c y z<0):c x z<0:=Classical.byContradiction fun h=>W.t z x y h h1 h2
omit W
def Sw (c:α→α→Int) (a b:Nat) (l:List α):Prop:=∀i j,a≤i→i<j→j<b→¬c (gt l j) (gt l i)<0
theorem Sw.srd (h:Sw c 0 l.length l):Srd c l:=by
 unfold Srd
 rw [List.pairwise_iff_getElem]
 intro i j hi hj hij
 have h1:=h i j (by omega) hij hj
 rw [gt_of (List.getElem?_eq_getElem hi),gt_of (List.getElem?_eq_getElem hj)] at h1
 exact h1
theorem Sw.nil (h:b≤a+1):Sw c a b l:=fun i j h1 h2 h3=>by omega
structure Jw (c:α→α→Int) (a b a' b':Nat) (l0 l:List α):Prop where
 w:Win a b l0 l
 h1:a≤a'
 h2:b'≤b
 p:∀i j,a≤i→i<j→j<b→¬(a'≤i∧j<b')→¬c (gt l j) (gt l i)<0
def Lw (c:α→α→Int) (a b:Nat) (l:List α):Prop:=0<a→∀k,a≤k→k<b→¬c (gt l k) (gt l (a - 1))<0
variable {l0 l1 l2:List α} {m:Nat}
theorem Jw.done (h:Jw c a b a' b' l0 l) (hs:Sw c a' b' l):Win a b l0 l∧Sw c a b l:=⟨h.w,fun i j hi hij hj=>by
 by_cases hn:a'≤i∧j<b'
 ·exact hs i j hn.1 hij hn.2
 ·exact h.p i j hi hij hj hn⟩
theorem Jw.init:Jw c a b a b l l:=⟨Win.refl,Nat.le_refl _,Nat.le_refl _,fun _ _ h1 _ h3 h4=>absurd ⟨h1,h3⟩ h4⟩
structure Pt0 (c:α→α→Int) (a b m:Nat) (l:List α):Prop where
 h1:a≤m
 h2:m<b
 lo:∀k,a≤k→k<m→c (gt l k) (gt l m)<0
 hi:∀k,m<k→k<b→¬c (gt l k) (gt l m)<0
include W in
theorem Pt0.left (hp:Pt0 c a' b' m l) (hb:b'≤l.length) (hw:Win a' m l l1) (hs:Sw c a' m l1):∀i j,a'≤i→i<j→j<b'→¬(m+1≤i∧j<b')→¬c (gt l1 j) (gt l1 i)<0:=fun i j hi hij hj hn=>by
 have h1:=hp.h1
 have h2:=hp.h2
 by_cases hjm:j<m
 ·exact hs i j hi hij hjm
 ·rw [hw.out j (by omega)]
  by_cases him:i<m
  ·have h3:c (gt l1 i) (gt l m)<0:=hw.all (by omega) (P:=fun x=>c x (gt l m)<0) (fun k h1 h2=>hp.lo k h1 h2) i hi him
   by_cases hjm':j=m
   ·rw [hjm'];exact W.a _ _ h3
   ·exact W.a _ _ (W.lt_of h3 (hp.hi j (by omega) hj))
  ·obtain rfl:i=m:=by omega
   rw [hw.out i (by omega)]
   exact hp.hi j (by omega) hj
include W in
theorem Pt0.right (hp:Pt0 c a' b' m l) (hb:b'≤l.length) (hw:Win (m+1) b' l l1) (hs:Sw c (m+1) b' l1):∀i j,a'≤i→i<j→j<b'→¬(a'≤i∧j<m)→¬c (gt l1 j) (gt l1 i)<0:=fun i j hi hij hj hn=>by
 have h1:=hp.h1
 have h2:=hp.h2
 by_cases him:m<i
 ·exact hs i j (by omega) hij hj
 ·rw [hw.out i (by omega)]
  by_cases hjm:m<j
  ·have h3:¬c (gt l1 j) (gt l m)<0:=hw.all (by omega) (P:=fun x=>¬c x (gt l m)<0) (fun k h1 h2=>hp.hi k (by omega) h2) j (by omega) hj
   by_cases him':i=m
   ·rw [him'];exact h3
   ·exact W.a _ _ (W.lt_of (hp.lo i hi (by omega)) h3)
  ·obtain rfl:j=m:=by omega
   rw [hw.out j (by omega)]
   exact W.a _ _ (hp.lo i hi (by omega))
theorem Lw.sub (h:Lw c a b l) (hm:m≤b):Lw c a m l:=fun h0 k h1 h2=>h h0 k h1 (by omega)
def Hp (c:α→α→Int) (f lo n x:Nat) (l:List α):Prop:=∀i j,lo≤i→(j=2 * i+1∨j=2 * i+2)→j<n→i≠x→¬c (gt l (f+i)) (gt l (f+j))<0
def Hq (c:α→α→Int) (f lo n x:Nat) (l:List α):Prop:=∀i j,lo≤i→(x=2 * i+1∨x=2 * i+2)→(j=2 * x+1∨j=2 * x+2)→j<n→¬c (gt l (f+i)) (gt l (f+j))<0
variable {f lo x y:Nat}
include W in
theorem Hp.step (h:Hp c f lo n x l) (hq:Hq c f lo n x l) (hx:lo≤x) (hy:y=2 * x+1∨y=2 * x+2) (hyn:y<n) (hn:f+n≤l.length) (hlt:c (gt l (f+x)) (gt l (f+y))<0)
  (hmax:∀z,(z=2 * x+1∨z=2 * x+2)→z<n→¬c (gt l (f+y)) (gt l (f+z))<0):Hp c f lo n y (sw l (f+x) (f+y))∧Hq c f lo n y (sw l (f+x) (f+y)):=by
 have g:=fun k=>WD (l:=l) (i:=f+x) (j:=f+y) (k:=f+k) (by omega) (by omega)
 constructor
 ·intro i j hi hij hj hiy
  rw [g i,g j,if_neg (by omega:¬f+i=f+y)]
  by_cases hix:i=x
  ·subst hix
   rw [if_pos rfl]
   by_cases hjy:j=y
   ·subst hjy;rw [if_pos rfl];exact W.a _ _ hlt
   ·rw [if_neg (by omega),if_neg (by omega)]
    exact hmax j hij hj
  ·rw [if_neg (by omega)]
   have h3:=h i j hi hij hj hix
   by_cases hjy:j=y
   ·omega
   ·rw [if_neg (by omega)]
    by_cases hjx:j=x
    ·subst hjx
     rw [if_pos rfl]
     exact hq i y hi hij hy hyn
    ·rw [if_neg (by omega)];exact h3
 ·intro i j hi hyi hj hjn
  have hix:i=x:=by omega
  subst hix
  rw [g i,g j,if_neg (by omega),if_pos rfl,if_neg (by omega),if_neg (by omega)]
  exact h y j (by omega) hj hjn (by omega)
def He (c:α→α→Int) (f lo n:Nat) (l:List α):Prop:=∀i j,lo≤i→(j=2 * i+1∨j=2 * i+2)→j<n→¬c (gt l (f+i)) (gt l (f+j))<0
include W in
theorem He.top (h:He c f 0 n l):∀j,j<n→¬c (gt l f) (gt l (f+j))<0:=by
 intro j
 induction j using Nat.strongRecOn with
 | ind j ih=>
  intro hj
  by_cases h0:j=0
  ·subst h0;exact W.i _
  ·have h1:=ih ((j - 1) / 2) (by omega) (by omega)
   have h2:=h ((j - 1) / 2) j (by omega) (by omega) hj
   exact W.t _ _ _ h2 h1
structure Hs (c:α→α→Int) (f n N:Nat) (l:List α):Prop where
 he:He c f 0 n l
 so:∀p q,p<q→q<N→n≤q→¬c (gt l (f+q)) (gt l (f+p))<0
include W in
theorem Hs.pop {i N:Nat} (h:Hs c f (i+1) N l) (hi:i<N) (hN:f+N≤l.length) (hw:Win f (f+i) (sw l f (f+i)) l2) (he:He c f 0 i l2):Hs c f i N l2:=by
 refine ⟨he,fun p q hpq hq hiq=>?_⟩
 have g:=fun k=>WD (l:=l) (i:=f) (j:=f+i) (k:=k) (by omega) (by omega)
 have hs:=sw_len l f (f+i)
 have hall:∀P:α→Prop,(∀k,k≤i→P (gt l (f+k)))→∀p,p<i→P (gt l2 (f+p)):=fun P hP p hp=>
  hw.all (by omega) (P:=P) (fun k h1 h2=>by
   rw [g k,if_neg (by omega)]
   by_cases hk:k=f
   ·rw [if_pos hk];exact hP i (Nat.le_refl _)
   ·rw [if_neg hk,show k=f+(k - f) by omega];exact hP (k - f) (by omega)) (f+p) (by omega) (by omega)
 rw [hw.out (f+q) (by omega),g (f+q)]
 by_cases hqi:q=i
 ·subst hqi
  rw [if_pos rfl]
  exact hall (fun x=>¬c (gt l f) x<0) (fun k hk=>h.he.top W k (by omega)) p hpq
 ·rw [if_neg (by omega),if_neg (by omega)]
  by_cases hpi:p<i
  ·exact hall (fun x=>¬c (gt l (f+q)) x<0) (fun k hk=>h.so k q (by omega) hq (by omega)) p hpi
  ·rw [hw.out (f+p) (by omega),g (f+p)]
   by_cases hp':p=i
   ·rw [if_pos (by omega)]
    exact h.so 0 q (by omega) hq (by omega)
   ·rw [if_neg (by omega),if_neg (by omega)]
    exact h.so p q hpq hq (by omega)
theorem Hs.done {N:Nat} (h:Hs c f 0 N l):Sw c f (f+N) l:=fun i j h1 h2 h3=>by
 have:=h.so (i - f) (j - f) (by omega) (by omega) (by omega)
 rwa [show f+(j - f)=j by omega,show f+(i - f)=i by omega] at this
theorem Hs.init {n N:Nat} (h:He c f 0 n l) (hn:N≤n):Hs c f n N l:=⟨h,fun p q h1 h2 h3=>by omega⟩
omit [Inhabited α] in
theorem snocRec {motive:List α→Prop} (l:List α) (nil:motive []) (snoc:∀(l:List α) (x:α),motive l→motive (l++[x])):motive l:=by
 have h:∀n (l:List α),l.length=n→motive l:=by
  intro n
  induction n with
  | zero=>intro l hl;rw [List.length_eq_zero_iff.1 hl];exact nil
  | succ n ih=>
   intro l hl
   rcases List.eq_nil_or_concat l with h|⟨l',x,h⟩
   ·subst h;exact nil
   ·rw [List.concat_eq_append] at h
    subst h
    exact snoc l' x (ih l' (by simpa using hl))
 exact h _ l rfl
def inR (c:α→α→Int) (P:List α) (x:α):List α:=(P.reverse.dropWhile fun s=>decide (c x s<0)).reverse++x::(P.reverse.takeWhile fun s=>decide (c x s<0)).reverse
omit [Inhabited α] in
theorem inR_eq {P S P0:List α} {x:α} (h:P++S=P0) (h1:∀s ∈ S,c x s<0) (h2:∀p,P.getLast? = some p→¬c x p<0):inR c P0 x=P++x::S:=by
 subst h
 have h3:∀s ∈ S.reverse,decide (c x s<0)=true:=fun s hs=>by simpa using h1 s (List.mem_reverse.1 hs)
 have h4:P.reverse.takeWhile (fun s=>decide (c x s<0))=[]∧P.reverse.dropWhile (fun s=>decide (c x s<0))=P.reverse:=by
  rcases List.eq_nil_or_concat P with hP|⟨P',q,hP⟩
  ·subst hP;simp
  ·rw [List.concat_eq_append] at hP
   subst hP
   have:=h2 q (by simp)
   simp [this]
 unfold inR
 rw [List.reverse_append,List.takeWhile_append_of_pos h3,List.dropWhile_append_of_pos h3,h4.1,h4.2]
 simp
def isR (c:α→α→Int) (l:List α):List α:=l.foldl (inR c) []
omit [Inhabited α] in
theorem inR_split (P:List α) (x:α):∃Q S,Q++S=P∧(∀s ∈ S,c x s<0)∧(∀p,Q.getLast? = some p→¬c x p<0)∧inR c P x=Q++x::S:=by
 induction P using snocRec with
 | nil=>exact ⟨[],[],rfl,by simp,by simp,by simp [inR]⟩
 | snoc P q ih=>
  by_cases hq:c x q<0
  ·obtain ⟨Q,S,h1,h2,h3,h4⟩:=ih
   have h5:∀s ∈ S++[q],c x s<0:=by
    intro s hs
    rcases List.mem_append.1 hs with hs|hs
    ·exact h2 s hs
    ·obtain rfl:=List.mem_singleton.1 hs;exact hq
   exact ⟨Q,S++[q],by rw [←h1];simp,h5,h3,inR_eq (by rw [←h1];simp) h5 h3⟩
  ·have h3:∀p,(P++[q]).getLast? = some p→¬c x p<0:=fun p hp=>by
    simp at hp;subst hp;exact hq
   exact ⟨P++[q],[],by simp,by simp,h3,inR_eq (by simp) (by simp) h3⟩
omit [Inhabited α] in
theorem inR_perm (P:List α) (x:α):(inR c P x).Perm (P++[x]):=by
 obtain ⟨Q,S,h1,_,_,h4⟩:=inR_split (c:=c) P x
 rw [h4,←h1,List.append_assoc]
 refine List.Perm.append_left Q ?_
 exact (List.perm_append_comm (l₁:=[x]) (l₂:=S))
omit [Inhabited α] in
theorem Vv (l:List α) (x:α):isR c (l++[x])=inR c (isR c l) x:=by simp [isR]
omit [Inhabited α] in
theorem Xr (l:List α):(isR c l).Perm l:=by
 induction l using snocRec with
 | nil=>exact List.Perm.refl _
 | snoc l x ih=>rw [Vv];exact (inR_perm _ _).trans (ih.append_right [x])
omit [Inhabited α] in
theorem VA (l:List α):(isR c l).length=l.length:=(Xr l).length_eq
end
variable {α:Type}
section
variable {c:α→α→Int}
def eqvO (c:α→α→Int) (x y:α):Bool:=!decide (c x y<0) && !decide (c y x<0)
structure StOf (c:α→α→Int) (l M:List α):Prop where
 srd:Srd c M
 fil:∀x,M.filter (eqvO c x)=l.filter (eqvO c x)
theorem Vo {x y:α}:eqvO c x y=true↔¬c x y<0∧¬c y x<0:=by
 unfold eqvO
 simp
variable (W:Wk0 c)
include W in
theorem XA (x:α):eqvO c x x=true:=by
 have h:¬c x x<0:=fun h=>W.a _ _ h h
 exact Vo.2 ⟨h,h⟩
include W in
theorem eqvO_no {x y z:α} (h:c x y<0) (h1:eqvO c z x=true) (h2:eqvO c z y=true):False:=by
 have h1:=Vo.1 h1
 have h2:=Vo.1 h2
 exact W.t y z x h2.1 h1.2 h
include W in
theorem StOf.mem {l M:List α} (h:StOf c l M) (x:α):x ∈ M↔x ∈ l:=by
 have e:=h.fil x
 have hs:=XA W x
 constructor
 ·intro hm
  have:x ∈ M.filter (eqvO c x):=List.mem_filter.2 ⟨hm,hs⟩
  rw [e] at this
  exact (List.mem_filter.1 this).1
 ·intro hm
  have:x ∈ l.filter (eqvO c x):=List.mem_filter.2 ⟨hm,hs⟩
  rw [←e] at this
  exact (List.mem_filter.1 this).1
theorem StOf.self {l:List α} (h:Srd c l):StOf c l l:=⟨h,fun _=>rfl⟩
include W in
theorem st_uniq:∀{M N:List α},Srd c M→Srd c N→(∀x,M.filter (eqvO c x)=N.filter (eqvO c x))→M=N
 | [],[],_,_,_=>rfl
 | [],y::N,_,_,h=>by
  have:=h y
  rw [List.filter_nil,List.filter_cons_of_pos (XA W y)] at this
  cases this
 | x::M,[],_,_,h=>by
  have:=h x
  rw [List.filter_nil,List.filter_cons_of_pos (XA W x)] at this
  cases this
 | x::M,y::N,hM,hN,h=>by
  have hx:x ∈ y::N:=by
   have:x ∈ (x::M).filter (eqvO c x):=List.mem_filter.2 ⟨.head _,XA W x⟩
   rw [h x] at this
   exact (List.mem_filter.1 this).1
  have hy:y ∈ x::M:=by
   have:y ∈ (y::N).filter (eqvO c y):=List.mem_filter.2 ⟨.head _,XA W y⟩
   rw [←h y] at this
   exact (List.mem_filter.1 this).1
  have irr:∀z,¬c z z<0:=fun z hz=>W.a _ _ hz hz
  have h1:¬c x y<0:=by
   rcases List.mem_cons.1 hx with e|hx
   ·rw [e];exact irr y
   ·exact (List.pairwise_cons.1 hN).1 x hx
  have h2:¬c y x<0:=by
   rcases List.mem_cons.1 hy with e|hy
   ·rw [e];exact irr x
   ·exact (List.pairwise_cons.1 hM).1 y hy
  have hxy:eqvO c x y=true:=Vo.2 ⟨h1,h2⟩
  have e:=h x
  rw [List.filter_cons_of_pos (XA W x),List.filter_cons_of_pos hxy] at e
  obtain ⟨rfl,_⟩:=List.cons.inj e
  congr 1
  refine st_uniq (List.pairwise_cons.1 hM).2 (List.pairwise_cons.1 hN).2 fun z=>?_
  have e:=h z
  by_cases hz:eqvO c z x=true
  ·rw [List.filter_cons_of_pos hz,List.filter_cons_of_pos hz] at e
   exact (List.cons.inj e).2
  ·rw [List.filter_cons_of_neg hz,List.filter_cons_of_neg hz] at e
   exact e
include W in
theorem StOf.uniq {l M N:List α} (h:StOf c l M) (k:StOf c l N):M=N:=st_uniq W h.srd k.srd fun x=>(h.fil x).trans (k.fil x).symm
include W in
theorem StOf.ins {l P:List α} (h:StOf c l P) (x:α):StOf c (l++[x]) (inR c P x):=by
 obtain ⟨Q,S,h1,h2,h3,h4⟩:=inR_split (c:=c) P x
 rw [h4]
 refine ⟨srt_insr W.a (fun a b d=>W.t a b d) (by rw [h1];exact h.srd) h2 h3,fun z=>?_⟩
 have e:=h.fil z
 rw [←h1,List.filter_append] at e
 rw [List.filter_append,List.filter_append,←e]
 by_cases hz:eqvO c z x=true
 ·have hS:S.filter (eqvO c z)=[]:=by
   rw [List.filter_eq_nil_iff]
   exact fun s hs he=>eqvO_no W (h2 s hs) hz he
  rw [List.filter_cons_of_pos hz,List.filter_cons_of_pos hz,hS,List.append_nil,List.filter_nil]
 ·rw [List.filter_cons_of_neg hz,List.filter_cons_of_neg hz,List.filter_nil,List.append_nil]
include W in
theorem isR_st (l:List α):StOf c l (isR c l):=by
 induction l using snocRec with
 | nil=>exact ⟨List.Pairwise.nil,fun _=>rfl⟩
 | snoc l x ih=>rw [Vv];exact ih.ins W x
include W in
theorem st_merge {L1 L2 R1 R2 M1 M2:List α} (hL:Srd c (L1++L2)) (hR:Srd c (R1++R2)) (h1:∀r ∈ R1,∀l ∈ L2,c r l<0) (h2:∀l ∈ L1,∀r ∈ R2,¬c r l<0) (k1:StOf c (L1++R1) M1) (k2:StOf c (L2++R2) M2):StOf c (L1++L2++(R1++R2)) (M1++M2):=by
 refine ⟨List.pairwise_append.2 ⟨k1.srd,k2.srd,fun x hx y hy=>?_⟩,fun z=>?_⟩
 ·rw [k1.mem W,List.mem_append] at hx
  rw [k2.mem W,List.mem_append] at hy
  rcases hx with hx|hx<;>rcases hy with hy|hy
  ·exact (List.pairwise_append.1 hL).2.2 x hx y hy
  ·exact h2 x hx y hy
  ·exact W.a _ _ (h1 x hx y hy)
  ·exact (List.pairwise_append.1 hR).2.2 x hx y hy
 ·have e:R1.filter (eqvO c z)++L2.filter (eqvO c z)=L2.filter (eqvO c z)++R1.filter (eqvO c z):=by
   cases hr:R1.filter (eqvO c z) with
   | nil=>rw [List.append_nil];rfl
   | cons r rs=>
    have hl:L2.filter (eqvO c z)=[]:=by
     rw [List.filter_eq_nil_iff]
     intro l hl he
     have hm:r ∈ R1.filter (eqvO c z):=by rw [hr];exact .head _
     obtain ⟨m1,m2⟩:=List.mem_filter.1 hm
     exact eqvO_no W (h1 r m1 l hl) m2 he
    rw [hl,List.append_nil];rfl
  rw [List.filter_append,k1.fil,k2.fil]
  simp only [List.filter_append,List.append_assoc]
  rw [←List.append_assoc (R1.filter _),e,List.append_assoc]
end
structure SeenOK {α β:Type} (es:List MapEntry) (m pre:List (α×β)) (seen:List Nat) (js:List Nat):Prop where
 nd:js.Nodup
 lt:∀j ∈ js,j<m.length
 sn:seen.map some=js.map fun j=>(es[j]?).map (·.born)
 pr:pre.map some=js.map fun j=>m[j]?
def MpI {α β:Type} (K:α→Value) (V:β→Value) (r it:Nat) (m pre:List (α×β)):HP:=fun h=>∃es clock seen,(es.toList.map (fun e=>(e.key,e.val))=(m.map fun x=>(K x.1,V x.2))∧BornOK es clock∧∃js,SeenOK es.toList m pre seen.toList js)∧Sep [Pt r (.map es clock),Pt it (.mapIter (some r) clock seen clock)] h
variable {β:Type} {F:List Pf} {R R0:List HP}
section
variable {K:α→Value} {V:β→Value} {r it:Nat} {m pre:List (α×β)} {G:H} {w0 w:World} {hp0:H}
end
variable {C:Cx} {Q:Exit→Act→World→Prop} {E E':List (Nat×Value)} {F' F1 Fs F0:List Pf} {R' Rs N N' A:List HP} {k k':List Fr} {ops l:List Oper} {d:Nat} {t ty0:TypeId} {x y:Operand} {pos:String} {aft:Array Edge} {gd:Option (Nat×Bool)}
section
variable {i:Nat} {z:Operand} {K:α→Value} {V:β→Value} {m pre:List (α×β)} {r it:Nat}
end
def En.w (e:En):Value:=.agg #[.string e.who,.int .i64 e.nu,.int .i64 e.tk,.int .i64 e.o.ch,.string e.o.tg,.string e.o.tx,.int .i64 e.o.us]
structure Idn where
 who:ByteArray
 nu:Int
 tk:Int
 deriving DecidableEq
def Idn.v (i:Idn):Value:=.agg #[.string i.who,.int .i64 i.nu,.int .i64 i.tk]
def En.id (e:En):Idn:=⟨e.who,e.nu,e.tk⟩
theorem beqSw (a b:ByteArray):(a.toList == b.toList)=decide (a=b):=by
 rw [toList_data,toList_data,Bool.eq_iff_iff]
 simp only [beq_iff_eq,decide_eq_true_eq]
 exact ⟨fun h=>XN h,fun h=>by rw [h]⟩
theorem beqIw (a b:Int):(a == b)=decide (a=b):=by rw [Bool.eq_iff_iff];simp
theorem identity_ok (e:En):Enters 73∧Spec prog 73 #[e.w] [] [] (RetV e.id.v):=by
 refine ZE [_] func73 ntmps73 fun G w hp=>?_
 repeat' (first|refine ZC ?_|refine ZH (fun b=>?_)|refine ZM ?_|(refine ZG (fun hc=>?_) (fun hc=>?_)<;>(try simp at hc))|(refine ZB (fun hc=>?_) (fun hc=>?_)<;>(try simp at hc)))
 exact ZD () rfl trivial
def cmpT (a b:En):Int:=cmpI a.tk b.tk
def rdyC (ls:List Lf) (dn:List Dc):List En:=(compF dn).filter fun x=>!ls.any fun y=>decide (y.e.who=x.who∧y.e.nu=x.nu∧y.e.tk=x.tk)
def rdyF (all:List En) (ls:List Lf) (B:Bk):List En:=isR cmpT (rdyA all (ls.map (·.e)) B.si B.dn)++rdyC ls B.dn
def lvL (B:Bk) (xs:List En):List Lf:=xs.map fun x=>⟨x,B.si,B.rd⟩
structure LsI (B:Bk) (ls:List Lf):Prop where
 tm:∀y ∈ ls,y.tm≤B.si∧y.rd≤B.rd
 nd:(ls.map (·.e)).Nodup
structure AlI (all:List En):Prop where
 ok:∀x ∈ all,x.who≠⟨#[]⟩∧lvalid x.who.data.toList=true∧0≤x.nu∧x.nu≤1048576∧tick x.tk=true∧ochk x.o=0
 nd:all.Nodup
theorem XB {dn:List Dc} {x:En} (h:x ∈ compF dn):∃d i,d ∈ dn∧d.a.k=2∧i<dn.length∧x=cpE d i:=by
 obtain ⟨i,hi,hx⟩:=List.mem_iff_getElem.1 h
 unfold compF at hi hx
 rw [List.length_mapIdx] at hi
 rw [List.getElem_mapIdx] at hx
 have hm:=List.mem_filter.1 (List.getElem_mem hi)
 exact ⟨_,i,hm.1,by simpa using hm.2,Nat.lt_of_lt_of_le hi (List.length_filter_le _ _),hx.symm⟩
theorem compF_get {dn:List Dc} {i:Nat} {x:En} (h:(compF dn)[i]? = some x):x.nu=(i:Int):=by
 unfold compF at h
 rw [List.getElem?_mapIdx] at h
 obtain ⟨d,-,rfl⟩:=Option.map_eq_some_iff.1 h
 rfl
theorem compF_nodup (dn:List Dc):(compF dn).Nodup:=by
 refine List.pairwise_iff_getElem.2 fun i j hi hj hij e=>?_
 have h1:=compF_get (List.getElem?_eq_getElem hi)
 have h2:=compF_get (List.getElem?_eq_getElem hj)
 rw [e,h2] at h1
 omega
theorem rdyA_mem {all left:List En} {si:Int} {dn:List Dc} {x:En}:x ∈ rdyA all left si dn↔x ∈ all∧x ∉ left∧(si≤x.tk∨x ∈ sndF dn):=by
 unfold rdyA
 rw [List.mem_filter]
 simp
theorem rdyC_mem {ls:List Lf} {dn:List Dc} {x:En}:x ∈ rdyC ls dn↔x ∈ compF dn∧∀y ∈ ls,¬(y.e.who=x.who∧y.e.nu=x.nu∧y.e.tk=x.tk):=by
 unfold rdyC
 rw [List.mem_filter]
 simp
theorem Yj {all:List En} {ls:List Lf} {B:Bk} {x:En}:x ∈ rdyF all ls B↔(x ∈ all∧x ∉ ls.map (·.e)∧(B.si≤x.tk∨x ∈ sndF B.dn))∨(x ∈ compF B.dn∧∀y ∈ ls,¬(y.e.who=x.who∧y.e.nu=x.nu∧y.e.tk=x.tk)):=by
 unfold rdyF
 rw [List.mem_append,(Xr _).mem_iff,rdyA_mem,rdyC_mem]
theorem rdy_new {all:List En} {ls:List Lf} {B:Bk} {x:En} (h:x ∈ rdyF all ls B):x ∉ ls.map (·.e):=by
 rcases Yj.1 h with h|h
 ·exact h.2.1
 ·intro hm
  obtain ⟨y,hy,rfl⟩:=List.mem_map.1 hm
  exact h.2 y hy ⟨rfl,rfl,rfl⟩
theorem rdy_nodup {all:List En} (ha:AlI all) (ls:List Lf) (B:Bk):(rdyF all ls B).Nodup:=by
 unfold rdyF
 refine List.nodup_append.2 ⟨(Xr _).nodup_iff.2 (ha.nd.sublist List.filter_sublist),(compF_nodup _).sublist List.filter_sublist,fun a h1 b h2 e=>?_⟩
 subst e
 rw [(Xr _).mem_iff,rdyA_mem] at h1
 obtain ⟨d,i,-,-,-,e⟩:=XB (rdyC_mem.1 h2).1
 exact (ha.ok a h1.1).1 (by rw [e];rfl)
theorem LsI.leave {B:Bk} {ls:List Lf} (h:LsI B ls) {all:List En} (ha:AlI all):LsI B (ls++lvL B (rdyF all ls B)):=by
 have he:(lvL B (rdyF all ls B)).map (·.e)=rdyF all ls B:=by
  unfold lvL
  rw [List.map_map]
  exact List.map_id _
 refine ⟨fun y hy=>?_,?_⟩
 ·rcases List.mem_append.1 hy with hy|hy
  ·exact h.tm y hy
  ·obtain ⟨x,_,rfl⟩:=List.mem_map.1 hy
   exact ⟨Int.le_refl _,Int.le_refl _⟩
 ·rw [List.map_append,he]
  exact List.nodup_append.2 ⟨h.nd,rdy_nodup ha ls B,fun a h1 b h2 e=>by subst e;exact rdy_new h2 h1⟩
theorem rdy_again (all:List En) (ls:List Lf) (B:Bk):rdyF all (ls++lvL B (rdyF all ls B)) B=[]:=by
 rw [List.eq_nil_iff_forall_not_mem]
 intro x hx
 have hin:x ∈ rdyF all ls B→False:=fun hr=>by
  have hl:(⟨x,B.si,B.rd⟩:Lf) ∈ ls++lvL B (rdyF all ls B):=List.mem_append_right _ (List.mem_map.2 ⟨x,hr,rfl⟩)
  exact rdy_new hx (List.mem_map.2 ⟨_,hl,rfl⟩)
 rcases Yj.1 hx with h|h
 ·exact hin (Yj.2 (.inl ⟨h.1,fun hm=>h.2.1 (by rw [List.map_append];exact List.mem_append_left _ hm),h.2.2⟩))
 ·exact hin (Yj.2 (.inr ⟨h.1,fun y hy=>h.2 y (List.mem_append_left _ hy)⟩))
theorem ochk_tx {o:Ou} {t:ByteArray} (h:ochk o=0) (ht:t.size≤4096):ochk {o with tx:=t}=0:=by
 unfold ochk at h ⊢
 dsimp only
 split at h
 ·omega
 ·split at h
  ·omega
  ·split at h
   ·omega
   ·split at h
    ·omega
    ·split at h
     ·omega
     ·rename_i h1 h2 h3 h4 h5
      rw [if_neg h1,if_neg h2,if_neg h3,if_neg h4,if_neg (by omega)]
      exact h
theorem comp_ok {B:Bk} (h:BkI B) (hl:B.dn.length≤1000000) {x:En} (hx:x ∈ compF B.dn):lvalid x.who.data.toList=true∧0≤x.nu∧x.nu≤1048576∧tick x.tk=true∧ochk x.o=0:=by
 obtain ⟨d,i,hd,hk,hi,rfl⟩:=XB hx
 obtain ⟨d1,d2,d3,d4,-⟩:=h.dr d hd
 have hp:=h.dp d hd
 obtain ⟨q1,-⟩:=h.dq d hd
 obtain ⟨k1,k2,k3⟩:=Wt q1
 unfold permF at hp
 rw [hk] at hp
 have hpos:d.c.kind≠4:=fun h4=>by
  rw [if_pos (.inr (by rw [h4];decide))] at hp
  omega
 have hsz:d.a.t.size≤4096:=by
  split at hp
  ·omega
  ·split at hp
   ·omega
   ·omega
 have ho:ochk d.c.old=0:=by
  unfold qok at k3
  simp only [Bool.and_eq_true] at k3
  have h4:=k3.1.2
  rw [if_neg hpos] at h4
  exact (of_decide_eq_true h4).2.2
 refine ⟨rfl,Int.natCast_nonneg _,?_,?_,ochk_tx ho hsz⟩
 ·show (i:Int)≤1048576;omega
 ·unfold tick
  simp only [Bool.and_eq_true,decide_eq_true_eq]
  exact ⟨d3,d4⟩
theorem rdy_chk {B:Bk} (h:BkI B) (hl:B.dn.length≤1000000) (hr:B.rd≤1048576) {all:List En} (ha:AlI all) (ls:List Lf) {x:En} (hx:x ∈ rdyF all ls B):lchk ⟨x,B.si,B.rd⟩=0:=by
 have hv:lvalid x.who.data.toList=true∧0≤x.nu∧x.nu≤1048576∧tick x.tk=true∧ochk x.o=0:=by
  rcases Yj.1 hx with hx|hx
  ·exact (ha.ok x hx.1).2
  ·exact comp_ok h hl hx.1
 obtain ⟨v1,v2,v3,v4,v5⟩:=hv
 have h0:=h.r0
 have ht:tick B.si=true:=by
  unfold tick
  simp only [Bool.and_eq_true,decide_eq_true_eq]
  exact ⟨h.s0,h.s1⟩
 unfold lchk
 rw [if_neg (by simp [v1]),if_neg (by simp [v4,ht];omega)]
 exact v5
theorem rdy_leave {B:Bk} (h:BkI B) (hl:B.dn.length≤1000000) (hr:B.rd≤1048576) {all:List En} (ha:AlI all) {ls:List Lf} (hL:LsI B ls) (hn:(ls++lvL B (rdyF all ls B)).length≤100000) {i:Nat} {x:En} (hx:(rdyF all ls B)[i]? = some x):leaveE (ls++lvL B ((rdyF all ls B).take i)) ⟨x,B.si,B.rd⟩=0:=by
 obtain ⟨hi,hg⟩:=List.getElem?_eq_some_iff.1 hx
 have hc:=rdy_chk h hl hr ha ls (hg ▸ List.getElem_mem hi)
 have hlate:late (ls++lvL B ((rdyF all ls B).take i)) ⟨x,B.si,B.rd⟩=false:=by
  unfold late
  cases hla:(ls++lvL B ((rdyF all ls B).take i)).getLast? with
  | none=>rfl
  | some y=>
   have hm:=List.mem_of_getLast? hla
   have hy:y.tm≤B.si∧y.rd≤B.rd:=by
    rcases List.mem_append.1 hm with hm|hm
    ·exact hL.tm y hm
    ·obtain ⟨z,_,rfl⟩:=List.mem_map.1 hm
     exact ⟨Int.le_refl _,Int.le_refl _⟩
   dsimp only
   rw [Bool.or_eq_false_iff]
   exact ⟨decide_eq_false (by omega),decide_eq_false (by omega)⟩
 have hlen:(ls++lvL B ((rdyF all ls B).take i)).length<100000:=by
  unfold lvL at hn ⊢
  rw [List.length_append,List.length_map] at hn ⊢
  rw [List.length_take]
  omega
 unfold leaveE
 rw [if_neg (by omega),hlate,if_neg (by simp),if_neg (by omega)]
def fndD (dn:List Dc) (c:Cq):Option Dc:=if qchk c≠0∨cnts c=false then none else (dn.filter fun d=>decide (mtr d.c=mtr c)).head?
theorem BkI.und {B:Bk} (h:BkI B):(B.dn.map fun d=>mtr d.c).Nodup:=by
 have:=h.un
 rw [List.map_append] at this
 have h2:=(List.nodup_append.1 this).1
 rw [List.map_map] at h2
 exact h2
theorem BkI.ne {B:Bk} (h:BkI B) {i k:Nat} {a c:Dc} (hi:B.dn[i]? = some a) (hk:B.dn[k]? = some c) (hki:k<i):mtr c.c≠mtr a.c:=by
 obtain ⟨i1,i2⟩:=List.getElem?_eq_some_iff.1 hi
 obtain ⟨k1,k2⟩:=List.getElem?_eq_some_iff.1 hk
 have hp:=List.pairwise_iff_getElem.1 h.und k i (by rw [List.length_map];omega) (by rw [List.length_map];omega) hki
 rw [List.getElem_map,List.getElem_map,i2,k2] at hp
 exact hp
theorem fnd_self {B:Bk} (h:BkI B) {i:Nat} {d:Dc} (hd:B.dn[i]? = some d):fndD B.dn d.c=some d:=by
 have hm:=List.mem_of_getElem? hd
 obtain ⟨q1,q2⟩:=h.dq d hm
 unfold fndD
 rw [if_neg (by simp [q1,q2])]
 have hall:∀x ∈ B.dn.filter (fun x=>decide (mtr x.c=mtr d.c)),x=d:=fun x hx=>by
  obtain ⟨x1,x2⟩:=List.mem_filter.1 hx
  obtain ⟨k,hk,rfl⟩:=List.mem_iff_getElem.1 x1
  have x2:=of_decide_eq_true x2
  obtain ⟨i1,i2⟩:=List.getElem?_eq_some_iff.1 hd
  rcases Nat.lt_trichotomy k i with hlt|heq|hgt
  ·exact absurd x2 (h.ne hd (List.getElem?_eq_getElem hk) hlt)
  ·subst heq;exact i2
  ·exact absurd x2.symm (h.ne (List.getElem?_eq_getElem hk) hd hgt)
 have hin:d ∈ B.dn.filter (fun x=>decide (mtr x.c=mtr d.c)):=List.mem_filter.2 ⟨hm,by simp⟩
 cases hl:B.dn.filter (fun x=>decide (mtr x.c=mtr d.c)) with
 | nil=>rw [hl] at hin;cases hin
 | cons x l=>
  rw [hl] at hall
  rw [hall x List.mem_cons_self]
  rfl
theorem once_dn {B:Bk} (h:BkI B) {i k:Nat} {a c:Dc} (hi:B.dn[i]? = some a) (hk:B.dn[k]? = some c) (hki:k<i):¬(a.c.kind≠4∧c.c.kind≠4∧a.c.place=c.c.place)∧a.c≠c.c:=by
 have hn:=h.ne hi hk hki
 refine ⟨fun ⟨h1,h2,h3⟩=>hn ?_,fun e=>hn (by rw [e])⟩
 unfold mtr
 rw [if_pos h1,if_pos h2,h3]
theorem once_ls {B:Bk} {ls:List Lf} (h:LsI B ls) {i k:Nat} {x y:Lf} (hi:ls[i]? = some x) (hk:ls[k]? = some y) (hki:k<i):y.e≠x.e:=by
 obtain ⟨i1,i2⟩:=List.getElem?_eq_some_iff.1 hi
 obtain ⟨k1,k2⟩:=List.getElem?_eq_some_iff.1 hk
 have hp:=List.pairwise_iff_getElem.1 h.nd k i (by rw [List.length_map];omega) (by rw [List.length_map];omega) hki
 rw [List.getElem_map,List.getElem_map,i2,k2] at hp
 exact hp
theorem rdy_sent {all:List En} {ls:List Lf} {B:Bk} {x:En} (h:x ∈ rdyF all ls B):x.who=⟨#[]⟩∨B.si≤x.tk∨∃d ∈ B.dn,d.a.k=3∧d.c.new=x.o:=by
 rcases Yj.1 h with h|h
 ·rcases h.2.2 with h|h
  ·exact .inr (.inl h)
  ·obtain ⟨d,hd,rfl⟩:=List.mem_map.1 h
   obtain ⟨d1,d2⟩:=List.mem_filter.1 hd
   exact .inr (.inr ⟨d,d1,by simpa using d2,rfl⟩)
 ·obtain ⟨d,i,-,-,-,rfl⟩:=XB h.1
  exact .inl rfl

theorem mem_tw {α:Type} {p:α→Bool}:∀{l:List α} {x:α},x ∈ l.takeWhile p→p x=true
 | [],_,h=>by cases h
 | a::l,x,h=>by
  rw [List.takeWhile_cons] at h
  split at h
  ·rename_i ha
   rcases List.mem_cons.1 h with rfl|h
   ·exact ha
   ·exact mem_tw h
  ·cases h
theorem dval_pos:∀(init:List UInt8) (b:UInt8),b.toNat<128→0<b.toNat→0<dval (init++[b])
 | [],b,h,h0=>by simp [dval];omega
 | c::init,b,h,h0=>by
  have:=dval_pos init b h h0
  simp only [List.cons_append,dval];omega
theorem venc_dval:∀(init:List UInt8) (b:UInt8),(∀c ∈ init,128≤c.toNat)→b.toNat<128→(init≠[]→b.toNat≠0)→venc (dval (init++[b]))=init++[b]
 | [],b,_,h,_=>by
  have h1:dval ([]++[b])=b.toNat:=by simp [dval];omega
  rw [h1,venc,if_pos h];simp
 | c::init,b,hc,h,h0=>by
  have hb:0<b.toNat:=Nat.pos_of_ne_zero (h0 (by simp))
  have hp:=dval_pos init b h hb
  have ih:=venc_dval init b (fun x hx=>hc x (by simp [hx])) h (fun _=>by omega)
  have hc1:128≤c.toNat:=hc c (by simp)
  have hc2:c.toNat<256:=c.toNat_lt
  simp only [List.cons_append,dval]
  rw [venc,if_neg (by omega)]
  have e1:(c.toNat % 128+128 * dval (init++[b])) / 128=dval (init++[b]):=by omega
  have e2:(c.toNat % 128+128 * dval (init++[b])) % 128+128=c.toNat:=by omega
  rw [e1,e2,ih];simp
theorem pnat_inv (bs:List UInt8) (h:(pnat bs 9).2.2=0):bs.take (pnat bs 9).2.1=venc (pnat bs 9).1:=by
 have hle:=lastN_le bs 9
 unfold pnat at h ⊢
 dsimp only at h ⊢
 have hall:∀c ∈ bs.take (lastN bs 9),128≤c.toNat:=by
  intro c hc
  have h1:bs.take (lastN bs 9)=(bs.take 9).takeWhile fun b=>decide (128≤b.toNat):=by
   have h2:(bs.take 9).takeWhile (fun b=>decide (128≤b.toNat)) <+: bs:=(List.takeWhile_prefix _).trans (List.take_prefix _ _)
   exact (List.prefix_iff_eq_take.1 h2).symm
  rw [h1] at hc
  simpa using mem_tw hc
 by_cases h9:lastN bs 9=9
 ·simp [h9] at h
 ·rw [if_neg h9] at h ⊢
  cases hb:bs[lastN bs 9]? with
  | none=>simp [hb] at h
  | some b=>
   simp only [hb] at h ⊢
   by_cases hc:0<lastN bs 9∧b.toNat=0
   ·rw [if_pos hc] at h;cases h
   ·rw [if_neg hc] at h ⊢
    have h8:¬(lastN bs 9=9∧1<b.toNat):=fun h=>h9 h.1
    rw [if_neg h8]
    have hlt:lastN bs 9<bs.length:=(List.getElem?_eq_some_iff.1 hb).1
    have ht:bs.take (lastN bs 9+1)=bs.take (lastN bs 9)++[b]:=by rw [List.take_add_one,hb];rfl
    have hbl:b.toNat<128:=by
     have h1:lastN bs 9<(bs.take 9).length:=by simp;omega
     have h3:(bs.take 9)[lastN bs 9]? = some b:=by rw [List.getElem?_take];rw [if_pos (by omega)];exact hb
     have h4:((bs.take 9).takeWhile fun b=>decide (128≤b.toNat)).length=lastN bs 9:=rfl
     by_cases hx:128≤b.toNat
     ·exfalso
      have h5:(bs.take 9).take (lastN bs 9+1)=(bs.take 9).take (lastN bs 9)++[b]:=by rw [List.take_add_one,h3];rfl
      have h6:((bs.take 9).takeWhile fun b=>decide (128≤b.toNat))=(bs.take 9).take (lastN bs 9):=List.prefix_iff_eq_take.1 (List.takeWhile_prefix _)
      have h7:bs.take 9=((bs.take 9).take (lastN bs 9)++[b])++(bs.take 9).drop (lastN bs 9+1):=by rw [←h5,List.take_append_drop]
      have h8:∀c ∈ (bs.take 9).take (lastN bs 9)++[b],decide (128≤c.toNat)=true:=by
       intro c hc
       rcases List.mem_append.1 hc with hc|hc
       ·rw [←h6] at hc;exact mem_tw (p:=fun b:UInt8=>decide (128≤b.toNat)) hc
       ·simp only [List.mem_singleton] at hc;subst hc;simpa using hx
      have h9:((bs.take 9).take (lastN bs 9)++[b]).length≤((bs.take 9).takeWhile fun b=>decide (128≤b.toNat)).length:=by
       conv=>rhs;rw [h7]
       rw [List.takeWhile_append_of_pos h8]
       simp only [List.length_append];omega
      rw [h4] at h9
      simp at h9;omega
     ·omega
    show bs.take (lastN bs 9+1)=venc (dval (bs.take (lastN bs 9+1)) % 18446744073709551616)
    have hd:=dval_lt (bs.take (lastN bs 9+1))
    have hl:(bs.take (lastN bs 9+1)).length≤9:=by simp;omega
    have h128:128 ^ (bs.take (lastN bs 9+1)).length≤128 ^ 9:=Nat.pow_le_pow_right (by decide) hl
    rw [Nat.mod_eq_of_lt (Nat.lt_of_lt_of_le (Nat.lt_of_lt_of_le hd h128) (by decide)),ht]
    exact (venc_dval _ b hall hbl (fun hne hb0=>hc ⟨by
     rcases Nat.eq_zero_or_pos (lastN bs 9) with h0|h0
     ·rw [h0] at hne;exact absurd rfl hne
     ·exact h0,hb0⟩)).symm
theorem rstep_err {α:Type} (z:α) (s:RS) (p:α×Nat×Int) (h:(rstep z s p).2.err=0):s.err=0∧p.2.2=0∧rstep z s p=(p.1,⟨s.rest.drop p.2.1,s.pos+p.2.1,0⟩):=by
 unfold rstep at h ⊢
 by_cases h1:s.err=0
 ·rw [if_neg (by simp [h1])] at h ⊢
  by_cases h2:p.2.2=0
  ·rw [if_neg (by simp [h2])];exact ⟨h1,h2,rfl⟩
  ·rw [if_pos h2] at h;exact absurd h h2
 ·rw [if_pos h1] at h;exact absurd h h1
theorem rnum_inv {s:RS} {most:Int} (h:(rnum s most).2.err=0):s.err=0∧0≤(rnum s most).1∧(rnum s most).1≤most∧(rnum s most).1<9223372036854775808∧s.rest=venc (rnum s most).1.toNat++(rnum s most).2.rest:=by
 obtain ⟨h1,h2,h3⟩:=rstep_err _ _ _ h
 have h4:rnum s most=_:=h3
 have hlt:=(Vc s.rest).1
 unfold pnum at h2
 dsimp only at h2
 have h5:(pnat s.rest 9).2.2=0∧¬most<((pnat s.rest 9).1:Int):=by
  split at h2
  ·cases h2
  ·rename_i hn
   exact ⟨h2,fun hm=>hn ⟨h2,hm⟩⟩
 rw [h4]
 refine ⟨h1,by simp [pnum],by simp only [pnum];omega,by simp only [pnum];omega,?_⟩
 have h6:=pnat_inv s.rest h5.1
 show s.rest=venc (((pnat s.rest 9).1:Int)).toNat++s.rest.drop (pnat s.rest 9).2.1
 rw [Int.toNat_natCast,←h6,List.take_append_drop]
theorem rtext_inv {s:RS} {most:Int} (h:(rtext s most).2.err=0):s.err=0∧((rtext s most).1.size:Int)≤most∧(rtext s most).1.size≤16777216∧s.rest=venc (rtext s most).1.size++(rtext s most).1.data.toList++(rtext s most).2.rest:=by
 obtain ⟨h1,h2,h3⟩:=rstep_err _ _ _ h
 have h4:rtext s most=_:=h3
 rw [h4]
 unfold ptext at h2 ⊢
 by_cases ha:(pnat s.rest 9).2.2=0
 ·rw [if_neg (by simp [ha])] at h2 ⊢
  by_cases hb:most<((pnat s.rest 9).1:Int)∨16777216<(pnat s.rest 9).1
  ·rw [if_pos hb] at h2;cases h2
  ·rw [if_neg hb] at h2 ⊢
   by_cases hc:s.rest.length<(pnat s.rest 9).2.1+(pnat s.rest 9).1
   ·rw [if_pos hc] at h2;cases h2
   ·rw [if_neg hc]
    have hsz:(ByteArray.mk ((s.rest.take ((pnat s.rest 9).2.1+(pnat s.rest 9).1)).drop (pnat s.rest 9).2.1).toArray).size=(pnat s.rest 9).1:=by
     show (List.toArray _).size=_
     simp;omega
    refine ⟨h1,by dsimp only;rw [hsz];omega,by dsimp only;rw [hsz];omega,?_⟩
    dsimp only
    rw [hsz]
    have h6:=pnat_inv s.rest ha
    generalize (pnat s.rest 9).2.1=a at *
    generalize (pnat s.rest 9).1=m at *
    rw [←h6]
    show s.rest=s.rest.take a++(List.toArray ((s.rest.take (a+m)).drop a)).toList++s.rest.drop (a+m)
    have e1:(s.rest.take (a+m)).take a=s.rest.take a:=by rw [List.take_take];congr 1;omega
    have e2:s.rest.take a++(s.rest.take (a+m)).drop a=s.rest.take (a+m):=by rw [←e1,List.take_append_drop]
    rw [List.toList_toArray,e2,List.take_append_drop]
 ·rw [if_pos ha] at h2;exact absurd h2 ha
theorem odec_inv {s:ByteArray} {o:Ou} (h:odec s=some o):ochk o=0∧s.data.toList=oenc o:=by
 unfold odec at h
 dsimp only at h
 split at h
 ·rename_i hc
  obtain ⟨h1,h2,h3⟩:=hc
  obtain rfl:=Option.some.inj h
  refine ⟨h3,?_⟩
  unfold oread at h1 h2 ⊢
  dsimp only at h1 h2 ⊢
  obtain ⟨a1,a2,a3,a4,a5⟩:=rnum_inv h1
  obtain ⟨b1,b2,b3,b4⟩:=rtext_inv a1
  obtain ⟨c1,c2,c3,c4⟩:=rtext_inv b1
  obtain ⟨d1,d2,d3,d4,d5⟩:=rnum_inv c1
  rw [h2] at a5
  refine Eq.trans (show s.data.toList=_ from d5) ?_
  rw [c4,b4,a5]
  simp [oenc]
 ·cases h
def tenc (t:ByteArray):List UInt8:=venc t.size++t.data.toList
def qenc (c:Cq):List UInt8:=venc c.kind.toNat++(tenc c.who++(venc c.nu.toNat++(venc (c.place+1).toNat++(oenc c.old++(venc c.oldAt.toNat++(oenc c.new++venc c.newAt.toNat))))))
def dcenc (d:Dc):List UInt8:=venc d.rd.toNat++(venc d.at'.toNat++(qenc d.c++(venc d.a.k.toNat++(tenc d.a.t++venc (d.ru+1).toNat))))
def bkenc (B:Bk):List UInt8:=venc B.rd.toNat++(venc B.si.toNat++(venc B.dn.length++(B.dn.flatMap dcenc++(venc B.op.length++B.op.flatMap qenc))))
def qread (s:RS):Cq×RS:=
 let (k,s1):=rnum s 4
 let (who,s2):=rtext s1 16777216
 let (nu,s3):=rnum s2 1048576
 let (pl,s4):=rnum s3 100000
 let (o,s5):=oread s4
 let (oa,s6):=rnum s5 1073741824
 let (n,s7):=oread s6
 let (na,s8):=rnum s7 1073741824
 (⟨k,who,nu,pl - 1,o,oa,n,na⟩,s8)
def dread (s:RS):Dc×RS:=
 let (rd,s1):=rnum s 1048576
 let (t,s2):=rnum s1 1073741824
 let (c,s3):=qread s2
 let (k,s4):=rnum s3 5
 let (x,s5):=rtext s4 4096
 let (ru,s6):=rnum s5 256
 (⟨rd,t,c,⟨k,x⟩,ru - 1⟩,s6)
def dloop:Nat→List Dc→RS→Option (List Dc×RS)
 | 0,l,s=>some (l,s)
 | m+1,l,s=>if s.err≠0 then none else dloop m (l++[(dread s).1]) (dread s).2
def qloop:Nat→List Cq→RS→Option (List Cq×RS)
 | 0,l,s=>some (l,s)
 | m+1,l,s=>if s.err≠0 then none else qloop m (l++[(qread s).1]) (qread s).2
def bval (B:Bk):Bool:=!(decide (B.rd=0) && (decide (B.si≠0) || !B.op.isEmpty)) && (B.dn.all fun d=>decide (1≤d.rd∧d.rd≤B.rd∧qchk d.c=0∧cnts d.c=true∧permF d.a d.c=0)) && (B.op.all fun c=>decide (qchk c=0∧cnts c=true)) && decide ((B.dn.map (·.c)++B.op).map mtr).Nodup
def bkread (s:List UInt8):Option (Bk×RS):=
 let (rd,s1):=rnum ⟨s,0,0⟩ 1048576
 let (si,s2):=rnum s1 1073741824
 let (n,s3):=rnum s2 100000
 match dloop n.toNat [] s3 with
 | none=>none
 | some (dn,s4)=>
  match qloop (rnum s4 (s4.rest.length:Int)).1.toNat [] (rnum s4 (s4.rest.length:Int)).2 with
  | none=>none
  | some (op,s6)=>some (⟨rd,si,dn,op⟩,s6)
def bkdec (s:List UInt8):Option Bk:=match bkread s with
 | none=>none
 | some (B,s')=>if s'.err=0∧s'.rest=[]∧bval B=true then some B else none
def RT {α:Type} (e:List UInt8) (f:RS→α×RS) (x:α):Prop:=∀rest pos,∃p,f ⟨e++rest,pos,0⟩=(x,⟨rest,p,0⟩)
theorem qchk_all {c:Cq} (h:qchk c=0):(1≤c.kind∧c.kind≤4)∧(0≤c.nu∧c.nu≤1048576)∧(0≤c.oldAt∧c.oldAt≤1073741824)∧(0≤c.newAt∧c.newAt≤1073741824)∧(-1≤c.place∧c.place<100000)∧(c.old=Ou.z∨ochk c.old=0)∧(c.new=Ou.z∨ochk c.new=0):=by
 obtain ⟨h1,h2,h3⟩:=Wt h
 unfold qok at h3
 simp only [Bool.and_eq_true] at h3
 obtain ⟨⟨⟨⟨⟨-,a2⟩,a3⟩,a4⟩,a5⟩,a6⟩:=h3
 unfold tkF at a3 a4
 refine ⟨⟨h1,h2⟩,of_decide_eq_true a2,of_decide_eq_true a3,of_decide_eq_true a4,?_,?_,?_⟩
 ·split at a5
  ·have:=of_decide_eq_true a5;omega
  ·have:=of_decide_eq_true a5;omega
 ·split at a5
  ·exact .inl (of_decide_eq_true a5).2.1
  ·exact .inr (of_decide_eq_true a5).2.2
 ·split at a6
  ·exact .inl (of_decide_eq_true a6).1
  ·exact .inr (of_decide_eq_true a6)
structure DcW (d:Dc):Prop where
 q:qchk d.c=0
 w:d.c.who.size≤16777216
 r:0≤d.rd∧d.rd≤1048576
 t:0≤d.at'∧d.at'≤1073741824
 k:0≤d.a.k∧d.a.k≤5
 x:d.a.t.size≤4096
 u : -1≤d.ru∧d.ru<256
structure BkW (B:Bk):Prop where
 r:0≤B.rd∧B.rd≤1048576
 s:0≤B.si∧B.si≤1073741824
 n:B.dn.length≤100000
 m:B.op.length<9223372036854775808
 d:∀d ∈ B.dn,DcW d
 o:∀c ∈ B.op,qchk c=0∧c.who.size≤16777216
structure It where
 b:Nat
 n:Nat
 t:Nat
 c:Nat
 g:Nat
 x:Nat
def wn52 (k:Nat):ByteArray:=if k % 3=0 then ⟨#[51]⟩ else if k % 3=1 then ⟨#[51,46,49]⟩ else ⟨#[52]⟩
def tg52 (k:Nat):ByteArray:=if k % 3=0 then ⟨#[108,112]⟩ else if k % 3=1 then ⟨#[98,97,110,107]⟩ else ⟨#[101,118,101,64,116,104,101,114,101]⟩
def tx52 (k:Nat):ByteArray:=if k % 4=0 then ⟨#[97]⟩ else if k % 4=1 then ⟨#[98]⟩ else if k % 4=2 then ⟨#[]⟩ else ⟨#[111,114,100,101,114,32,53]⟩
def itE (x:It):En:=⟨wn52 x.b,((x.n % 3:Nat):Int),((x.t % 8:Nat):Int),⟨1+((x.c % 4:Nat):Int),tg52 x.g,tx52 x.x,5⟩⟩
def onD (w:ByteArray) (n t:Int):Nm:=⟨18,w,n,t,⟨#[]⟩⟩
theorem XV (k:Nat):wn52 k≠⟨#[]⟩∧lvalid (wn52 k).data.toList=true∧(wn52 k).size≤3:=by
 have v1:lvalid (ByteArray.mk #[51]).data.toList=true:=by
  have h:=(Xk [51] 0 0 (by simp)).2.2.2
  rw [show ffirst (([51]:List UInt8).drop 0) 0 0=(⟨3,0,0⟩,1) from rfl] at h
  simp at h
  simp [lvalid,lparts,h]
 have v2:lvalid (ByteArray.mk #[52]).data.toList=true:=by
  have h:=(Xk [52] 0 0 (by simp)).2.2.2
  rw [show ffirst (([52]:List UInt8).drop 0) 0 0=(⟨4,0,0⟩,1) from rfl] at h
  simp at h
  simp [lvalid,lparts,h]
 have v3:lvalid (ByteArray.mk #[51,46,49]).data.toList=true:=by
  have h:=(Xk [51,46,49] 0 0 (by simp)).2.2.2
  rw [show ffirst (([51,46,49]:List UInt8).drop 0) 0 0=(⟨3,0,0⟩,1) from rfl] at h
  have h2:=(Xk [51,46,49] 2 1 (by simp)).2.2.2
  rw [show ffirst (([51,46,49]:List UInt8).drop 2) 2 1=(⟨1,2,0⟩,3) from rfl] at h2
  simp at h h2
  simp [lvalid,lparts,h,h2]
 unfold wn52
 split
 ·exact ⟨by simp,v1,by decide⟩
 ·split
  ·exact ⟨by simp,v3,by decide⟩
  ·exact ⟨by simp,v2,by decide⟩
theorem tg52_ok (k:Nat):isE (tg52 k)=false∧¬64<(tg52 k).size∧(tg52 k).data.toList.any bad2=false:=by
 unfold tg52
 split
 ·exact ⟨by simp [isE,toList_data],by decide,by simp [bad2]⟩
 ·split
  ·exact ⟨by simp [isE,toList_data],by decide,by simp [bad2]⟩
  ·exact ⟨by simp [isE,toList_data],by decide,by simp [bad2]⟩
theorem tx52_ok (k:Nat):(tx52 k).size≤7:=by
 unfold tx52
 repeat' split
 all_goals decide
theorem itE_o (x:It):ochk (itE x).o=0:=by
 obtain ⟨h1,h2,h3⟩:=tg52_ok x.g
 have h4:=tx52_ok x.x
 unfold ochk itE
 dsimp only
 rw [if_neg (by omega),if_neg (by simp [h1]),if_neg h2,if_neg (by simp [h3]),if_neg (by omega),if_neg (by omega)]
structure EsI (es:Al):Prop where
 srt:Srt es
 nm:∀x ∈ es,∃w n t,x.1=onD w n t∧(w≠⟨#[]⟩∧w.size≤1000)∧lvalid w.data.toList=true∧0≤n∧n≤1048576∧0≤t∧t≤1073741824
theorem esI_nil:EsI []:=⟨List.Pairwise.nil,fun x h=>by cases h⟩
theorem EsI.ins {es:Al} (h:EsI es) {w:ByteArray} {n t:Int} (v:ByteArray) (h1:w≠⟨#[]⟩∧w.size≤1000) (h2:lvalid w.data.toList=true) (h3:0≤n∧n≤1048576) (h4:0≤t∧t≤1073741824):EsI (insO (onD w n t) v es):=
 ⟨srt_ins _ _ _ h.srt,fun x hx=>by
  rcases WZ _ _ _ _ hx with rfl|hx
  ·exact ⟨w,n,t,rfl,h1,h2,h3.1,h3.2,h4.1,h4.2⟩
  ·exact h.nm x hx⟩
theorem onD_chk {w:ByteArray} {n t:Int} (h:lvalid w.data.toList=true) (hn:0≤n∧n≤1048576):nchk (onD w n t)=0↔0≤t∧t≤1073741824:=by
 have h2:isE (onD w n t).text=true:=by simp [onD,isE]
 rw [nchk,if_pos (by simp [onD])]
 show uchk ⟨_,true,true,true,false,1073741824⟩ (onD w n t)=0↔_
 have h1:lvalid (onD w n t).owner.data.toList=true:=h
 have h3:within (onD w n t).number 1073741824=true:=by
  unfold within onD
  simp only [Bool.and_eq_true,decide_eq_true_eq]
  exact ⟨hn.1,by omega⟩
 have h4:within (onD w n t).index 1073741824=true↔0≤t∧t≤1073741824:=by
  unfold within onD
  simp only [Bool.and_eq_true,decide_eq_true_eq]
 rw [←h4]
 cases h5:within (onD w n t).index 1073741824<;>simp [uchk,h1,h2,h3,h5]
theorem EsI.all {es:Al} (h:EsI es):AlI (allE es)∧∀x ∈ allE es,x.who.size≤1000:=by
 have hkey:∀a ∈ kn es 18,∃w n t,a=onD w n t∧(w≠⟨#[]⟩∧w.size≤1000)∧lvalid w.data.toList=true∧0≤n∧n≤1048576∧0≤t∧t≤1073741824:=fun a ha=>by
  unfold kn at ha
  obtain ⟨x,hx,rfl⟩:=List.mem_map.1 ha
  exact h.nm x (List.mem_filter.1 hx).1
 have hnd:(kn es 18).Nodup:=by
  unfold kn
  have h2:(es.map (·.1)).Nodup:=by
   refine List.pairwise_map.2 (h.srt.imp fun {a b} hab e=>?_)
   rw [e] at hab
   have:=(Wx b.1 b.1).2 rfl
   omega
  exact h2.sublist (List.filter_sublist.map _)
 have hent:∀x ∈ allE es,(x.who≠⟨#[]⟩∧lvalid x.who.data.toList=true∧0≤x.nu∧x.nu≤1048576∧tick x.tk=true∧ochk x.o=0)∧x.who.size≤1000:=fun x hx=>by
  unfold allE allN at hx
  obtain ⟨a,ha,hax⟩:=List.mem_filterMap.1 hx
  unfold entO at hax
  obtain ⟨o,ho,rfl⟩:=Option.map_eq_some_iff.1 hax
  obtain ⟨w,n,t,rfl,h1,h2,h3,h4,h5,h6⟩:=hkey a ha
  refine ⟨⟨h1.1,h2,h3,h4,?_,(odec_inv ho).1⟩,h1.2⟩
  unfold tick
  simp only [Bool.and_eq_true,decide_eq_true_eq]
  exact ⟨h5,h6⟩
 refine ⟨⟨fun x hx=>(hent x hx).1,?_⟩,fun x hx=>(hent x hx).2⟩
 ·unfold allE allN
  refine List.pairwise_filterMap.2 (List.Pairwise.imp_of_mem (fun {a b} ha hb hab x hx y hy e=>hab ?_) hnd)
  unfold entO at hx hy
  obtain ⟨o,-,rfl⟩:=Option.map_eq_some_iff.1 hx
  obtain ⟨o',-,rfl⟩:=Option.map_eq_some_iff.1 hy
  obtain ⟨w,n,t,rfl,-⟩:=hkey a ha
  obtain ⟨w',n',t',rfl,-⟩:=hkey b hb
  simp only [En.mk.injEq] at e
  obtain ⟨e1,e2,e3,-⟩:=e
  unfold onD at e1 e2 e3 ⊢
  dsimp only at e1 e2 e3
  rw [e1,e2,e3]
theorem Xc (es:Al):(allE es).length≤es.length:=by
 unfold allE allN kn
 refine Nat.le_trans (List.length_filterMap_le _ _) ?_
 rw [List.length_map]
 exact List.length_filter_le _ _
def scS (es:Al) (x:It):Al:=insO (onD (itE x).who (itE x).nu (itE x).tk) (oencS (itE x).o) es
def scn (l:List It):Al:=(l.take 8).foldl scS []
theorem itE_n (x:It):(0≤(itE x).nu∧(itE x).nu≤2)∧0≤(itE x).tk∧(itE x).tk≤7:=by
 unfold itE
 dsimp only
 omega
theorem scS_ok {es:Al} (h:EsI es) (x:It):EsI (scS es x)∧(scS es x).length≤es.length+1:=by
 obtain ⟨h1,h2,h3⟩:=XV x.b
 obtain ⟨n1,n2⟩:=itE_n x
 exact ⟨h.ins _ ⟨h1,Nat.le_trans h3 (by decide)⟩ h2 (by omega) (by omega),WU _ _ _⟩
theorem scL_ok:∀(l:List It) {es:Al},EsI es→EsI (l.foldl scS es)∧(l.foldl scS es).length≤es.length+l.length
 | [],_,h=>⟨h,Nat.le_refl _⟩
 | x::l,es,h=>by
  obtain ⟨h1,h2⟩:=scS_ok h x
  obtain ⟨h3,h4⟩:=scL_ok l h1
  rw [List.foldl_cons,List.length_cons]
  exact ⟨h3,by omega⟩
theorem scn_ok (l:List It):EsI (scn l)∧(scn l).length≤8:=by
 obtain ⟨h1,h2⟩:=scL_ok (l.take 8) esI_nil
 refine ⟨h1,Nat.le_trans h2 ?_⟩
 rw [List.length_nil,List.length_take]
 omega
def tkL (si:Int):List It→Al→Al
 | [],es=>es
 | x::l,es=>if si+(itE x).tk≤1073741824 then tkL si l (insO (onD (itE x).who ((itE x).nu+3) (si+(itE x).tk)) (oencS (itE x).o) es) else es
theorem tkL_ok {si:Int} (hs:0≤si):∀(l:List It) {es:Al},EsI es→EsI (tkL si l es)∧(tkL si l es).length≤es.length+l.length
 | [],_,h=>⟨h,Nat.le_refl _⟩
 | x::l,es,h=>by
  have w1:(itE x).who≠⟨#[]⟩∧(itE x).who.size≤1000:=⟨(XV x.b).1,Nat.le_trans (XV x.b).2.2 (by decide)⟩
  have w2:lvalid (itE x).who.data.toList=true:=(XV x.b).2.1
  obtain ⟨n1,n2⟩:=itE_n x
  rw [tkL]
  split
  ·rename_i hle
   obtain ⟨h3,h4⟩:=tkL_ok hs l (h.ins (n:=(itE x).nu+3) (t:=si+(itE x).tk) (oencS (itE x).o) w1 w2 (by omega) (by omega))
   have:=WU (onD (itE x).who ((itE x).nu+3) (si+(itE x).tk)) (oencS (itE x).o) es
   exact ⟨h3,by rw [List.length_cons];omega⟩
  ·exact ⟨h,by omega⟩
structure Wd where
 B:Bk
 ls:List Lf
 es:Al
structure OpD where
 k:Nat
 now:List It
 ru:List Ru
 at':Int
 ix:Int
 a:Ac
def wdRep (W:Wd) (o:OpD):Wd:=if rpE W.B (consE (allE (scn o.now)) W.ls) o.at'=0 then ⟨rpB W.B o.ru (consE (allE (scn o.now)) W.ls) o.at',W.ls,scn o.now⟩ else W
def wdAns (W:Wd) (o:OpD):Wd:=if ansE W.B o.ix o.a o.at'=0 then match W.B.op[o.ix.toNat]? with
 | none=>W
 | some c=>{W with B:=ansB W.B o.ix.toNat c o.a o.at'} else W
def wdRdy (W:Wd):Wd:={W with ls:=W.ls++lvL W.B (rdyF (allE W.es) W.ls W.B)}
def wdTik (W:Wd) (o:OpD):Wd:={W with es:=tkL W.B.si (o.now.take 4) W.es}
def wdDo (W:Wd) (o:OpD):Wd:=if o.k % 5=0∨o.k % 5=1 then wdRep W o else if o.k % 5=2 then wdAns W o else if o.k % 5=3 then wdRdy W else wdTik W o
def bdD:Nat→Nat×Nat
 | 0=>(0,0)
 | k+1=>((bdD k).2+60,(bdD k).1+(bdD k).2+60)
theorem bdD_mono:∀k,(bdD k).1≤(bdD (k+1)).1∧(bdD k).2≤(bdD (k+1)).2∧(bdD k).1≤(bdD k).2
 | 0=>by decide
 | k+1=>by
  obtain ⟨h1,h2,h3⟩:=bdD_mono k
  rw [show bdD (k+1+1)=((bdD (k+1)).2+60,(bdD (k+1)).1+(bdD (k+1)).2+60) from rfl]
  rw [show bdD (k+1)=((bdD k).2+60,(bdD k).1+(bdD k).2+60) from rfl] at *
  dsimp only at *
  omega
def RuD (l:List Ru):Prop:=∀c,qchk c=0→cnts c=true→(decideF l c).1.k≠5→permF (decideF l c).1 c=0∧-1≤(decideF l c).2∧(decideF l c).2<256
structure WdI (k:Nat) (W:Wd):Prop where
 B:BkI W.B
 L:LsI W.B W.ls
 E:EsI W.es
 rd:W.B.rd≤(k:Int)
 el:W.es.length≤8+4 * k
 n1:W.ls.length≤(bdD k).1∧W.B.dn.length≤(bdD k).1
 n2:W.ls.length+W.B.dn.length≤(bdD k).2
 n3:W.B.op.length≤(bdD k).2+60
 wd:(∀d ∈ W.B.dn,d.c.who.size≤1000)∧(∀c ∈ W.B.op,c.who.size≤1000)∧∀y ∈ W.ls,y.e.who.size≤1000
theorem rpF_len (l:List Ru) (rd at':Int):∀(cs:List Cq) (s:Rp),(cs.foldl (rpS l rd at') s).d.length+(cs.foldl (rpS l rd at') s).o.length≤s.d.length+s.o.length+cs.length
 | [],_=>Nat.le_refl _
 | c::cs,s=>by
  have h:=rpF_len l rd at' cs (rpS l rd at' s c)
  have h2:(rpS l rd at' s c).d.length+(rpS l rd at' s c).o.length≤s.d.length+s.o.length+1:=by
   unfold rpS
   split
   ·omega
   ·split
    ·simp only [List.length_append,List.length_singleton];omega
    ·simp only [List.length_append,List.length_singleton];omega
  rw [List.foldl_cons,List.length_cons]
  omega
theorem rpF_mem (l:List Ru) (rd at':Int):∀(cs:List Cq) (s:Rp),(∀d ∈ (cs.foldl (rpS l rd at') s).d,d ∈ s.d∨d.c ∈ cs)∧∀c ∈ (cs.foldl (rpS l rd at') s).o,c ∈ s.o∨c ∈ cs
 | [],_=>⟨fun _ h=>.inl h,fun _ h=>.inl h⟩
 | c::cs,s=>by
  obtain ⟨h1,h2⟩:=rpF_mem l rd at' cs (rpS l rd at' s c)
  have h3:(∀d ∈ (rpS l rd at' s c).d,d ∈ s.d∨d.c=c)∧∀x ∈ (rpS l rd at' s c).o,x ∈ s.o∨x=c:=by
   unfold rpS
   split
   ·exact ⟨fun _ h=>.inl h,fun _ h=>.inl h⟩
   ·split
    ·exact ⟨fun _ h=>.inl h,fun x h=>by simpa using h⟩
    ·refine ⟨fun d h=>?_,fun _ h=>.inl h⟩
     rcases List.mem_append.1 h with h|h
     ·exact .inl h
     ·rw [List.mem_singleton.1 h];exact .inr rfl
  rw [List.foldl_cons]
  refine ⟨fun d hd=>?_,fun x hx=>?_⟩
  ·rcases h1 d hd with h|h
   ·rcases h3.1 d h with h|h
    ·exact .inl h
    ·exact .inr (h ▸ List.mem_cons_self)
   ·exact .inr (List.mem_cons_of_mem _ h)
  ·rcases h2 x hx with h|h
   ·rcases h3.2 x h with h|h
    ·exact .inl h
    ·exact .inr (h ▸ List.mem_cons_self)
   ·exact .inr (List.mem_cons_of_mem _ h)
theorem consE_len (all:List En) (ls:List Lf):(consE all ls).length≤ls.length+all.length:=by
 unfold consE Z7 Z9
 rw [List.length_append,List.length_mapIdx,List.length_map]
 have:=List.length_filter_le (fun y=>decide (y ∉ ls.flatMap (knw all))) all
 omega
theorem consE_who {all:List En} {ls:List Lf} {c:Cq} (h:c ∈ consE all ls):(∃y ∈ ls,c.who=y.e.who)∨∃x ∈ all,c.who=x.who:=by
 unfold consE Z7 Z9 at h
 rcases List.mem_append.1 h with h|h
 ·obtain ⟨i,hi,rfl⟩:=List.mem_iff_getElem.1 h
  rw [List.length_mapIdx] at hi
  refine .inl ⟨ls[i],List.getElem_mem hi,?_⟩
  rw [List.getElem_mapIdx]
  unfold con1
  split
  ·rfl
  ·split<;>rfl
 ·obtain ⟨x,hx,rfl⟩:=List.mem_map.1 h
  exact .inr ⟨x,(List.mem_filter.1 hx).1,rfl⟩
theorem fstQ_all {cs:List Cq} (h:fstQ cs=0):∀c ∈ cs,qchk c=0:=by
 intro c hc
 unfold fstQ at h
 cases hf:(cs.map qchk).find? fun e=>decide (e≠0) with
 | none=>
  have:=List.find?_eq_none.1 hf (qchk c) (List.mem_map.2 ⟨c,hc,rfl⟩)
  simpa using this
 | some e=>
  rw [hf] at h
  have:=List.find?_some hf
  simp at this h
  exact absurd h this
theorem Vm {B:Bk} {cs:List Cq} {t:Int} (h:rpE B cs t=0):(∀c ∈ cs,qchk c=0)∧(0≤t∧t≤1073741824)∧B.si≤t:=by
 unfold rpE at h
 by_cases h1:fstQ cs≠0
 ·rw [if_pos h1] at h;exact absurd h h1
 ·rw [if_neg h1] at h
  split at h
  ·omega
  ·split at h
   ·omega
   ·exact ⟨fstQ_all (by omega),by omega,by omega⟩
theorem rdy_len (all:List En) (ls:List Lf) (B:Bk):(rdyF all ls B).length≤all.length+B.dn.length:=by
 unfold rdyF rdyA rdyC compF
 rw [List.length_append,VA]
 refine Nat.add_le_add (List.length_filter_le _ _) (Nat.le_trans (List.length_filter_le _ _) ?_)
 rw [List.length_mapIdx]
 exact List.length_filter_le _ _
theorem WdI.more {k:Nat} {W:Wd} (h:WdI k W):WdI (k+1) W:=by
 obtain ⟨m1,m2,m3⟩:=bdD_mono k
 have n1:=h.n1
 have n2:=h.n2
 have n3:=h.n3
 have:=h.rd
 have:=h.el
 exact ⟨h.B,h.L,h.E,by omega,by omega,⟨by omega,by omega⟩,by omega,by omega,h.wd⟩
theorem UU {B:Bk} {i:Int} {a:Ac} {t:Int} (h:ansE B i a t=0):0≤i∧(0≤t∧t≤1073741824)∧B.si≤t∧∃c,B.op[i.toNat]? = some c∧permF a c=0:=by
 unfold ansE at h
 split at h
 ·omega
 ·split at h
  ·omega
  ·split at h
   ·omega
   ·rename_i c hc
    exact ⟨by omega,by omega,by omega,c,hc,h⟩
theorem WdI.step {k:Nat} {W:Wd} (h:WdI k W) (hk:k≤12) {o:OpD} (hr:RuD o.ru):WdI (k+1) (wdDo W o):=by
 obtain ⟨m1,m2,m3⟩:=bdD_mono k
 have e1:(bdD (k+1)).1=(bdD k).2+60:=rfl
 have e2:(bdD (k+1)).2=(bdD k).1+(bdD k).2+60:=rfl
 obtain ⟨n11,n12⟩:=h.n1
 have n2:=h.n2
 have n3:=h.n3
 have hrd:=h.rd
 have hel:=h.el
 obtain ⟨w1,w2,w3⟩:=h.wd
 unfold wdDo
 split
 ·unfold wdRep
  split
  ·rename_i h0
   obtain ⟨q1,q2,q3⟩:=Vm h0
   obtain ⟨s1,s2⟩:=scn_ok o.now
   have hB:=h.B.repair q1 q2 hr
   have hl:=rpF_len o.ru (W.B.rd+1) o.at' (consE (allE (scn o.now)) W.ls) ⟨knB W.B.dn,[],[]⟩
   have hm:=rpF_mem o.ru (W.B.rd+1) o.at' (consE (allE (scn o.now)) W.ls) ⟨knB W.B.dn,[],[]⟩
   have hc:=consE_len (allE (scn o.now)) W.ls
   have hal:=Xc (scn o.now)
   have hcw:∀c ∈ consE (allE (scn o.now)) W.ls,c.who.size≤1000:=fun c hc=>by
    rcases consE_who hc with ⟨y,hy,e⟩|⟨x,hx,e⟩
    ·rw [e];exact w3 y hy
    ·rw [e];exact s1.all.2 x hx
   have hdl:(rpB W.B o.ru (consE (allE (scn o.now)) W.ls) o.at').dn.length=W.B.dn.length+(rpL o.ru (W.B.rd+1) o.at' W.B.dn (consE (allE (scn o.now)) W.ls)).d.length:=List.length_append
   have hol:(rpB W.B o.ru (consE (allE (scn o.now)) W.ls) o.at').op.length=(rpL o.ru (W.B.rd+1) o.at' W.B.dn (consE (allE (scn o.now)) W.ls)).o.length:=rfl
   unfold rpL at hdl hol
   simp only [List.length_nil] at hl
   refine ⟨hB,⟨fun y hy=>⟨?_,?_⟩,h.L.nd⟩,s1,?_,by dsimp only;omega,⟨by dsimp only;omega,by dsimp only;omega⟩,by dsimp only;omega,by dsimp only;omega,fun d hd=>?_,fun c hc=>?_,w3⟩
   ·have:=(h.L.tm y hy).1
    show y.tm≤o.at'
    omega
   ·have:=(h.L.tm y hy).2
    show y.rd≤W.B.rd+1
    omega
   ·show W.B.rd+1≤((k+1:Nat):Int)
    omega
   ·rcases List.mem_append.1 hd with hd|hd
    ·exact w1 d hd
    ·rcases hm.1 d hd with hd|hd
     ·cases hd
     ·exact hcw _ hd
   ·rcases hm.2 c hc with hd|hd
    ·cases hd
    ·exact hcw _ hd
  ·exact h.more
 ·split
  ·unfold wdAns
   split
   ·rename_i h0
    obtain ⟨a1,a2,a3,c,a4,a5⟩:=UU h0
    rw [a4]
    dsimp only
    have hB:=h.B.answer a4 a2 a5
    have hl:(W.B.dn++[ansD W.B c o.a o.at']).length=W.B.dn.length+1:=by rw [List.length_append];rfl
    have hcm:=List.mem_of_getElem? a4
    have hle:(W.B.op.eraseIdx o.ix.toNat).length≤W.B.op.length:=List.length_eraseIdx_le _ _
    refine ⟨hB,⟨h.L.tm,h.L.nd⟩,h.E,by show W.B.rd≤((k+1:Nat):Int);omega,by dsimp only;omega,⟨by dsimp only;omega,by show (W.B.dn++[ansD W.B c o.a o.at']).length≤_;omega⟩,by show W.ls.length+(W.B.dn++[ansD W.B c o.a o.at']).length≤_;omega,by show (W.B.op.eraseIdx o.ix.toNat).length≤_;omega,fun d hd=>?_,fun x hx=>w2 x (List.mem_of_mem_eraseIdx hx),w3⟩
    rcases List.mem_append.1 hd with hd|hd
    ·exact w1 d hd
    ·rw [List.mem_singleton.1 hd];exact w2 c hcm
   ·exact h.more
  ·split
   ·unfold wdRdy
    have hL:=h.L.leave h.E.all.1
    have hl:=rdy_len (allE W.es) W.ls W.B
    have hal:=Xc W.es
    have hll:(W.ls++lvL W.B (rdyF (allE W.es) W.ls W.B)).length=W.ls.length+(rdyF (allE W.es) W.ls W.B).length:=by
     unfold lvL
     rw [List.length_append,List.length_map]
    refine ⟨h.B,hL,h.E,by dsimp only;omega,by dsimp only;omega,⟨by dsimp only;omega,by dsimp only;omega⟩,by dsimp only;omega,by dsimp only;omega,w1,w2,fun y hy=>?_⟩
    rcases List.mem_append.1 hy with hy|hy
    ·exact w3 y hy
    ·obtain ⟨x,hx,rfl⟩:=List.mem_map.1 hy
     rcases Yj.1 hx with hx|hx
     ·exact h.E.all.2 x hx.1
     ·obtain ⟨d,i,-,-,-,rfl⟩:=XB hx.1
      exact Nat.zero_le _
   ·unfold wdTik
    obtain ⟨t1,t2⟩:=tkL_ok h.B.s0 (o.now.take 4) h.E
    have:(o.now.take 4).length≤4:=by rw [List.length_take];omega
    exact ⟨h.B,h.L,t1,by dsimp only;omega,by dsimp only;omega,⟨by dsimp only;omega,by dsimp only;omega⟩,by dsimp only;omega,by dsimp only;omega,h.wd⟩
theorem BkI.val {B:Bk} (h:BkI B):bval B=true:=by
 unfold bval
 simp only [Bool.and_eq_true,List.all_eq_true,decide_eq_true_eq]
 refine ⟨⟨⟨?_,fun d hd=>⟨(h.dr d hd).1,(h.dr d hd).2.1,(h.dq d hd).1,(h.dq d hd).2,h.dp d hd⟩⟩,h.oq⟩,h.un⟩
 by_cases h0:B.rd=0
 ·obtain ⟨h1,h2⟩:=h.rz h0
  simp [h1,h2]
 ·simp [h0]
section
theorem src_sl {α:Type} {T sz:Nat} {f:α→List Value} {o:Option Addr} {cap:Nat} {es:List α} (hf:∀e,(f e).length=sz) (hs:Sel (Sl T f o cap es) F F0):Src F R sz (.slice o es.length cap) es.length (es.flatMap f):=
 ⟨rfl,fun G w0 hp0 w hsat=>by
  obtain ⟨hp,hr,st⟩:=hsat
  obtain ⟨hc,rfl|⟨b,cs,fz,pre,post,rfl,hb,hcs⟩⟩:=st.f _ hs.mem
  ·cases o with
   | none=>rfl
   | some a=>
    show (loadCells a (0 * sz)).run prog w=_
    rw [Nat.zero_mul]
    unfold loadCells
    rfl
  ·have h:=st.inp _ _ hb
   show (loadCells ⟨b,pre.length,none⟩ (es.length * sz)).run prog w=_
   have hfl:(es.flatMap f).length=es.length * sz:=Za hf es
   have hsz:cs.size=pre.length+(es.length * sz+post.length):=by
    have:=congrArg List.length hcs
    simp only [Array.length_toList,List.length_append,hfl] at this
    exact this
   unfold loadCells
   rw [run_loadCells h pre.length (es.length * sz) 0 #[] (by omega)]
   have:((cs.toList.drop (pre.length+0)).take (es.length * sz))=es.flatMap f:=by
    rw [hcs,Nat.add_zero,List.drop_append_of_le_length (Nat.le_refl _),List.drop_length,List.nil_append,←hfl,List.take_append_of_le_length (Nat.le_refl _),List.take_length]
   rw [this];simp⟩
theorem flat_one {α:Type} {f:α→List Value} (h:∀e,(f e).all YR=true) (es:List α):(es.flatMap f).all YR=true:=by
 induction es with
 | nil=>rfl
 | cons a l ih=>rw [List.flatMap_cons,List.all_append,h a,ih];rfl
theorem l_appF {α:Type} {T sz bytes:Nat} {f:α→List Value} {o o2:Option Addr} {m cap m2 c:Nat} {xs:List Value} {es:List α} {ts tx:TypeId} {rs tr rx:TRow}
  (nx:∀o' cap',Wl n C ops.toArray k Q l ((d,.slice o' (m+es.length) cap')::E) F (Row T sz o' (m+es.length) cap' (xs++es.flatMap f)::R0))
  (hw:wantL ops E ⟨some d,.call ⟨.builtin .append,#[x,y],#[ts,tx]⟩,ty0,pos,aft,gd⟩=some true:=by rfl) (hn:Nat.blt d n=true:=by rfl) (hx:ev E x=some (.slice o m cap):=by rfl) (hy:ev E y=some (.slice o2 m2 c):=by rfl)
  (hts:lookT tab ts=some rs:=by rfl) (hrs:rs.k = .slice T:=by rfl) (hT:lookT tab T=some tr:=by rfl) (hsz:tr.size=sz:=by rfl) (hby:tr.bytes=bytes:=by rfl) (htx:lookT tab tx=some rx:=by rfl) (hnx:rx.k = .slice T:=by rfl)
  (hs:Sel (Sl T f o2 c es) F F0:=by (repeat (first|exact Sel.here|apply Sel.there));first|done|fail) (hrow:Sel (Row T sz o m cap xs) R R0:=by (repeat (first|exact Sel.here|apply Sel.there));first|done|fail) (hm2:m2=es.length:=by rfl)
  (hf:∀e,(f e).length=sz:=by intro;rfl) (hone:∀e,(f e).all YR=true:=by intro;rfl) (hb0:bytes≠0:=by decide) (hroom:(2 * (m+es.length)+200) * bytes≤281474976710656:=by simp<;>omega):Wl n C ops.toArray k Q (⟨some d,.call ⟨.builtin .append,#[x,y],#[ts,tx]⟩,ty0,pos,aft,gd⟩::l) E F R:=
 Zn (fun t ht=>by cases ht;exact Nat.le_of_ble_eq_true hn) (fun c hc=>by cases hc) hw fun a w ha hsat=>by
  subst hm2
  exact (Vu ha hx hy hts hrs hT hsz hby htx (.inl hnx) (src_sl (R:=R) hf hs) (Za hf es) (flat_one hone es) hroom hrow hsat hb0).mono fun v w' ⟨o',cap',hv,hs'⟩ a' ha'=>by
   subst hv;exact nx o' cap' a' w' ha' hs'
end
instance decNm:DecidableEq Nm:=fun a b=>decidable_of_iff (cmpO a b=0) (Wx a b)
structure Ch where
 nm:Nm
 val:ByteArray
 abs:Bool
def chf (c:Ch):List Value:=[.int .i64 c.nm.kind,.string c.nm.owner,.int .i64 c.nm.number,.int .i64 c.nm.index,.string c.nm.text,.string c.val,.bool c.abs]
def Ch.v (c:Ch):Value:=.agg #[.int .i64 c.nm.kind,.string c.nm.owner,.int .i64 c.nm.number,.int .i64 c.nm.index,.string c.nm.text,.string c.val,.bool c.abs]
def iv (i:Nat):Value:=.int .i64 (i:Int)
section
variable {α β:Type} [DecidableEq α]
end
def lastG:List Ch→Nat→List (Nm×Nat)→List (Nm×Nat)
 | [],_,m=>m
 | c::cs,i,m=>lastG cs (i+1) (mset c.nm i m)
def lastL (cs:List Ch):List (Nm×Nat):=lastG cs 0 []
def vcall (cs:List Ch) (n:Nm):Option Ch:=cs.reverse.find? fun c=>decide (c.nm=n)
def vget (es:Al) (cs:List Ch) (n:Nm):ByteArray×Bool:=
 if nchk n≠0 then (⟨#[]⟩,false) else match vcall cs n with
  | some c=>(c.val,!c.abs)
  | none=>((getO n es).getD ⟨#[]⟩,(getO n es).isSome)
def vread (es:Al) (rs:List (Nm×Ch)) (cs:List Ch) (n:Nm):List (Nm×Ch):=
 if nchk n≠0 then rs else match vcall cs n with
  | some _=>rs
  | none=>mset n ⟨n,(getO n es).getD ⟨#[]⟩,!(getO n es).isSome⟩ rs
def vset (cs:List Ch) (n:Nm) (v:ByteArray):Int×List Ch:=if nchk n≠0 then (12,cs) else if 65536<v.size then (5,cs) else (0,cs++[⟨n,v,false⟩])
def vdel (cs:List Ch) (n:Nm):Int×List Ch:=if nchk n≠0 then (12,cs) else (0,cs++[⟨n,⟨#[]⟩,true⟩])
section
variable {n:Nat} {C:Cx} {Q:Exit→Act→World→Prop} {E E':List (Nat×Value)} {F F' F1 Fs F0:List Pf} {R R' R0 Rs N N' A:List HP} {k k':List Fr} {ops l:List Oper} {L L':List (Nat×Nat)} {Tl:List Nat} {i d:Nat} {t ty0:TypeId} {x y z:Operand} {pos:String} {aft:Array Edge} {gd:Option (Nat×Bool)} {α β:Type} [DecidableEq α] {K:α→Value} {V:β→Value}
end
variable {L L':List (Nat×Nat)} {Tl:List Nat} {t2:TypeId}
section
variable {i:Nat} {z:Operand}
end
section
end
section
variable (b cap:Nat) (q:List Value×(Nat×Nat)) (fv:FuncId) (Fc:Pf) (c:Ch→Ch→Int) (W:Wk0 c) (U:Ch→Prop) (hcmp:∀x y,U x→U y→Enters fv∧Spec prog fv #[x.v,y.v] [Fc] [] (RetV (.int .i64 (c x y))))
include hcmp in
end
def drpS:Nat→List Fr→List Fr
 | m+1,.c (.seq _ b)::k=>drpS m (.c b::k)
 | _,k=>k
section
theorem XJ {Y:Type} {c2:Code} {k2:List Fr} (m:Nat) (mE:Y→List (Nat×Value)) (mF:Y→List Pf) (mR:Y→List HP) (t2:∀y,Wk n C (.c c2::k2) Q (mE y) (mF y) (mR y)) (t:(∀y,Wk n C (.c c2::k2) Q (mE y) (mF y) (mR y))→Wk n C k Q E F R) (_h:drpS m k = .c c2::k2:=by rfl):Wk n C k Q E F R:=t t2
theorem Wf (t:Wk n C k Q E F R):Wk n C (.c .skip::k) Q E F R:=fun a w ha hs=>YQ 1 (.c .skip::k) (t a w ha hs)
theorem k_nf (t:Wk n C (nf 1000 k) Q E F R):Wk n C k Q E F R:=fun a w ha hs=>YQ 1000 k (t a w ha hs)
end
section
end
def LenP (u c:Nat):Bool:=Nat.ble c 8 && (Nat.blt u (2 ^ c) && (Nat.ble (2 ^ c) (2 * u) || Nat.beq u 0))
section
variable {i:Nat}
theorem Yc {T sz m cap:Nat} {z:Int} {rs tr:TRow} (j:Nat) (hlt:j<m) (nx:Wr n C ops k Q Tl Fs R L ((d,.pointer (some ⟨b,j * sz,none⟩))::E) F N)
  (ho:nth ops i=some ⟨some d,.indexAddr t x y,ty0,pos,aft,gd⟩:=by rfl) (hw:wantL ops E ⟨some d,.indexAddr t x y,ty0,pos,aft,gd⟩=some true:=by rfl) (hx:ev E x=some (.slice (some ⟨b,0,none⟩) m cap):=by rfl) (hy:ev E y=some (.int .i64 z):=by rfl)
  (hts:lookT tab t=some rs:=by rfl) (hrs:rs.k = .slice T:=by rfl) (hT:lookT tab T=some tr:=by rfl) (hsz:tr.size=sz:=by rfl) (hz:z=(j:Int):=by first|rfl|omega|(simp (disch:=omega) only [wrapi];first|done|omega|fail)):Wr n C ops k Q Tl Fs R ((i,0)::L) E F N:=
 r_ixP j hlt nx ho hw hx hy hts hrs hT hsz hz
end
section
variable (bk cap:Nat) (q:List Value×(Nat×Nat)) (fv:FuncId) (Fc:Pf) (c:Ch→Ch→Int) (W:Wk0 c) (U:Ch→Prop) (hcmp:∀x y,U x→U y→Enters fv∧Spec prog fv #[x.v,y.v] [Fc] [] (RetV (.int .i64 (c x y))))
instance inhC:Inhabited Ch:=⟨⟨⟨0,⟨#[]⟩,0,0,⟨#[]⟩⟩,⟨#[]⟩,false⟩⟩
include hcmp in
include hcmp in
include hcmp in
include hcmp in
end
section
variable (bk cap:Nat) (q:List Value×(Nat×Nat)) (fv:FuncId) (Fc:Pf) (c:Ch→Ch→Int) (W:Wk0 c) (U:Ch→Prop) (hcmp:∀x y,U x→U y→Enters fv∧Spec prog fv #[x.v,y.v] [Fc] [] (RetV (.int .i64 (c x y))))
include hcmp W in
end
section
variable (bk cap:Nat) (q:List Value×(Nat×Nat)) (fv:FuncId) (Fc:Pf) (c:Ch→Ch→Int) (W:Wk0 c) (U:Ch→Prop) (hcmp:∀x y,U x→U y→Enters fv∧Spec prog fv #[x.v,y.v] [Fc] [] (RetV (.int .i64 (c x y))))
include hcmp W in
end
section
variable {α:Type} [Inhabited α] {a b i j:Nat} {P:α} {A:α→Prop} {l m:List α}
structure Pin (A:α→Prop) (a b i j:Nat) (P:α) (l m:List α):Prop where
 w:Win a b l m
 h1:a<i
 h2:i≤j+1
 h3:j<b
 pa:gt m a=P
 lo:∀k,a<k→k<i→A (gt m k)
 hi:∀k,j<k→k<b→¬A (gt m k)
theorem Pin.init {p:Nat} (hp1:a≤p) (hp2:p<b) (hb:b≤l.length) (h:a+1<b):Pin A a b (a+1) (b - 1) (gt l p) l (sw l a p) where
 w:=Win.sw (Nat.le_refl _) (by omega) hp1 hp2 hb
 h1:=by omega
 h2:=by omega
 h3:=by omega
 pa:=by
  rw [WD (by omega) (by omega)]
  split
  ·rename_i h;rw [h]
  ·rw [if_pos rfl]
 lo:=fun k h1 h2=>by omega
 hi:=fun k h1 h2=>by omega
theorem Pin.sw (h:Pin A a b i j P l m) (hb:b≤l.length) (hij:i<j) (hi:¬A (gt m i)) (hj:A (gt m j)):Pin A a b (i+1) (j - 1) P l (sw m i j):=by
 have h1:=h.h1
 have h3:=h.h3
 have hl:=h.w.len
 have g:=fun k=>WD (l:=m) (i:=i) (j:=j) (k:=k) (by omega) (by omega)
 refine ⟨h.w.trans (Win.sw (by omega) (by omega) (by omega) h3 (by omega)),by omega,by omega,by omega,?_,fun k k1 k2=>?_,fun k k1 k2=>?_⟩
 ·rw [g,if_neg (by omega),if_neg (by omega)];exact h.pa
 ·rw [g,if_neg (by omega)]
  by_cases hk:k=i
  ·rw [if_pos hk];exact hj
  ·rw [if_neg hk];exact h.lo k k1 (by omega)
 ·rw [g]
  by_cases hk:k=j
  ·rw [if_pos hk];exact hi
  ·rw [if_neg hk,if_neg (by omega)];exact h.hi k (by omega) k2
theorem Pin.ne (_h:Pin A a b i j P l m) (hij:i≤j) (hi:¬A (gt m i)) (hj:A (gt m j)):i<j:=by
 by_cases he:i=j
 ·rw [he] at hi;exact absurd hj hi
 ·omega
theorem Pin.part {c:α→α→Int} (h:Pin (fun x=>c x P<0) a b i j P l m) (hb:b≤l.length) (hij:j<i):Win a b l (Go.Proofs.YtcjfciifhdfjkaaGreatDoor.sw m j a)∧Pt0 c a b j (Go.Proofs.YtcjfciifhdfjkaaGreatDoor.sw m j a):=by
 have h1:=h.h1
 have h2:=h.h2
 have h3:=h.h3
 have hl:=h.w.len
 have g:=fun k=>WD (l:=m) (i:=j) (j:=a) (k:=k) (by omega) (by omega)
 have gj:gt (Go.Proofs.YtcjfciifhdfjkaaGreatDoor.sw m j a) j=P:=by
  rw [g]
  by_cases hja:j=a
  ·rw [if_pos hja,hja];exact h.pa
  ·rw [if_neg hja,if_pos rfl];exact h.pa
 refine ⟨h.w.trans (Win.sw (by omega) h3 (Nat.le_refl _) (by omega) (by omega)),by omega,h3,fun k k1 k2=>?_,fun k k1 k2=>?_⟩
 ·rw [gj,g]
  by_cases hka:k=a
  ·rw [if_pos hka];exact h.lo j (by omega) (by omega)
  ·rw [if_neg hka,if_neg (by omega)];exact h.lo k (by omega) (by omega)
 ·rw [gj,g,if_neg (by omega),if_neg (by omega)];exact h.hi k k1 k2
variable {c:α→α→Int} {l' m1 m2:List α}
theorem Sw.snoc (W:Wk0 c) (h:Sw c a i m) (hai:a<i) (hc:¬c (gt m i) (gt m (i - 1))<0):Sw c a (i+1) m:=fun p q h1 h2 h3=>by
 by_cases hq:q=i
 ·subst hq
  by_cases hp:p=q - 1
  ·rw [hp];exact hc
  ·exact W.t _ _ _ (h p (q - 1) h1 (by omega) (by omega)) hc
 ·exact h p q h1 h2 (by omega)
def Lsh (c:α→α→Int) (a i j:Nat) (m:List α):Prop:=∀p q,a≤p→p<q→q<i→q≠j→¬c (gt m q) (gt m p)<0
theorem Lsh.init (h:Sw c a i m) (hi:i<m.length) (_ha:a<i):Lsh c a i (i - 1) (Go.Proofs.YtcjfciifhdfjkaaGreatDoor.sw m i (i - 1)):=fun p q h1 h2 h3 h4=>by
 rw [WD hi (by omega),WD hi (by omega),if_neg (by omega),if_neg (by omega),if_neg (by omega),if_neg (by omega)]
 exact h p q h1 h2 (by omega)
theorem Lsh.step (W:Wk0 c) (h:Lsh c a i j m) (ha:a<j) (hj:j<i) (hi:i≤m.length) (hc:c (gt m j) (gt m (j - 1))<0):Lsh c a i (j - 1) (Go.Proofs.YtcjfciifhdfjkaaGreatDoor.sw m j (j - 1)):=fun p q h1 h2 h3 h4=>by
 have g:=fun k=>WD (l:=m) (i:=j) (j:=j - 1) (k:=k) (by omega) (by omega)
 rw [g p,g q,if_neg h4]
 by_cases hq:q=j
 ·subst hq
  rw [if_pos rfl]
  by_cases hp:p=q - 1
  ·rw [if_pos hp];exact W.a _ _ hc
  ·rw [if_neg hp,if_neg (by omega)]
   exact h p (q - 1) h1 (by omega) (by omega) (by omega)
 ·rw [if_neg hq]
  by_cases hp:p=j - 1
  ·rw [if_pos hp]
   exact h j q (by omega) (by omega) h3 (by omega)
  ·rw [if_neg hp]
   by_cases hp2:p=j
   ·rw [if_pos hp2]
    exact h (j - 1) q (by omega) (by omega) h3 (by omega)
   ·rw [if_neg hp2]
    exact h p q h1 h2 h3 (by omega)
theorem Sw.out (h:Sw c a i m1) (hw:Win i b m1 m2):Sw c a i m2:=fun p q h1 h2 h3=>by
 rw [hw.out p (by omega),hw.out q (by omega)]
 exact h p q h1 h2 h3
end
section
variable (bk cap:Nat) (q:List Value×(Nat×Nat)) (fv:FuncId) (Fc:Pf) (c:Ch→Ch→Int) (W:Wk0 c) (U:Ch→Prop) (hcmp:∀x y,U x→U y→Enters fv∧Spec prog fv #[x.v,y.v] [Fc] [] (RetV (.int .i64 (c x y))))
include hcmp in
include hcmp W in
end
section
variable (bk cap:Nat) (q:List Value×(Nat×Nat)) (fv:FuncId) (Fc:Pf) (c:Ch→Ch→Int) (W:Wk0 c) (U:Ch→Prop) (hcmp:∀x y,U x→U y→Enters fv∧Spec prog fv #[x.v,y.v] [Fc] [] (RetV (.int .i64 (c x y))))
include hcmp W in
end
section
variable (bk cap:Nat) (q:List Value×(Nat×Nat)) (fv:FuncId) (Fc:Pf) (c:Ch→Ch→Int) (W:Wk0 c) (U:Ch→Prop) (hcmp:∀x y,U x→U y→Enters fv∧Spec prog fv #[x.v,y.v] [Fc] [] (RetV (.int .i64 (c x y))))
include hcmp W in
include hcmp W in
end

def cmpC (a b:Ch):Int:=cmpO a.nm b.nm
theorem Spec.more {P:Program} {f:FuncId} {args:Array Value} {F:List Pf} {R:List HP} {post:Post} (h:Spec P f args [] R post):Spec P f args F R post:=fun G w hp hs=>
 (h G w hp (hs.facts fun _ _ _ hx=>by cases hx))
def Ch.z:Ch:=⟨⟨0,⟨#[]⟩,0,0,⟨#[]⟩⟩,⟨#[]⟩,false⟩
def chAt (cs:List Ch) (p:Nm×Nat):Ch:=(cs[p.2]?).getD Ch.z
def insC (c:Ch):List Ch→List Ch
 | []=>[c]
 | d::l=>if cmpC c d<0 then c::d::l else d::insC c l
def srtC (l:List Ch):List Ch:=l.foldr insC []
def vwr (cs:List Ch):List Ch:=srtC ((lastL cs).map (chAt cs))
section
variable {i:Nat}
def IterU {α:Type} (gf:FuncId) (lb:List Value) (enc:α→Value) (Ok All:List α→Prop) (Fg:List Pf) (A A':List HP):Prop:=
 ∀(v:Value) (Y:Pf) (I Ix:List α→HP),(∀pre e,Ok (pre++[e])→SpecV v [enc e] [Y] [I pre] (YPost I Ix pre e))→
  Enters gf∧Spec prog gf (v::lb).toArray (Y::Fg) (I []::A) ⟨Option (List α)×List α,fun _=>.tuple #[],fun r=>match r.1 with|none=>All r.2|some _=>True,fun _=>[],fun r=>(match r.1 with|none=>I r.2|some pre=>Ix pre)::A'⟩
end
abbrev chv (p:Nm×Ch):Value:=p.2.v
def OkP {γ:Type} (m pre:List γ):Prop:=∃rest,(pre++rest).Perm m
theorem entF_app:∀(F1 F0:List Pf),EntF (F0++F1) F1
 | [],_=>trivial
 | f::F1,F0=>⟨by
   induction F0 with
   | nil=>exact ⟨_,.here⟩
   | cons g F0 ih=>obtain ⟨F',s⟩:=ih;exact ⟨_,.there s⟩,by
   have:=entF_app F1 (F0++[f])
   rwa [List.append_assoc,List.singleton_append] at this⟩
theorem entF_self (F:List Pf):EntF F F:=by simpa using entF_app F []
structure RdOK (rs:List (Nm×Ch)):Prop where
 nd:(rs.map (·.1)).Nodup
 nm:∀p ∈ rs,p.2.nm=p.1
 sz:∀p ∈ rs,p.1.owner.size≤1099511627770
def vrd (rs:List (Nm×Ch)):List Ch:=srtC (rs.map (·.2))
section
def less (G:H) (b:Nat):H:=fun c=>if c=b then none else G c
theorem WT (G:H) (b:Nat):Sub (less G b) G:=fun c o e=>by
 unfold less at e
 split at e
 ·cases e
 ·exact e
theorem Vp {G:H} {b c:Nat} (h:c≠b):less G b c=G c:=by unfold less;rw [if_neg h]
theorem less_eq (G:H) (b:Nat):less G b b=none:=by unfold less;rw [if_pos rfl]
theorem Sat.lend {G:H} {w0 w:World} {hp0:H} {F:List Pf} {R:List HP} {b:Nat} {o:Obj} (hG:G b=some o) (h:Sat G w0 hp0 F R w) :
  ∃hp1,Sat (less G b) w hp1 (Blk b o::F) R w∧∀F' R' w',Sat (less G b) w hp1 F' R' w'→Sat G w0 hp0 F R' w':=by
 obtain ⟨hp,hr,t⟩:=h
 have hpb:hp b=none:=by
  rcases t.d2 b with h|h
  ·exact h
  ·rw [hG] at h;cases h
 have hrb:hr b=none:=by
  rcases t.d3 b with h|h
  ·exact h
  ·rw [hG] at h;cases h
 have hs1:Sub hp (un hp (one b o)):=ZL _ _
 have e1:un hp (one b o) b=some o:=by unfold un one;simp [hpb]
 refine ⟨un hp (one b o),⟨un hp (one b o),hr,In.un t.inp (fun c x e=>?_),t.inr,t.ing.sub (WT G b),Zh.2 ⟨t.d1,fun c=>?_⟩,Zh.2 ⟨(t.d2.symm.sub (WT G b)).symm,fun c=>?_⟩,(t.d3.symm.sub (WT G b)).symm,Sub.refl _,fun x hx=>?_,t.r,Same.refl _⟩,fun F' R' w' hs=>?_⟩
 ·unfold one at e
  split at e
  ·rename_i hc;subst hc;cases e;exact t.ing _ _ hG
  ·cases e
 ·by_cases hc:c=b
  ·subst hc;exact .inr hrb
  ·exact .inl (by unfold one;simp [hc])
 ·by_cases hc:c=b
  ·subst hc;exact .inr (less_eq _ _)
  ·exact .inl (by unfold one;simp [hc])
 ·rcases List.mem_cons.1 hx with rfl|hx
  ·exact e1
  ·exact x.m _ _ hs1 (t.f x hx)
 ·obtain ⟨hp',hr',t'⟩:=hs
  have hb':hp' b=some o:=t'.sub b o e1
  have hrb':hr' b=none:=by
   rcases t'.d1 b with h|h
   ·rw [hb'] at h;cases h
   ·exact h
  have hs2:Sub hp (less hp' b):=fun c x e=>by
   have hc:c≠b:=fun h=>by subst h;rw [hpb] at e;cases e
   rw [Vp hc]
   exact t'.sub c x (hs1 c x e)
  refine ⟨less hp' b,hr',t'.inp.sub (WT _ _),t'.inr,fun c x e=>?_,t'.d1.sub (WT _ _),fun c=>?_,fun c=>?_,t.sub.trans hs2,fun x hx=>x.m _ _ hs2 (t.f x hx),t'.r,t.same.trans t'.same⟩
  ·by_cases hc:c=b
   ·subst hc;rw [hG] at e;cases e;exact t'.inp _ _ hb'
   ·exact t'.ing c x (by rw [Vp hc];exact e)
  ·by_cases hc:c=b
   ·subst hc;exact .inl (less_eq _ _)
   ·rw [Vp hc]
    rcases t'.d2 c with h|h
    ·exact .inl h
    ·rw [Vp hc] at h;exact .inr h
  ·by_cases hc:c=b
   ·subst hc;exact .inl hrb'
   ·rcases t'.d3 c with h|h
    ·exact .inl h
    ·rw [Vp hc] at h;exact .inr h
variable {i:Nat} {o:Obj}
end

structure FitC (c:Ch):Prop where
 ok:nchk c.nm=0
 val:c.val.size≤65536
 abs:c.abs=false
 own:c.nm.owner.size≤1099511627770
 txt:c.nm.text.size≤1099511627776
def applyE (es:Al) (l:List Ch):Al:=l.foldl (fun es c=>insO c.nm c.val es) es
structure Ct where
 b:Int
 o:Int
 c:Int
 deriving DecidableEq
def Ct.v (c:Ct):Value:=.agg #[.int .i64 c.b,.int .i64 c.o,.int .i64 c.c]
def Ct.z:Ct:=⟨0,0,0⟩
structure CtOK (c:Ct):Prop where
 b0:0≤c.b
 b1:c.b≤1048576
 o0:0≤c.o
 o1:c.o≤1048576
 c0:0≤c.c
 c1:c.c≤1048576
def cenc (c:Ct):List UInt8:=venc c.b.toNat++venc c.o.toNat++venc c.c.toNat
def cchk (c:Ct):Int:=if 0≤c.b∧c.b≤1048576∧0≤c.o∧c.o≤1048576∧0≤c.c∧c.c≤1048576 then 0 else 2
def cread (s:RS):Ct×RS:=
 let (b,s1):=rnum s 1048576
 let (o,s2):=rnum s1 1048576
 let (c,s3):=rnum s2 1048576
 (⟨b,o,c⟩,s3)
def cdec (s:ByteArray):Option Ct:=
 let r:=cread ⟨s.data.toList,0,0⟩
 if r.2.err=0∧r.2.rest=[] then some r.1 else none
def cnm (who:ByteArray):Nm:=⟨5,who,0,0,⟨#[]⟩⟩
def madeE (es:Al) (cs:List Ch) (who:ByteArray):Ct×Int:=
 if lvalid who.data.toList then (if (vget es cs (cnm who)).2 then ((cdec (vget es cs (cnm who)).1).getD Ct.z,if (cdec (vget es cs (cnm who)).1).isSome then 0 else 3) else (Ct.z,0)) else (Ct.z,12)
def madeR (es:Al) (rs:List (Nm×Ch)) (cs:List Ch) (who:ByteArray):List (Nm×Ch):=if lvalid who.data.toList then vread es rs cs (cnm who) else rs
structure Ino where
 kd:Int
 ow:Int
 gr:Int
 md:Int
 sz:Int
 lk:Int
 tg:ByteArray
 deriving DecidableEq
def inf (n:Ino):List Value:=[.int .i64 n.kd,.int .i64 n.ow,.int .i64 n.gr,.int .i64 n.md,.int .i64 n.sz,.int .i64 n.lk,.string n.tg]
def Ino.v (n:Ino):Value:=.agg #[.int .i64 n.kd,.int .i64 n.ow,.int .i64 n.gr,.int .i64 n.md,.int .i64 n.sz,.int .i64 n.lk,.string n.tg]
def Ino.z:Ino:=⟨0,0,0,0,0,0,⟨#[]⟩⟩
def badt (c:UInt8):Bool:=decide ((c.toNat:Int)<32) || ((c.toNat:Int) == 127)
def tchk (s:ByteArray):Int:=if isE s then 4 else if 256<s.size then 5 else if s.data.toList.any badt then 6 else 0
def ifit (n:Ino):Prop:=0≤n.ow∧n.ow≤65535∧0≤n.gr∧n.gr≤65535∧0≤n.md∧n.md≤2047∧0≤n.sz∧n.sz≤4096∧0≤n.lk∧n.lk≤1000
instance (n:Ino):Decidable (ifit n):=by unfold ifit;infer_instance
def ichk (n:Ino):Int:=
 if n.kd<1∨3<n.kd then 11
 else if ¬ifit n then 2
 else if (n.kd≠1∧n.sz≠0)∨(n.kd≠3∧isE n.tg=false) then 3
 else if n.kd≠3 then 0
 else tchk n.tg
def ienc (n:Ino):List UInt8:=([n.kd,n.ow,n.gr,n.md,n.sz,n.lk].flatMap fun z=>venc z.toNat)++venc n.tg.size++n.tg.data.toList
def iencS (n:Ino):ByteArray:=if ichk n=0 then ⟨(ienc n).toArray⟩ else ⟨#[]⟩
def iread (s:RS):Ino×RS:=
 let (a1,s1):=rnum s 3
 let (a2,s2):=rnum s1 65535
 let (a3,s3):=rnum s2 65535
 let (a4,s4):=rnum s3 2047
 let (a5,s5):=rnum s4 4096
 let (a6,s6):=rnum s5 1000
 let (a7,s7):=rtext s6 256
 (⟨a1,a2,a3,a4,a5,a6,a7⟩,s7)
def idec (s:ByteArray):Option Ino:=
 let r:=iread ⟨s.data.toList,0,0⟩
 if r.2.err=0∧r.2.rest=[]∧ichk r.1=0 then some r.1 else none
theorem Spec.ex {P:Program} {f:FuncId} {args:Array Value} {F:List Pf} {R:List HP} {post:Post} {X:Type} {r:HP} {Lx:X→List HP} {p:X→Prop} (h:∀hh,r hh→∃x,p x∧Sep (Lx x) hh) (t:∀x,p x→Spec P f args F (Lx x++R) post):Spec P f args F (r::R) post:=fun G w hp hs=>by
 obtain ⟨⟨x,hx⟩,h1⟩:=hs.open' (X:={x // p x}) (L:=fun x=>Lx x.1) fun hh hr=>let ⟨x,h1,h2⟩:=h hh hr;⟨⟨x,h1⟩,h2⟩
 exact t x hx G w hp h1
abbrev WtL (b:Nat) (o:Option Addr) (cap:Nat) (e:Int) (bs:List UInt8):List HP:=[Pt b (.cells #[.slice o bs.length cap,.int .i64 e] 191),Row 5 1 o bs.length cap (byt bs)]
def WtA (b k:Nat):HP:=fun h=>∃q:(Option Addr×Nat)×Int×List UInt8,q.2.2.length≤k∧Sep (WtL b q.1.1 q.1.2 q.2.1 q.2.2) h
def BtA (b k:Nat):Post:=⟨(Option Addr×Nat×Nat)×Int,fun q=>.tuple #[.slice q.1.1 q.1.2.1 q.1.2.2,.int .i64 q.2],fun _=>True,fun _=>[],fun _=>[WtA b k]⟩
section
variable {i:Nat}
theorem run_scut {s:ByteArray} {z:Int} {rs:TRow} {w:World} (hi:Nat) (hle:hi≤s.size) (hts:lookT tab t=some rs) (hrs:rs.k = .str) (hz:z=(hi:Int)):(Instr.sliceAt t (.string s) none (some (.int .i64 z)) none).run prog w = .ok (.string (s.extract 0 hi)) w:=by
 subst hz
 have hu:=XD (w:=w) hts hrs
 have hb:(Instr.sliceBound (.int .i64 (hi:Int)) s.size .sliceAlen).run prog w = .ok hi w:=by
  simp only [Instr.sliceBound,asIntOf,Sem.run_bind,Sem.run_pure,Result.andThen]
  rw [if_pos ⟨by omega,by omega⟩]
  simp
 simp [Instr.sliceAt,Instr.slice,Instr.sliceBounds,Sem.run_bind,hu,Result.andThen,hb]
theorem minS (m j:Nat):(if (j:Int)<(m:Int) then (j:Int) else (m:Int))=((min m j:Nat):Int):=by split<;>omega
def cutS (s:ByteArray) (m:Nat):ByteArray:=s.extract 0 (min s.size m)
theorem l_cutS {s:ByteArray} {z:Int} {rs:TRow} (hi:Nat) (nx:Wl n C ops.toArray k Q l ((d,.string (cutS s hi))::E) F R)
  (hw:wantL ops E ⟨some d,.slice t x none (some y) none,ty0,pos,aft,gd⟩=some true:=by rfl) (hn:Nat.blt d n=true:=by rfl) (hx:ev E x=some (.string s):=by rfl) (hy:ev E y=some (.int .i64 z):=by rfl)
  (hts:lookT tab t=some rs:=by rfl) (hrs:rs.k = .str:=by rfl) (hz:z=(if (hi:Int)<(s.size:Int) then (hi:Int) else (s.size:Int)):=by rfl):Wl n C ops.toArray k Q (⟨some d,.slice t x none (some y) none,ty0,pos,aft,gd⟩::l) E F R:=
 l_q (fun a w ha=>by
  simp only [execOp,Option.map_some,Option.map_none,ha.ev (x:=x) (by rw [ZF];exact hx),ha.ev (x:=y) (by rw [ZF];exact hy),Sem.run_bind,run_scut (w:=w) (min s.size hi) (Nat.min_le_left _ _) hts hrs (hz.trans (minS _ _)),Result.andThen,Sem.run_pure,cutS]) nx (by intro c h;cases h) hw hn
end
def By (T b:Nat) (L:List UInt8):HP:=Pt b (.cells (byt L).toArray T (0,0))
def cpy (L:List UInt8) (off:Nat) (s:ByteArray) (dl:Nat):List UInt8:=L.take off++s.data.toList.take (min s.size dl)++L.drop (off+min s.size dl)
section
variable {i:Nat}
theorem run_send {s:ByteArray} {z:Int} {rs:TRow} {w:World} (lo:Nat) (hle:lo≤s.size) (hts:lookT tab t=some rs) (hrs:rs.k = .str) (hz:z=(lo:Int)):(Instr.sliceAt t (.string s) (some (.int .i64 z)) none none).run prog w = .ok (.string (s.extract lo s.size)) w:=by
 subst hz
 have hu:=XD (w:=w) hts hrs
 have hb:(Instr.sliceBound (.int .i64 (lo:Int)) s.size .sliceB).run prog w = .ok lo w:=by
  simp only [Instr.sliceBound,asIntOf,Sem.run_bind,Sem.run_pure,Result.andThen]
  rw [if_pos ⟨by omega,by omega⟩]
  simp
 simp [Instr.sliceAt,Instr.slice,Instr.sliceBounds,Sem.run_bind,hu,Result.andThen,hb]
def arv (Lb:List UInt8):Value:=.agg (byt Lb).toArray
end
theorem bdInfo:∃j,prog.info? 205=some j∧j.size=2:=by
 obtain ⟨j,h1,h2⟩:=Option.map_eq_some_iff.1 (show (prog.info? 205).map (·.size)=some 2 by kernel_rfl)
 exact ⟨j,h1,h2⟩
theorem bdLies:liesAt prog prog.depth 205 (2 / prog.cellsOf 205) 0 205 1=true:=by kernel_rfl
theorem u8Cells:prog.cellsOf 5=1:=by kernel_rfl
section
variable {i:Nat} {z:Operand}
theorem l_nepB {a:Addr} (nx:Wl n C ops.toArray k Q l ((d,.bool false)::E) F R) (hw:wantL ops E ⟨some d,.binOp .neq 203 x y t2,ty0,pos,aft,gd⟩=some true:=by rfl) (hn:Nat.blt d n=true:=by rfl)
  (hx:ev E x=some (.pointer (some a)):=by rfl) (hy:ev E y=some (.pointer (some a)):=by rfl):Wl n C ops.toArray k Q (⟨some d,.binOp .neq 203 x y t2,ty0,pos,aft,gd⟩::l) E F R:=
 l_q (fun ac w ha=>by
  obtain ⟨j,h1,h2⟩:=bdInfo
  have hg:(eqGuard .neq 203 x y (.pointer (some a)) (.pointer (some a))).run prog w = .ok () w:=by simp [eqGuard]
  have hb:=Lib.run_neq_ptr_same (P:=prog) w a underlying203 h1
  simp only [execOp,ha.ev (x:=x) (by rw [ZF];exact hx),ha.ev (x:=y) (by rw [ZF];exact hy),Sem.run_bind,hg,Result.andThen,hb,Sem.run_pure]) nx (by intro c h;cases h) hw hn
theorem l_toU {b:Nat} {cs:Array Value} (nx:Wl n C ops.toArray k Q l ((d,.pointer (some ⟨b,0,none⟩))::E) F R) (hw:wantL ops E ⟨some d,.convert 203 274 x,ty0,pos,aft,gd⟩=some true:=by rfl) (hn:Nat.blt d n=true:=by rfl)
  (hx:ev E x=some (.pointer (some ⟨b,0,none⟩)):=by rfl) (hs:Sel (Pt b (.cells cs 205 (0,0))) R R0:=by (repeat (first|exact Sel.here|apply Sel.there));first|done|fail) (hc:cs.size=2:=by rfl):Wl n C ops.toArray k Q (⟨some d,.convert 203 274 x,ty0,pos,aft,gd⟩::l) E F R:=
 Zn (fun t ht=>by cases ht;exact Nat.le_of_ble_eq_true hn) (fun c hc=>by cases hc) hw fun a w ha hsat=>by
  obtain ⟨j,h1,h2⟩:=bdInfo
  have hb:=hsat.pt hs
  have hsh:w.shape? b=some (205,2):=by simp [World.shape?,hb,hc]
  have hr:=Lib.run_to_unsafe (P:=prog) w ⟨b,0,none⟩ underlying203 underlying274 h1 (by rw [h2];decide) hsh (show 0<2 by decide)
  unfold OpRes
  simp only [execOp,ha.ev (x:=x) (by rw [ZF];exact hx),Sem.run_bind,Result.andThen,hr,Sem.run_pure]
  exact fun a' ha'=>nx a' w ha' hsat
theorem l_fromU {b:Nat} {cs:Array Value} (nx:Wl n C ops.toArray k Q l ((d,.pointer (some ⟨b,0,none⟩))::E) F R) (hw:wantL ops E ⟨some d,.convert 274 203 x,ty0,pos,aft,gd⟩=some true:=by rfl) (hn:Nat.blt d n=true:=by rfl)
  (hx:ev E x=some (.pointer (some ⟨b,0,none⟩)):=by rfl) (hs:Sel (Pt b (.cells cs 205 (0,0))) R R0:=by (repeat (first|exact Sel.here|apply Sel.there));first|done|fail) (hc:cs.size=2:=by rfl):Wl n C ops.toArray k Q (⟨some d,.convert 274 203 x,ty0,pos,aft,gd⟩::l) E F R:=
 Zn (fun t ht=>by cases ht;exact Nat.le_of_ble_eq_true hn) (fun c hc=>by cases hc) hw fun a w ha hsat=>by
  obtain ⟨j,h1,h2⟩:=bdInfo
  have hb:=hsat.pt hs
  have hsh:w.shape? b=some (205,2):=by simp [World.shape?,hb,hc]
  have hr:=Lib.run_from_unsafe (P:=prog) w ⟨b,0,none⟩ underlying274 underlying203 h1 hsh bdLies
  unfold OpRes
  simp only [execOp,ha.ev (x:=x) (by rw [ZF];exact hx),Sem.run_bind,Result.andThen,hr,Sem.run_pure]
  exact fun a' ha'=>nx a' w ha' hsat
theorem run_callX {f:FuncId} {args:Array Operand} {tys:Array TypeId} {vs:List Value} {v:Value} (hf:∀w,(callFunc f vs.toArray).run prog w = .ok (.value v) w) (hargs:evs (ev E) args.toList some=some vs) {a:Act} {ds:List Deferred} (ha:Agree n ds (look E) a) (w:World) (dst:Option Tmp) :
  (execOp a.eval ⟨dst,.call ⟨.value (.func f),args,tys⟩,ty0,pos,aft,gd⟩).run prog w = .ok (.value v) w:=by
 obtain ⟨us,_,h2,h3⟩:=X3 _ _ _ hargs
 obtain rfl:=Option.some.inj h2
 have e1:=h3 a.eval fun x _ u hu=>ha.ev (by rw [ZF];exact hu)
 have e3:args.map a.eval=us.toArray:=by rw [←Array.toList_inj];simpa using e1
 simp only [execOp,resolve,Deferred.ofValue,Act.eval,Sem.run_bind,Sem.run_pure,Result.andThen,invoke]
 have e4:(args.map fun x=>a.eval x)=us.toArray:=e3
 simp only [Act.eval] at e4
 rw [show (#[]:Array Value)++Array.map _ args++#[]=us.toArray by rw [←e3];simp]
 exact hf w
theorem l_noesc {v:Value} {args:Array Operand} {tys:Array TypeId} (nx:Wl n C ops.toArray k Q l ((d,v)::E) F R) (hw:wantL ops E ⟨some d,.call ⟨.value (.func 181),args,tys⟩,ty0,pos,aft,gd⟩=some true:=by rfl) (hn:Nat.blt d n=true:=by rfl)
  (hargs:evs (ev E) args.toList some=some [v]:=by rfl):Wl n C ops.toArray k Q (⟨some d,.call ⟨.value (.func 181),args,tys⟩,ty0,pos,aft,gd⟩::l) E F R:=
 Zn (fun t ht=>by cases ht;exact Nat.le_of_ble_eq_true hn) (fun c hc=>by cases hc) hw fun a w ha hsat=>by
  have hc:∀w,(callFunc 181 [v].toArray).run prog w = .ok (.value v) w:=fun w=>by
   rw [run_callFunc_extern func181 (by kernel_rfl) (by kernel_rfl) (by kernel_rfl) (e:=Extern.AbiNoEscape.same) (by kernel_rfl),Lib.run_noEscape]
   rfl
  unfold OpRes
  rw [run_callX hc hargs ha w]
  exact fun a' ha'=>nx a' w ha' hsat
theorem r_usd {o:Option Addr} {m c:Nat} {tys:Array TypeId} (nx:Wr n C ops k Q Tl Fs R L ((d,.pointer o)::E) F N)
  (ho:nth ops i=some ⟨some d,.call ⟨.builtin .unsafeSliceData,#[x],tys⟩,ty0,pos,aft,gd⟩:=by rfl) (hw:wantL ops E ⟨some d,.call ⟨.builtin .unsafeSliceData,#[x],tys⟩,ty0,pos,aft,gd⟩=some true:=by rfl) (hx:ev E x=some (.slice o m c):=by rfl) (hc:o=none∨c≠0):Wr n C ops k Q Tl Fs R ((i,0)::L) E F N:=
 r_q (fun a w ha=>by
  have e1:=ha.ev (x:=x) (by rw [ZF];exact hx)
  have hr:(Builtin.unsafeSliceData_ tys ty0 #[.slice o m c]).run prog w = .ok (.pointer o) w:=by
   rcases hc with rfl|hc
   ·exact Lib.run_unsafeSliceData_nil (P:=prog) w tys ty0 m c
   ·cases o with
    | none=>exact Lib.run_unsafeSliceData_nil (P:=prog) w tys ty0 m c
    | some a=>exact Lib.run_unsafeSliceData_row (P:=prog) w tys ty0 a m c hc
  simp only [execOp,resolve,Sem.run_bind,Sem.run_pure,Result.andThen,invoke,builtin,List.map_toArray,List.map_cons,List.map_nil,e1,hr]) nx ho hw
theorem r_ust0 {o:Option Addr} {pt it:TypeId} (nx:Wr n C ops k Q Tl Fs R L ((d,.string ⟨#[]⟩)::E) F N)
  (ho:nth ops i=some ⟨some d,.call ⟨.builtin .unsafeString,#[x,y],#[pt,it]⟩,ty0,pos,aft,gd⟩:=by rfl) (hw:wantL ops E ⟨some d,.call ⟨.builtin .unsafeString,#[x,y],#[pt,it]⟩,ty0,pos,aft,gd⟩=some true:=by rfl)
  (hx:ev E x=some (.pointer o):=by rfl) (hy:ev E y=some (.int .i64 0):=by rfl):Wr n C ops k Q Tl Fs R ((i,0)::L) E F N:=
 r_q (fun a w ha=>by
  have e1:=ha.ev (x:=x) (by rw [ZF];exact hx)
  have e2:=ha.ev (x:=y) (by rw [ZF];exact hy)
  have hr:=Lib.run_unsafeString_none (P:=prog) w pt it ty0 o
  simp only [execOp,resolve,Sem.run_bind,Sem.run_pure,Result.andThen,invoke,builtin,List.map_toArray,List.map_cons,List.map_nil,e1,e2,hr]
  rfl) nx ho hw
theorem frz_w {w:World} {g m:Nat} {cs:Array Value} {T:TypeId} {fz:Nat×Nat} (hb:w.heap[g]? = some (.cells cs T fz)):∃fz',(w.freeze ⟨g,0,none⟩ m).heap[g]? = some (.cells cs T fz')∧Same w (w.freeze ⟨g,0,none⟩ m)∧∀e,e≠g→(w.freeze ⟨g,0,none⟩ m).heap[e]? = w.heap[e]?:=by
 obtain ⟨lo,hi⟩:=fz
 unfold World.freeze
 split
 ·exact ⟨(lo,hi),hb,Same.refl w,fun _ _=>rfl⟩
 ·refine ⟨if lo == hi then (0,0+m) else (min lo 0,max hi (0+m)),?_,⟨rfl,rfl,rfl,by simp⟩,fun e he=>?_⟩
  ·simp only [Array.getElem?_modify,if_true,hb,Option.map_some]
  ·simp only [Array.getElem?_modify]
   rw [if_neg (fun h=>he h.symm)]
theorem r_ust {g:Nat} {bs:List UInt8} {rest:List Value} {fz:Nat×Nat} {pt it:TypeId} (hne:bs≠[]) (hlt:bs.length≤1099511627776) (hp:prog.underlying pt=some (.pointer 5)) (nx:∀fz',Wr n C ops k Q Tl Fs R L ((d,.string ⟨bs.toArray⟩)::E) F (Pt g (.cells (byt bs++rest).toArray 5 fz')::N'))
  (ho:nth ops i=some ⟨some d,.call ⟨.builtin .unsafeString,#[x,y],#[pt,it]⟩,ty0,pos,aft,gd⟩:=by rfl) (hw:wantL ops E ⟨some d,.call ⟨.builtin .unsafeString,#[x,y],#[pt,it]⟩,ty0,pos,aft,gd⟩=some true:=by rfl)
  (hx:ev E x=some (.pointer (some ⟨g,0,none⟩)):=by rfl) (hy:ev E y=some (.int .i64 (bs.length:Int)):=by rfl) (hs:Sel (Pt g (.cells (byt bs++rest).toArray 5 fz)) N N':=by (repeat (first|exact Sel.here|apply Sel.there));first|done|fail):Wr n C ops k Q Tl Fs R ((i,4)::L) E F N:=
 Z6 ho fun hp' hr w st hz sb=>by
  simp only [ZW hw]
  refine ⟨⟨{_fz:Nat×Nat // True},fun _=>.string ⟨bs.toArray⟩,fun _=>True,fun _=>F,fun fz'=>Pt g (.cells (byt bs++rest).toArray 5 fz'.1)::N'⟩,fun a G w hp'' ha hsub hsat=>?_,fun fz' _=>nx fz'.1 hp' hr w st hz sb⟩
  have hb:=hsat.pt hs
  have hr1:=Lib.run_unsafeString_row (P:=prog) w pt it ty0 5 hp u8Cells g (byt bs++rest).length (by simp [World.shape?,hb]) bs hne (by simp [byt]) (by omega) (fun j u hj=>by
   have hlt2:j<bs.length:=(List.getElem?_eq_some_iff.1 hj).1
   simp only [World.cell?,Addr.add]
   have e:(byt bs++rest)[j]? = some (.int .u8 u.toNat):=by rw [List.getElem?_append_left (by simp [byt];omega)];simp [byt,hj]
   by_cases h0:j=0
   ·subst h0;simp [hb] at e ⊢;exact e
   ·simp [h0,hb] at e ⊢;exact e)
  obtain ⟨fz',g2,g3,g4⟩:=frz_w (m:=bs.length) hb
  unfold OpRes
  have e1:=ha.ev (x:=x) (by rw [ZF];exact hx)
  have e2:=ha.ev (x:=y) (by rw [ZF];exact hy)
  simp only [execOp,resolve,Sem.run_bind,Sem.run_pure,Result.andThen,invoke,builtin,List.map_toArray,List.map_cons,List.map_nil,e1,e2,hr1]
  exact ⟨⟨fz',trivial⟩,trivial,trivial,(show Sat G w hp'' F (Pt g (.cells (byt bs++rest).toArray 5 fz)::N') w from hsat.sel hs).write g3 g2 fun e he _=>g4 e he⟩
end
theorem Vr (b:Nat) (p:Option Addr) (v:Value) (hp:p=none∨p=some ⟨b,0,none⟩):Enters 142∧Spec prog 142 #[.pointer (some ⟨b,0,none⟩)] [] [Pt b (.cells #[.pointer p,v] 205)]
  ⟨Unit,fun _=>.tuple #[],fun _=>True,fun _=>[],fun _=>[Pt b (.cells #[.pointer (some ⟨b,0,none⟩),v] 205)]⟩:=by
 rcases hp with rfl|rfl
 ·refine ZE [_] func142 ntmps142 fun G w hp=>?_
  repeat' (first|refine ZC ?_|refine l_toU ?_|refine l_noesc ?_|refine l_fromU ?_|fail)
  exact Zw () rfl trivial
 ·refine ZE [_] func142 ntmps142 fun G w hp=>?_
  repeat' (first|refine ZC ?_|refine l_nepB ?_|fail)
  exact Zw () rfl trivial
abbrev BdL (b:Nat) (p o:Option Addr) (cap:Nat) (bs:List UInt8):List HP:=[Pt b (.cells #[.pointer p,.slice o bs.length cap] 205),Row 5 1 o bs.length cap (byt bs)]
def Bdr (b:Nat) (bs:List UInt8):HP:=fun h=>∃q:Option Addr×Option Addr×Nat,((q.1=none∨q.1=some ⟨b,0,none⟩)∧(bs=[]→q.2.1=none))∧Sep (BdL b q.1 q.2.1 q.2.2 bs) h
theorem u8Ptr:prog.underlying 243=some (.pointer 5):=underlying243
set_option maxHeartbeats 1000000 in
theorem Wh (b:Nat) (bs:List UInt8) (hl:bs.length≤1099511627776):Enters 120∧Spec prog 120 #[.pointer (some ⟨b,0,none⟩)] [] [Bdr b bs] (RetV (.string ⟨bs.toArray⟩)):=by
 refine ZE [_] func120 ntmps120 fun G w hp=>?_
 refine Zq (X:=Option Addr×Option Addr×Nat) (Lx:=fun q=>BdL b q.1 q.2.1 q.2.2 bs) (p:=fun q=>(q.1=none∨q.1=some ⟨b,0,none⟩)∧(bs=[]→q.2.1=none)) (r:=Bdr b bs) .here (fun h hh=>hh) (fun q hq=>?_)
 obtain ⟨p,o,cap⟩:=q
 obtain ⟨hp,ho⟩:=hq
 dsimp only at hp ho ⊢
 by_cases hb:bs=[]
 ·subst hb
  obtain rfl:=ho rfl
  repeat' (first|refine ZC ?_|refine r_usd ?_ (hc:=.inl rfl)|refine r_ust0 ?_|refine ZI 1 [] [(0,0),(1,0),(2,0),(3,0),(4,0),(5,0),(6,0),(7,0),(8,0),(9,0),(10,0),(11,0)] [] ?_|fail)
  exact ZD () rfl trivial
 ·have hb0:0<bs.length:=List.length_pos_iff.2 hb
  refine Zq (X:=Nat×List Value×(Nat×Nat)) (Lx:=fun q=>[Pt q.1 (.cells (byt bs++q.2.1).toArray 5 q.2.2)]) (p:=fun q=>o=some ⟨q.1,0,none⟩∧cap≠0) (r:=Row 5 1 o bs.length cap (byt bs)) (.there .here) (fun hh' hh=>?_) (fun q hq=>?_)
  ·rcases hh with ⟨_,h0,_⟩|⟨g,rest,fz,h1,h2,h3,h4,h5,h6⟩
   ·omega
   ·exact ⟨(g,rest,fz),⟨h1,by omega⟩,hh',emp,fun _=>.inr rfl,fun _ _ e=>e,fun _ _ e=>(by cases e),h2,trivial⟩
  ·obtain ⟨g,rest,fz⟩:=q
   obtain ⟨rfl,hc⟩:=hq
   dsimp only at hc ⊢
   repeat' (first|refine ZC ?_|refine r_usd ?_ (hc:=.inr hc)|refine r_ust hb hl u8Ptr (fun fz'=>?_)|refine ZI 1 [Pt g (.cells _ 5 _)] [(0,0),(1,0),(2,0),(3,0),(4,0),(5,0),(6,0),(7,0),(8,0),(9,0),(10,4),(11,0)] [] ?_|fail)
   exact ZD () rfl trivial
section
variable {i:Nat} {z:Operand}
theorem l_appE {T cap:Nat} {s:ByteArray} {ts tx:TypeId} {rs tr rx:TRow} (h0:s.size=0) (nx:Wl n C ops.toArray k Q l ((d,.slice none 0 cap)::E) F R)
  (hw:wantL ops E ⟨some d,.call ⟨.builtin .append,#[x,y],#[ts,tx]⟩,ty0,pos,aft,gd⟩=some true:=by rfl) (hn:Nat.blt d n=true:=by rfl) (hx:ev E x=some (.slice none 0 cap):=by rfl) (hy:ev E y=some (.string s):=by rfl)
  (hts:lookT tab ts=some rs:=by rfl) (hrs:rs.k = .slice T:=by rfl) (hT:lookT tab T=some tr:=by rfl) (htx:lookT tab tx=some rx:=by rfl) (hnx:rx.k = .str:=by rfl):Wl n C ops.toArray k Q (⟨some d,.call ⟨.builtin .append,#[x,y],#[ts,tx]⟩,ty0,pos,aft,gd⟩::l) E F R:=
 l_q (fun a w ha=>by
  obtain ⟨d1,hd1,hk1⟩:=ZR.und hts
  rw [hrs] at hk1
  cases d1<;>simp [chkKind] at hk1
  subst hk1
  obtain ⟨d2,hd2,hk2⟩:=ZR.und htx
  rw [hnx] at hk2
  cases d2<;>simp [chkKind] at hk2
  have hs1:=ZR.sizeOf hT w
  have hu1:(underlying ts).run prog w = .ok (.slice T) w:=by simp [underlying,hd1,go_sem]
  have hu2:(underlying tx).run prog w = .ok .string w:=by simp [underlying,hd2,go_sem]
  have e1:=ha.ev (x:=x) (by rw [ZF];exact hx)
  have e2:=ha.ev (x:=y) (by rw [ZF];exact hy)
  have hr:(Builtin.append_ #[ts,tx] ty0 #[.slice none 0 cap,.string s]).run prog w = .ok (.slice none 0 cap) w:=by
   simp [Builtin.append_,hu1,hu2,hs1,Builtin.lenOf,Builtin.firstCells,h0,go_sem]
  simp only [execOp,resolve,Sem.run_bind,Sem.run_pure,Result.andThen,invoke,builtin,List.map_toArray,List.map_cons,List.map_nil,e1,e2,hr]) nx (by intro c h;cases h) hw hn
end
set_option maxHeartbeats 1000000 in
theorem Yr (b:Nat) (bs:List UInt8) (s:ByteArray) (hl:bs.length≤1000000000) (hl2:s.size≤1000000000):Enters 118∧Spec prog 118 #[.pointer (some ⟨b,0,none⟩),.string s] [] [Bdr b bs]
  ⟨Unit,fun _=>.tuple #[.int .i64 s.size,.nilIface],fun _=>True,fun _=>[],fun _=>[Bdr b (bs++s.data.toList)]⟩:=by
 refine ZE [_,_] func118 ntmps118 fun G w hp=>?_
 refine Zq (X:=Option Addr×Option Addr×Nat) (Lx:=fun q=>BdL b q.1 q.2.1 q.2.2 bs) (p:=fun q=>(q.1=none∨q.1=some ⟨b,0,none⟩)∧(bs=[]→q.2.1=none)) (r:=Bdr b bs) .here (fun h hh=>hh) (fun q hq=>?_)
 obtain ⟨p,o,cap⟩:=q
 obtain ⟨hp,ho⟩:=hq
 dsimp only at hp ho
 have n1:=fun v=>Vr b p v hp
 have hsz:s.data.toList.length=s.size:=by show _=s.data.size;simp
 by_cases he:bs++s.data.toList=[]
 ·obtain ⟨rfl,h2⟩:=List.append_eq_nil_iff.1 he
  have h0:s.size=0:=by rw [←hsz,h2];rfl
  obtain rfl:=ho rfl
  repeat' (first|refine l_appE h0 ?_|refine ZC ?_|refine ZA (n1 _) (fun _ _=>?_)|fail)
  rw [h2]
  refine ZO (r:=Bdr b ([]++[])) (Lx:=BdL b (some ⟨b,0,none⟩) none cap []) (fun h hh=>⟨(some ⟨b,0,none⟩,none,cap),⟨.inr rfl,fun _=>rfl⟩,hh⟩) ?_
  exact ZD () rfl trivial
 ·repeat' (first|refine l_appS (s:=s) (fun o' cap'=>?_) (hroom:=by simp only [Nat.mul_one];omega)|refine ZC ?_|refine ZA (n1 _) (fun _ _=>?_)|fail)
  have hE:byt bs++s.data.toList.map (fun b=>Value.int .u8 b.toNat)=byt (bs++s.data.toList):=by rw [VF];rfl
  rw [hE,←hsz,←List.length_append]
  refine ZO (r:=Bdr b (bs++s.data.toList)) (Lx:=BdL b (some ⟨b,0,none⟩) o' cap' (bs++s.data.toList)) (fun h hh=>⟨(some ⟨b,0,none⟩,o',cap'),⟨.inr rfl,fun h=>absurd h he⟩,hh⟩) ?_
  rw [hsz]
  exact ZD () rfl trivial
set_option maxHeartbeats 1000000 in
theorem Zp (bq:Nat) (bs:List UInt8) (c:UInt8) (hl:bs.length≤1000000000):Enters 186∧Spec prog 186 #[.pointer (some ⟨bq,0,none⟩),.int .u8 c.toNat] [] [Bdr bq bs]
  ⟨Unit,fun _=>.nilIface,fun _=>True,fun _=>[],fun _=>[Bdr bq (bs++[c])]⟩:=by
 refine ZE [_,_] func186 ntmps186 fun G w hp=>?_
 refine Zq (X:=Option Addr×Option Addr×Nat) (Lx:=fun q=>BdL bq q.1 q.2.1 q.2.2 bs) (p:=fun q=>(q.1=none∨q.1=some ⟨bq,0,none⟩)∧(bs=[]→q.2.1=none)) (r:=Bdr bq bs) .here (fun h hh=>hh) (fun q hq=>?_)
 obtain ⟨p,o,cap⟩:=q
 obtain ⟨hp,ho⟩:=hq
 dsimp only at hp ho
 have n1:=fun v=>Vr bq p v hp
 repeat' (first|refine Zs (fun o' cap'=>?_) (hroom:=by simp only [Nat.mul_one];omega)|refine ZC ?_|refine ZH (fun b=>?_)|refine ZA (n1 _) (fun _ _=>?_)|fail)
 have e1:bs.length+1=(bs++[c]).length:=by simp
 have e2:byt bs++[Value.int .u8 c.toNat]=byt (bs++[c]):=by rw [VF];rfl
 refine Zi (T:=5) (sz:=1) (o:=o') (cap:=cap') (m:=bs.length+1) _ _ e1 e2 ?_
 rw [e1]
 refine ZO (r:=Bdr bq (bs++[c])) (Lx:=BdL bq (some ⟨bq,0,none⟩) o' cap' (bs++[c])) (fun h hh=>⟨(some ⟨bq,0,none⟩,o',cap'),⟨.inr rfl,fun h=>by simp at h⟩,hh⟩) ?_
 exact ZD () rfl trivial
theorem bd_new {b:Nat} {h:H} (hh:Sep [Pt b (.cells #[.pointer none,.slice none 0 0] 205)] h):Bdr b [] h:=by
 obtain ⟨h1,_,_,s1,_,hp,_⟩:=hh
 exact ⟨(none,none,0),⟨.inl rfl,fun _=>rfl⟩,h1,emp,fun _=>.inr rfl,s1,fun _ _ e=>(by cases e),hp,emp,emp,fun _=>.inr rfl,fun _ _ e=>(by cases e),fun _ _ e=>(by cases e),Zb _ _ _,trivial⟩
theorem UH {f:FuncId} {vs:Array Value} {F:List Pf} {r:HP} {L:List HP} {post:Post} (hx:∀h,Sep L h→r h) (s:Enters f∧Spec prog f vs F [r] post):Enters f∧Spec prog f vs F L post:=
 ⟨s.1,fun G w hp hs=>s.2 G w hp ((show Sat G w hp F (L++[]) w by simpa using hs).shut hx)⟩
theorem Uj (b:Nat) (c:UInt8):Enters 186∧Spec prog 186 #[.pointer (some ⟨b,0,none⟩),.int .u8 c.toNat] [] [Pt b (.cells #[.pointer none,.slice none 0 0] 205)]
  ⟨Unit,fun _=>.nilIface,fun _=>True,fun _=>[],fun _=>[Bdr b [c]]⟩:=UH (fun _ hh=>bd_new hh) (Zp b [] c (by simp))
section
variable {i:Nat}
def RQF (q:LR) (l:Nat) (G:H) (w0:World) (hp0:H) (Ft:Pf) (Jt Jx:HP):Exit→Act→World→Prop:=
 roundPost prog l fun e w'=>∃b,e = .returned (.bool b)∧Sat G w0 hp0 (if b then [Ft] else []) [if b then both (Pt l (.loop (rcd q .ready none))) Jt else both (Pt l (.loop (rcd q .done (some .ret)))) Jx] w'
def YPostF {α:Type} (FI:List α→Pf) (I Ix:List α→HP) (pre:List α) (e:α):Post:=⟨Bool,fun b=>.bool b,fun _=>True,fun b=>if b then [FI (pre++[e])] else [],fun b=>[if b then I (pre++[e]) else Ix (pre++[e])]⟩
def IterF {α:Type} (gf:FuncId) (lb:List Value) (enc:α→Value) (xs:List α) (Fg:List Pf) (A:List HP):Prop:=
 ∀(v:Value) (Y:Pf) (FI:List α→Pf) (I Ix:List α→HP),(∀pre e,pre++[e] <+: xs→SpecV v [enc e] [Y,FI pre] [I pre] (YPostF FI I Ix pre e))→
  Enters gf∧Spec prog gf (v::lb).toArray (Y::FI []::Fg) (I []::A) ⟨Option (List α),fun _=>.tuple #[],fun r=>∀pre,r=some pre→pre <+: xs,fun r=>(match r with|none=>[FI xs]|some _=>[]),fun r=>[match r with|none=>I xs|some pre=>Ix pre]⟩
end
section
variable {i:Nat} {z:Operand}
def SpecI (v:Value) (name:String) (vs:List Value) (F:List Pf) (R:List HP) (post:Post):Prop:=
 ∀G w hp,Sat G w hp F R w→OpRes prog (invoke (.fn (.method name) #[]) (#[v]++vs.toArray)) w fun u w'=>∃x,u=post.val x∧post.pure x∧Sat G w hp (post.F x) (post.R x) w'
theorem Vw {T:TypeId} {u:Value} {name:String} {f:FuncId} {vs:List Value} {post:Post} (hm:∀w,(method (prog.types.size+Made.depth) T u name).run prog w = .ok (f,u) w)
  (spec:Enters f∧Spec prog f (u::vs).toArray F R post):SpecI (.iface T u) name vs F R post:=by
 intro G w hp hsat
 unfold OpRes
 have e1:(invoke (.fn (.method name) #[]) (#[.iface T u]++vs.toArray)).run prog w = .ok (.enter f (u::vs).toArray) w:=by
  have e2:((#[.iface T u]++vs.toArray:Array Value)[0]?)=some (.iface T u):=by simp
  have e3:(#[.iface T u]++vs.toArray:Array Value).extract 1 (#[.iface T u]++vs.toArray:Array Value).size=vs.toArray:=by
   rw [←Array.toList_inj];simp
  have e4:(#[u]++vs.toArray:Array Value)=(u::vs).toArray:=by rw [←Array.toList_inj];simp
  have hp:(program:Sem Program).run prog w = .ok prog w:=rfl
  simp only [invoke,e2,e3,callMethod,Sem.run_bind,hp,Result.andThen,hm]
  rw [e4]
  exact spec.1 _ w
 rw [e1]
 refine Calls.mono (spec.2 G w hp hsat) ?_
 rintro e w' ⟨x,rfl,hx,hs⟩
 exact ⟨x,rfl,hx,hs⟩
theorem l_inv {v:Value} {name:String} {args:Array Operand} {tys:Array TypeId} {vs:List Value} {post:Post} (spec:SpecI v name vs F1 A post)
  (nx:∀x,post.pure x→Wl n C ops.toArray k Q l ((d,post.val x)::E) (post.F x++F) (post.R x++R')) (hw:wantL ops E ⟨some d,.call ⟨.invoke x name,args,tys⟩,ty0,pos,aft,gd⟩=some true:=by rfl) (hn:Nat.blt d n=true:=by rfl)
  (hx:ev E x=some v:=by rfl) (hargs:evs (ev E) args.toList some=some vs:=by rfl) (sel:Sels A R R':=by (repeat (first|exact Sels.nil|exact Sel.here|apply Sel.there|apply Sels.cons));first|done|fail)
  (hF:EntF F F1:=by (repeat (first|exact trivial|exact Sel.here|apply Sel.there|apply EntF.cons));first|done|fail) :
  Wl n C ops.toArray k Q (⟨some d,.call ⟨.invoke x name,args,tys⟩,ty0,pos,aft,gd⟩::l) E F R:=
 Zn (fun t ht=>by cases ht;exact Nat.le_of_ble_eq_true hn) (fun c hc=>by cases hc) hw fun a w ha hsat=>by
  obtain ⟨G',hp,h1,h2⟩:=W1 hsat sel hF.all
  have h3:=spec G' w hp h1
  obtain ⟨us,_,e2,e3⟩:=X3 _ _ _ hargs
  obtain rfl:=Option.some.inj e2
  have e1:=e3 a.eval fun x _ u hu=>ha.ev (by rw [ZF];exact hu)
  have e4:args.map a.eval=us.toArray:=by rw [←Array.toList_inj];simpa using e1
  have e5:(args.map fun x=>a.eval x)=us.toArray:=e4
  have e0:=ha.ev (x:=x) (by rw [ZF];exact hx)
  have h4:=h3.mono (R':=fun v w'=>∀a',Agree n C.ds (upd (look E) (some d) v) a'→wpListIn (fz C.r) 0 prog ops.toArray (after C.r k Q) l a' w') (by
   rintro v w' ⟨x,rfl,hx,hs⟩ a' ha'
   exact nx x hx a' w' ha' (h2 _ _ _ hs))
  unfold OpRes at h4 ⊢
  have er:(execOp a.eval ⟨some d,.call ⟨.invoke x name,args,tys⟩,ty0,pos,aft,gd⟩).run prog w=(invoke (.fn (.method name) #[]) (#[v]++us.toArray)).run prog w:=by
   simp only [execOp,resolve,e0,Sem.run_bind,Sem.run_pure,Result.andThen]
   rw [e5]
  rw [er]
  exact h4
theorem l_taY {T xT:TypeId} {u:Value} {rs:TRow} {fs:List (Nat×Nat×Nat)} (nx:Wl n C ops.toArray k Q l ((d,.tuple #[u,.bool true])::E) F R) (hw:wantL ops E ⟨some d,.typeAssert x xT T true,ty0,pos,aft,gd⟩=some true:=by rfl) (hn:Nat.blt d n=true:=by rfl)
  (hx:ev E x=some (.iface T u):=by rfl) (hts:lookT tab T=some rs:=by rfl) (hrs:rs.k = .struct fs:=by rfl):Wl n C ops.toArray k Q (⟨some d,.typeAssert x xT T true,ty0,pos,aft,gd⟩::l) E F R:=
 l_q (fun ac w ha=>by
  obtain ⟨d1,hd1,hk1⟩:=ZR.und hts
  rw [hrs] at hk1
  cases d1<;>simp [chkKind] at hk1
  rename_i fields
  have hu:(underlying T).run prog w = .ok (.struct fields) w:=by simp [underlying,hd1,go_sem]
  simp only [execOp,ha.ev (x:=x) (by rw [ZF];exact hx),Instr.typeAssert,Sem.run_bind,hu,Result.andThen,if_true,Sem.run_pure]) nx (by intro c h;cases h) hw hn
theorem l_taN {T xT:TypeId} {u zv:Value} {rs:TRow} {fs:List (Nat×Nat×Nat)} (hne:u = .nilIface∨∃T' v,u = .iface T' v∧T'≠T) (nx:Wl n C ops.toArray k Q l ((d,.tuple #[zv,.bool false])::E) F R) (hw:wantL ops E ⟨some d,.typeAssert x xT T true,ty0,pos,aft,gd⟩=some true:=by rfl) (hn:Nat.blt d n=true:=by rfl)
  (hx:ev E x=some u:=by rfl) (hts:lookT tab T=some rs:=by rfl) (hrs:rs.k = .struct fs:=by rfl) (hzv:zval rs=some zv:=by rfl):Wl n C ops.toArray k Q (⟨some d,.typeAssert x xT T true,ty0,pos,aft,gd⟩::l) E F R:=
 l_q (fun ac w ha=>by
  obtain ⟨d1,hd1,hk1⟩:=ZR.und hts
  rw [hrs] at hk1
  cases d1<;>simp [chkKind] at hk1
  rename_i fields
  have hu:(underlying T).run prog w = .ok (.struct fields) w:=by simp [underlying,hd1,go_sem]
  have hz:=Wy hts hzv w
  rcases hne with rfl|⟨T',v,rfl,hne⟩
  ·simp only [execOp,ha.ev (x:=x) (by rw [ZF];exact hx),Instr.typeAssert,Sem.run_bind,hu,Result.andThen,if_true,hz,Sem.run_pure]
  ·simp only [execOp,ha.ev (x:=x) (by rw [ZF];exact hx),Instr.typeAssert,Sem.run_bind,hu,Result.andThen,if_neg hne,if_true,hz,Sem.run_pure]) nx (by intro c h;cases h) hw hn
theorem l_eqI {T:TypeId} {ms:Array (String×TypeId)} {u:Value} {r:Bool} (ht:prog.underlying T=some (.interface ms)) (hr:(u = .nilIface∧r=true)∨((∃T' v,u = .iface T' v)∧r=false)) (nx:Wl n C ops.toArray k Q l ((d,.bool r)::E) F R) (hw:wantL ops E ⟨some d,.binOp .eql T x (.const .nilIface) t2,ty0,pos,aft,gd⟩=some true:=by rfl) (hn:Nat.blt d n=true:=by rfl)
  (hx:ev E x=some u:=by rfl):Wl n C ops.toArray k Q (⟨some d,.binOp .eql T x (.const .nilIface) t2,ty0,pos,aft,gd⟩::l) E F R:=
 l_q (fun ac w ha=>by
  have hu:(underlying T).run prog w = .ok (.interface ms) w:=by simp [underlying,ht,go_sem]
  have e0:=ha.ev (x:=x) (by rw [ZF];exact hx)
  have e1:ac.eval (.const .nilIface) = .nilIface:=rfl
  rcases hr with ⟨rfl,rfl⟩|⟨⟨T',v,rfl⟩,rfl⟩
  ·have hb:(binOp .eql T .nilIface .nilIface).run prog w = .ok (.bool true) w:=by
    have h:∀d:Nat,(Op.equalIn (d+1) T .nilIface .nilIface).run prog w = .ok true w:=fun d=>by simp [Op.equalIn,hu]
    simp only [binOp]
    simp [Op.equal,Op.maxDepth,h 9999]
   have hg:(eqGuard .eql T x (.const .nilIface) .nilIface .nilIface).run prog w = .ok () w:=by simp [eqGuard,go_sem]
   simp only [execOp,e0,e1,Sem.run_bind,hg,Result.andThen,hb,Sem.run_pure]
  ·have hb:(binOp .eql T (.iface T' v) .nilIface).run prog w = .ok (.bool false) w:=by
    have h:∀d:Nat,(Op.equalIn (d+1) T (.iface T' v) .nilIface).run prog w = .ok false w:=fun d=>by simp [Op.equalIn,hu]
    simp only [binOp]
    simp [Op.equal,Op.maxDepth,h 9999]
   have hg:(eqGuard .eql T x (.const .nilIface) (.iface T' v) .nilIface).run prog w = .ok () w:=by simp [eqGuard,go_sem]
   simp only [execOp,e0,e1,Sem.run_bind,hg,Result.andThen,hb,Sem.run_pure]) nx (by intro c h;cases h) hw hn
theorem WE {T:TypeId} {ms:Array (String×TypeId)} {u:Value} {r:Bool} (ht:prog.underlying T=some (.interface ms)) (hr:(u = .nilIface∧r=false)∨((∃T' v,u = .iface T' v)∧r=true)) (nx:Wl n C ops.toArray k Q l ((d,.bool r)::E) F R) (hw:wantL ops E ⟨some d,.binOp .neq T x (.const .nilIface) t2,ty0,pos,aft,gd⟩=some true:=by rfl) (hn:Nat.blt d n=true:=by rfl)
  (hx:ev E x=some u:=by rfl):Wl n C ops.toArray k Q (⟨some d,.binOp .neq T x (.const .nilIface) t2,ty0,pos,aft,gd⟩::l) E F R:=
 l_q (fun ac w ha=>by
  have hu:(underlying T).run prog w = .ok (.interface ms) w:=by simp [underlying,ht,go_sem]
  have e0:=ha.ev (x:=x) (by rw [ZF];exact hx)
  have e1:ac.eval (.const .nilIface) = .nilIface:=rfl
  rcases hr with ⟨rfl,rfl⟩|⟨⟨T',v,rfl⟩,rfl⟩
  ·have hb:(binOp .neq T .nilIface .nilIface).run prog w = .ok (.bool false) w:=by
    have h:∀d:Nat,(Op.equalIn (d+1) T .nilIface .nilIface).run prog w = .ok true w:=fun d=>by simp [Op.equalIn,hu]
    simp only [binOp]
    simp [Op.equal,Op.maxDepth,h 9999]
   have hg:(eqGuard .neq T x (.const .nilIface) .nilIface .nilIface).run prog w = .ok () w:=by simp [eqGuard,go_sem]
   simp only [execOp,e0,e1,Sem.run_bind,hg,Result.andThen,hb,Sem.run_pure]
  ·have hb:(binOp .neq T (.iface T' v) .nilIface).run prog w = .ok (.bool true) w:=by
    have h:∀d:Nat,(Op.equalIn (d+1) T (.iface T' v) .nilIface).run prog w = .ok false w:=fun d=>by simp [Op.equalIn,hu]
    simp only [binOp]
    simp [Op.equal,Op.maxDepth,h 9999]
   have hg:(eqGuard .neq T x (.const .nilIface) (.iface T' v) .nilIface).run prog w = .ok () w:=by simp [eqGuard,go_sem]
   simp only [execOp,e0,e1,Sem.run_bind,hg,Result.andThen,hb,Sem.run_pure]) nx (by intro c h;cases h) hw hn
end
theorem ext_take {s u:ByteArray} {hi:Nat} (h:s.data.toList.take hi=u.data.toList):s.extract 0 hi=u:=XN (by
 rw [←h]
 simp [ByteArray.data_extract,Array.toList_extract])
theorem ext_end {s u:ByteArray} {lo:Nat} (h:s.data.toList.drop lo=u.data.toList):s.extract lo s.size=u:=XN (by
 rw [←h]
 have e:s.size=s.data.toList.length:=by show s.data.size=_;simp
 simp only [ByteArray.data_extract,Array.toList_extract,e]
 simp only [List.extract_eq_take_drop]
 rw [List.take_of_length_le (by simp)])
section
variable {i:Nat} {z y2:Operand}
theorem Z3 {s u:ByteArray} {z:Int} {rs:TRow} (lo:Nat) (hle:lo≤s.size) (hu:s.data.toList.drop lo=u.data.toList) (nx:Wl n C ops.toArray k Q l ((d,.string u)::E) F R)
  (hw:wantL ops E ⟨some d,.slice t x (some y) none none,ty0,pos,aft,gd⟩=some true:=by rfl) (hn:Nat.blt d n=true:=by rfl) (hx:ev E x=some (.string s):=by rfl) (hy:ev E y=some (.int .i64 z):=by rfl)
  (hts:lookT tab t=some rs:=by rfl) (hrs:rs.k = .str:=by rfl) (hz:z=(lo:Int):=by first|rfl|omega):Wl n C ops.toArray k Q (⟨some d,.slice t x (some y) none none,ty0,pos,aft,gd⟩::l) E F R:=
 l_q (fun a w ha=>by
  simp only [execOp,Option.map_some,Option.map_none,ha.ev (x:=x) (by rw [ZF];exact hx),ha.ev (x:=y) (by rw [ZF];exact hy),Sem.run_bind,run_send (w:=w) lo hle hts hrs hz,Result.andThen,Sem.run_pure,ext_end hu]) nx (by intro c h;cases h) hw hn
theorem l_sTo {s u:ByteArray} {z:Int} {rs:TRow} (hi:Nat) (hle:hi≤s.size) (hu:s.data.toList.take hi=u.data.toList) (nx:Wl n C ops.toArray k Q l ((d,.string u)::E) F R)
  (hw:wantL ops E ⟨some d,.slice t x none (some y) none,ty0,pos,aft,gd⟩=some true:=by rfl) (hn:Nat.blt d n=true:=by rfl) (hx:ev E x=some (.string s):=by rfl) (hy:ev E y=some (.int .i64 z):=by rfl)
  (hts:lookT tab t=some rs:=by rfl) (hrs:rs.k = .str:=by rfl) (hz:z=(hi:Int):=by first|rfl|omega):Wl n C ops.toArray k Q (⟨some d,.slice t x none (some y) none,ty0,pos,aft,gd⟩::l) E F R:=
 l_q (fun a w ha=>by
  simp only [execOp,Option.map_some,Option.map_none,ha.ev (x:=x) (by rw [ZF];exact hx),ha.ev (x:=y) (by rw [ZF];exact hy),Sem.run_bind,run_scut (w:=w) hi hle hts hrs hz,Result.andThen,Sem.run_pure,ext_take hu]) nx (by intro c h;cases h) hw hn
theorem r_sTo {s u:ByteArray} {z:Int} {rs:TRow} (hi:Nat) (hle:hi≤s.size) (hu:s.data.toList.take hi=u.data.toList) (nx:Wr n C ops k Q Tl Fs R L ((d,.string u)::E) F N)
  (ho:nth ops i=some ⟨some d,.slice t x none (some y) none,ty0,pos,aft,gd⟩:=by rfl) (hw:wantL ops E ⟨some d,.slice t x none (some y) none,ty0,pos,aft,gd⟩=some true:=by rfl) (hx:ev E x=some (.string s):=by rfl) (hy:ev E y=some (.int .i64 z):=by rfl)
  (hts:lookT tab t=some rs:=by rfl) (hrs:rs.k = .str:=by rfl) (hz:z=(hi:Int):=by first|rfl|omega):Wr n C ops k Q Tl Fs R ((i,0)::L) E F N:=
 r_q (fun a w ha=>by
  simp only [execOp,Option.map_some,Option.map_none,ha.ev (x:=x) (by rw [ZF];exact hx),ha.ev (x:=y) (by rw [ZF];exact hy),Sem.run_bind,run_scut (w:=w) hi hle hts hrs hz,Result.andThen,Sem.run_pure,ext_take hu]) nx ho hw
theorem r_sEnd {s u:ByteArray} {z:Int} {rs:TRow} (lo:Nat) (hle:lo≤s.size) (hu:s.data.toList.drop lo=u.data.toList) (nx:Wr n C ops k Q Tl Fs R L ((d,.string u)::E) F N)
  (ho:nth ops i=some ⟨some d,.slice t x (some y) none none,ty0,pos,aft,gd⟩:=by rfl) (hw:wantL ops E ⟨some d,.slice t x (some y) none none,ty0,pos,aft,gd⟩=some true:=by rfl) (hx:ev E x=some (.string s):=by rfl) (hy:ev E y=some (.int .i64 z):=by rfl)
  (hts:lookT tab t=some rs:=by rfl) (hrs:rs.k = .str:=by rfl) (hz:z=(lo:Int):=by first|rfl|omega):Wr n C ops k Q Tl Fs R ((i,0)::L) E F N:=
 r_q (fun a w ha=>by
  simp only [execOp,Option.map_some,Option.map_none,ha.ev (x:=x) (by rw [ZF];exact hx),ha.ev (x:=y) (by rw [ZF];exact hy),Sem.run_bind,run_send (w:=w) lo hle hts hrs hz,Result.andThen,Sem.run_pure,ext_end hu]) nx ho hw
theorem WG {s:ByteArray} {z:Int} {rs:TRow} (j:Nat) (c:UInt8) (hc:s.data.toList[j]? = some c) (nx:Wr n C ops k Q Tl Fs R L ((d,.int .u8 c.toNat)::E) F N)
  (ho:nth ops i=some ⟨some d,.index t x y,ty0,pos,aft,gd⟩:=by rfl) (hw:wantL ops E ⟨some d,.index t x y,ty0,pos,aft,gd⟩=some true:=by rfl) (hx:ev E x=some (.string s):=by rfl) (hy:ev E y=some (.int .i64 z):=by rfl)
  (hts:lookT tab t=some rs:=by rfl) (hrs:rs.k = .str:=by rfl) (hz:z=(j:Int):=by first|rfl|omega):Wr n C ops k Q Tl Fs R ((i,0)::L) E F N:=
 r_q (fun a w ha=>by
  subst hz
  have h0:(0:Int)≤(j:Int):=by omega
  have h1:s[j]? = some c:=by
   obtain ⟨hlt,he⟩:=List.getElem?_eq_some_iff.1 hc
   have hlt':j<s.size:=by simpa using hlt
   rw [getElem?_pos s j hlt']
   exact congrArg some he
  simp only [execOp,ha.ev (x:=x) (by rw [ZF];exact hx),ha.ev (x:=y) (by rw [ZF];exact hy),Instr.index,asIntOf,XD hts hrs,Sem.run_bind,Result.andThen,Sem.run_pure,if_pos h0,Int.toNat_natCast,h1]) nx ho hw
end
theorem YJ (p:UInt8→Bool):∀l:List UInt8,spanF p l≤l.length
 | []=>by simp [spanF]
 | c::l=>by
  have:=YJ p l
  unfold spanF
  split<;>simp<;>omega
theorem spanF_take (p:UInt8→Bool):∀l:List UInt8,∀x ∈ l.take (spanF p l),p x=true
 | [],x,hx=>by simp at hx
 | c::l,x,hx=>by
  unfold spanF at hx
  split at hx
  ·rename_i hc
   rw [List.take_succ_cons] at hx
   rcases List.mem_cons.1 hx with rfl|hx
   ·exact hc
   ·exact spanF_take p l x hx
  ·simp at hx
def fldAt (r:List UInt8):Nat:=wFlds.foldl (fun n w=>if (w.data.toList++[125]).isPrefixOf r then w.size+1 else n) 0
def tmF:List UInt8→Nat→Nat→Option Nat
 | [],_,_=>none
 | _::r,k+1,i=>tmF r k (i+1)
 | c::r,0,i=>
  if c=125 then if r.head? = some 125 then tmF r 1 (i+1) else some i
  else if c=123 then if r.head? = some 123 then tmF r 1 (i+1) else match fldAt r with
   | 0=>some i
   | k+1=>tmF r (k+1) (i+1)
  else tmF r 0 (i+1)
def exF (c:Cq):List UInt8→Nat→List UInt8
 | [],_=>[]
 | _::r,k+1=>exF c r k
 | a::r,0=>
  if isBr a then if r.head? = some a then a::exF c r 1 else (valF (ofL (r.take (spanF (fun x=>!(x == 125)) r))) c).data.toList++exF c r (spanF (fun x=>!(x == 125)) r+1)
  else a::exF c r 0
theorem Ud (c:UInt8):Enters 154∧Spec prog 154 #[.int .u8 c.toNat] [] [] (RetV (.bool (isLet c))):=by
 refine ZE [_] func154 ntmps154 fun G w hp=>?_
 repeat' (first|refine ZC ?_|(refine ZG (fun hc=>?_) (fun hc=>?_)<;>(try simp at hc))|fail)
 ·have e:isLet c=decide ((c.toNat:Int)≤122):=by unfold isLet;rw [Bool.eq_iff_iff];simp;omega
  rw [e];exact ZD () rfl trivial
 ·have e:isLet c=false:=by unfold isLet;simp;omega
  rw [e];exact ZD () rfl trivial
theorem ruDigit_ok (c:UInt8):Enters 156∧Spec prog 156 #[.int .u8 c.toNat] [] [] (RetV (.bool (isDgt c))):=by
 refine ZE [_] func156 ntmps156 fun G w hp=>?_
 repeat' (first|refine ZC ?_|(refine ZG (fun hc=>?_) (fun hc=>?_)<;>(try simp at hc))|fail)
 ·have e:isDgt c=decide ((c.toNat:Int)≤57):=by unfold isDgt;rw [Bool.eq_iff_iff];simp;omega
  rw [e];exact ZD () rfl trivial
 ·have e:isDgt c=false:=by unfold isDgt;simp;omega
  rw [e];exact ZD () rfl trivial
theorem u8_46 {c:UInt8}:(c == 46)=decide ((c.toNat:Int)=46):=by
 rw [Bool.eq_iff_iff];simp [←UInt8.toNat_inj];omega
theorem ruNumeral_ok (c:UInt8):Enters 157∧Spec prog 157 #[.int .u8 c.toNat] [] [] (RetV (.bool (inNum c))):=by
 have n1:=ruDigit_ok c
 refine ZE [_] func157 ntmps157 fun G w hp=>?_
 generalize hd:isDgt c=d at n1
 cases d with
 | true=>
  repeat' (first|refine ZC ?_|refine ZA (n1) (fun _ _=>?_)|fail)
  rw [show inNum c=true by unfold inNum;rw [hd];rfl]
  exact ZD () rfl trivial
 | false=>
  repeat' (first|refine ZC ?_|refine ZA (n1) (fun _ _=>?_)|fail)
  rw [show inNum c=decide ((c.toNat:Int)=46) by unfold inNum;rw [hd,u8_46];rfl]
  exact ZD () rfl trivial
theorem WP {p:UInt8→Bool}:∀(l:List UInt8) (i:Nat),(∀x ∈ l.take i,p x=true)→i≤l.length→(∀h:i<l.length,p l[i]=false)→spanF p l=i
 | [],i,_,h,_=>by simp at h;simp [spanF,h]
 | c::l,0,_,_,h=>by
  have:=h (by simp)
  simp only [List.getElem_cons_zero] at this
  simp [spanF,this]
 | c::l,i+1,ha,h,hs=>by
  have h1:=ha c (by simp)
  have:=WP l i (fun x hx=>ha x (by rw [List.take_succ_cons];exact .tail _ hx)) (by simpa using h) (fun h=>by have:=hs (by simpa using h);simpa using this)
  simp [spanF,h1,this]
theorem ruSpan_ok {p:UInt8→Bool} {f:FuncId} (hf:∀c:UInt8,Enters f∧Spec prog f #[.int .u8 c.toNat] [] [] (RetV (.bool (p c)))) (s:ByteArray) (hs:s.size≤1099511627776) :
  Enters 155∧Spec prog 155 #[.string s,.func (.func f) #[] #[]] [] [] (RetV (.int .i64 (spanF p s.data.toList:Int))):=by
 have hsz:s.data.toList.length=s.size:=by show _=s.data.size;simp
 refine ZE [_,_] func155 ntmps155 fun G w hp=>?_
 repeat' (first|refine ZC ?_|fail)
 refine Zj (X:={i:Nat // i≤s.size∧∀x ∈ s.data.toList.take i,p x=true}) (fun i=>[(0,.string s),(1,.func (.func f) #[] #[]),(5,.int .i64 (i.1:Int))]) (fun _=>[]) (fun _=>[]) (fun i=>s.size - i.1) ⟨0,by omega,fun x hx=>by simp at hx⟩ ⟨rfl,rfl,rfl,trivial⟩ ?_
 rintro ⟨i,hi1,hi2⟩
 dsimp only
 by_cases hlt:i<s.data.toList.length
 ·have hcc:=List.getElem?_eq_getElem hlt
  have h5:=hf s.data.toList[i]
  have hw:=wrapi (z:=(i:Int)+1) (by omega) (by omega)
  have hst:p s.data.toList[i]=false→spanF p s.data.toList=i:=fun h=>WP (p:=p) s.data.toList i hi2 (by omega) (fun _=>h)
  generalize hce:s.data.toList[i]=c at *
  have hlt2:i<s.size:=by omega
  cases hp:p c with
  | true=>
   rw [hp] at h5
   repeat' (first|refine ZC ?_|refine Zu (s:=s) i c hcc ?_|refine Yh h5 (fun _ _=>?_)|rw [hw]|(refine ZG (fun hc=>?_) (fun hc=>?_)<;>(try simp at hc)<;>(try omega))|fail)
   refine ZJ ⟨i+1,by omega,fun x hx=>?_⟩ (by show s.size - (i+1)<s.size - i;omega) ⟨rfl,rfl,rfl,trivial⟩
   rw [List.take_succ_eq_append_getElem hlt] at hx
   rcases List.mem_append.1 hx with hx|hx
   ·exact hi2 x hx
   ·rw [List.mem_singleton.1 hx,hce];exact hp
  | false=>
   rw [hp] at h5
   have e:=hst hp
   rw [e]
   repeat' (first|refine ZC ?_|refine ZM ?_|refine Zu (s:=s) i c hcc ?_|refine Yh h5 (fun _ _=>?_)|(refine ZG (fun hc=>?_) (fun hc=>?_)<;>(try simp at hc)<;>(try omega))|fail)
   exact ZD () rfl trivial
 ·have e:=WP (p:=p) s.data.toList i hi2 (by omega) (fun h=>absurd h hlt)
  rw [e]
  have hlt2:¬i<s.size:=by omega
  repeat' (first|refine ZC ?_|refine ZM ?_|(refine ZG (fun hc=>?_) (fun hc=>?_)<;>(try simp at hc)<;>(try omega))|fail)
  exact ZD () rfl trivial
theorem unq_34 (r:List UInt8) (i:Nat) (acc:List UInt8):unqF (34::r) i acc=some (acc,i+1):=by
 cases r<;>simp [unqF]
theorem unq_92 (i:Nat) (acc:List UInt8):unqF [92] i acc=none:=by simp [unqF]
theorem unq_92d (d:UInt8) (r:List UInt8) (i:Nat) (acc:List UInt8):unqF (92::d::r) i acc=if d=34∨d=92 then unqF r (i+2) (acc++[d]) else if d=110 then unqF r (i+2) (acc++[10]) else none:=by
 rw [unqF,if_neg (by decide),if_pos (by decide)]
 simp only [Bool.or_eq_true,beq_iff_eq]
theorem unq_c {c:UInt8} (h1:c≠34) (h2:c≠92) (r:List UInt8) (i:Nat) (acc:List UInt8):unqF (c::r) i acc=unqF r (i+1) (acc++[c]):=by
 cases r with
 | nil=>simp [unqF,h1]
 | cons d r=>
  rw [unqF,if_neg (by simpa using h1),if_neg (by simpa using h2)]
theorem u8i {c:UInt8} {k:Nat} (hk:k<256):c=UInt8.ofNat k↔(c.toNat:Int)=k:=by
 constructor
 ·rintro rfl;simp;omega
 ·intro h
  rw [←UInt8.toNat_inj]
  simp;omega
def unqV (x:Option (List UInt8×Nat)):Value:=match x with
 | some (t,k)=>.tuple #[.string (ofL t),.int .i64 (k:Int),.bool true]
 | none=>.tuple #[.string ⟨#[]⟩,.int .i64 0,.bool false]
theorem unqV_some (t:List UInt8) (i:Nat):unqV (some (t,i+1)) = .tuple #[.string ⟨t.toArray⟩,.int .i64 ((i:Int)+1),.bool true]:=by simp [unqV]
set_option maxHeartbeats 1000000 in
theorem ruUnquote_ok (s:ByteArray) (hs:s.size≤1000000) (h0:0<s.size):Enters 158∧Spec prog 158 #[.string s] [] [] (RetV (unqV (unqF (s.data.toList.drop 1) 1 []))):=by
 have hsz:s.data.toList.length=s.size:=by show _=s.data.size;simp
 generalize hr:unqF (s.data.toList.drop 1) 1 []=r
 refine ZE [_] func158 ntmps158 fun G w hp=>?_
 repeat' (first|refine ZC ?_|refine ZH (fun b=>?_)|fail)
 refine ZO (Lx:=[Pt b (.cells #[.pointer none,.slice none 0 0] 205)]) (r:=Bdr b []) (fun h hh=>bd_new hh) ?_
 refine Zj (X:={q:Nat×List UInt8 // q.1≤s.size∧q.2.length≤q.1∧unqF (s.data.toList.drop q.1) q.1 q.2=r}) (fun q=>[(0,.string s),(5,.pointer (some ⟨b,0,none⟩)),(6,.int .i64 (q.1.1:Int))]) (fun _=>[]) (fun q=>[Bdr b q.1.2]) (fun q=>s.size - q.1.1) ⟨(1,[]),by show 1≤s.size;omega,by show 0≤1;omega,hr⟩ ⟨rfl,rfl,rfl,trivial⟩ ?_
 rintro ⟨⟨i,acc⟩,hi1,hi2,hi3⟩
 dsimp only at hi1 hi2 hi3 ⊢
 by_cases hlt:i<s.data.toList.length
 ·have hcc:=List.getElem?_eq_getElem hlt
  have hdr:=List.drop_eq_getElem_cons hlt
  generalize hce:s.data.toList[i]=c at *
  have hlt2:i<s.size:=by omega
  rw [hdr] at hi3
  have w1:=wrapi (z:=(i:Int)+1) (by omega) (by omega)
  by_cases c1:c=34
  ·have k1:(c.toNat:Int)=34:=by rw [c1];rfl
   have n1:=Wh b acc (by omega)
   rw [c1,unq_34] at hi3
   subst hi3
   rw [unqV_some]
   repeat' (first|refine ZC ?_|refine ZA (n1) (fun _ _=>?_)|refine Zu (s:=s) i c hcc ?_|rw [w1]|(refine ZB (fun hc=>?_) (fun hc=>?_)<;>(try simp at hc)<;>(try omega))|fail)
   exact Zz (Z5 (Zg () rfl trivial))
  have k1:¬(c.toNat:Int)=34:=fun h=>c1 ((u8i (k:=34) (by decide)).2 h)
  by_cases c2:c=92
  ·have k2:(c.toNat:Int)=92:=by rw [c2];rfl
   rw [c2] at hi3
   by_cases hlt3:i+1<s.data.toList.length
   ·have hcd:=List.getElem?_eq_getElem hlt3
    have hdr3:=List.drop_eq_getElem_cons hlt3
    generalize hde:s.data.toList[i+1]=d at *
    have hlt4:i+1<s.size:=by omega
    rw [hdr3,unq_92d] at hi3
    have w2:=wrapi (z:=(i:Int)+1+1) (by omega) (by omega)
    have w3:=wrapi (z:=(i:Int)+1+1) (by omega) (by omega)
    have hcd':s.data.toList[i+1]? = some d:=hcd
    by_cases d1:d=34∨d=92
    ·rw [if_pos d1] at hi3
     have kd:(d.toNat:Int)=34∨(d.toNat:Int)=92:=by rcases d1 with d1|d1<;>rw [d1]<;>decide
     have n1:=Zp b acc d (by omega)
     repeat' (first|refine Zu (s:=s) (i+1) d hcd' ?_|refine Zu (s:=s) i c hcc ?_|refine ZC ?_|refine ZA (n1) (fun _ _=>?_)|rw [w1]|rw [w2]|(refine ZB (fun hc=>?_) (fun hc=>?_)<;>(try simp at hc)<;>(try omega))|fail)
     all_goals exact ZJ ⟨(i+2,acc++[d]),by show i+2≤s.size;omega,by simp;omega,hi3⟩ (by show s.size - (i+2)<s.size - i;omega) ⟨rfl,rfl,rfl,trivial⟩
    ·rw [if_neg d1] at hi3
     have kd1:¬(d.toNat:Int)=34:=fun h=>d1 (.inl ((u8i (k:=34) (by decide)).2 h))
     have kd2:¬(d.toNat:Int)=92:=fun h=>d1 (.inr ((u8i (k:=92) (by decide)).2 h))
     by_cases d2:d=110
     ·rw [if_pos d2] at hi3
      have kd3:(d.toNat:Int)=110:=by rw [d2];rfl
      have n1:=Zp b acc 10 (by omega)
      repeat' (first|refine Zu (s:=s) (i+1) d hcd' ?_|refine Zu (s:=s) i c hcc ?_|refine ZC ?_|refine ZA (n1) (fun _ _=>?_)|rw [w1]|rw [w2]|(refine ZB (fun hc=>?_) (fun hc=>?_)<;>(try simp at hc)<;>(try omega))|fail)
      all_goals exact ZJ ⟨(i+2,acc++[10]),by show i+2≤s.size;omega,by simp;omega,hi3⟩ (by show s.size - (i+2)<s.size - i;omega) ⟨rfl,rfl,rfl,trivial⟩
     ·rw [if_neg d2] at hi3
      subst hi3
      have kd3:¬(d.toNat:Int)=110:=fun h=>d2 ((u8i (k:=110) (by decide)).2 h)
      repeat' (first|refine Zu (s:=s) (i+1) d hcd' ?_|refine Zu (s:=s) i c hcc ?_|refine ZC ?_|rw [w1]|(refine ZB (fun hc=>?_) (fun hc=>?_)<;>(try simp at hc)<;>(try omega))|fail)
      exact Zz (Z5 (Zg () rfl trivial))
   ·have hd:s.data.toList.drop (i+1)=[]:=List.drop_eq_nil_of_le (by omega)
    rw [hd,unq_92] at hi3
    subst hi3
    have hlt4:¬i+1<s.size:=by omega
    repeat' (first|refine ZC ?_|refine Zu (s:=s) i c hcc ?_|rw [w1]|(refine ZB (fun hc=>?_) (fun hc=>?_)<;>(try simp at hc)<;>(try omega))|fail)
    exact Zz (Z5 (Zg () rfl trivial))
  ·have k2:¬(c.toNat:Int)=92:=fun h=>c2 ((u8i (k:=92) (by decide)).2 h)
   rw [unq_c c1 c2] at hi3
   have n1:=Zp b acc c (by omega)
   repeat' (first|refine ZC ?_|refine ZA (n1) (fun _ _=>?_)|refine Zu (s:=s) i c hcc ?_|rw [w1]|(refine ZB (fun hc=>?_) (fun hc=>?_)<;>(try simp at hc)<;>(try omega))|fail)
   exact ZJ ⟨(i+1,acc++[c]),by show i+1≤s.size;omega,by simp;omega,hi3⟩ (by show s.size - (i+1)<s.size - i;omega) ⟨rfl,rfl,rfl,trivial⟩
 ·have hd:s.data.toList.drop i=[]:=List.drop_eq_nil_of_le (by omega)
  rw [hd] at hi3
  have hi3:none=r:=hi3
  subst hi3
  have hlt2:¬i<s.size:=by omega
  repeat' (first|refine ZC ?_|refine ZM ?_|(refine ZB (fun hc=>?_) (fun hc=>?_)<;>(try simp at hc)<;>(try omega))|fail)
  exact ZD () rfl trivial
end Go.Proofs.YtcjfciifhdfjkaaGreatDoor
set_option maxRecDepth 10000
namespace Go.Proofs
open Go.Shelf
def Tryz.lays137_ren:Go.Shelf.Ren:=⟨fun|137=>159|217=>187|266=>220|n=>n,fun|9=>9|5=>5|3=>3|n=>n,fun|n=>n⟩
theorem Tryz.lays137:Go.Proofs.Lays.n137 Tryz.prog Tryz.lays137_ren:={
 mixed:=by kernel_rfl
 f137:=Tryz.func159.trans (congrArg some (by kernel_rfl))
 f217:=Tryz.func187.trans (congrArg some (by kernel_rfl))
 f266:=Tryz.func220.trans (congrArg some (by kernel_rfl))
 t3:=Tryz.underlying3
 a3:=Tryz.isAgg3
 z3:=Tryz.sizeOf3
 v3:=Tryz.zeroValue3
 t5:=Tryz.underlying5
 a5:=Tryz.isAgg5
 z5:=Tryz.sizeOf5
 v5:=Tryz.zeroValue5
 t9:=Tryz.underlying9
 a9:=Tryz.isAgg9
 z9:=Tryz.sizeOf9
 v9:=Tryz.zeroValue9}
end Go.Proofs
namespace Go.Proofs.YtcjfciifhdfjkaaGreatDoor
open Go.Proofs.Tryz
open Go.RowKit
theorem toUInt8_nat (c:UInt8):(((c.toNat:Nat):Int)).toNat.toUInt8=c:=by simp
theorem X5 (s:ByteArray) (c:UInt8):Enters 159∧Spec prog 159 #[.string s,.int .u8 c.toNat] [] [] (RetV (.int .i64 (Lib.indexByte s.data.toList c))):=by
 refine ⟨enters_of func159 (by kernel_rfl) rfl,fun G w hp hs=>?_⟩
 refine (Any.strings_IndexByte Tryz.lays137 s c.toNat w).mono ?_
 rintro e w' ⟨rfl,rfl⟩
 rw [toUInt8_nat]
 exact ⟨(),rfl,trivial,hs⟩
end Go.Proofs.YtcjfciifhdfjkaaGreatDoor
namespace Go.Proofs.YtcjfciifhdfjkaaGreatDoor
open Go.RowKit Go.Proofs.Tryz
abbrev tkf (t:Tk):List Value:=[.int .i64 t.kd,.string t.tx,.int .i64 t.pl]
def symS:ByteArray:=⟨#[40,41,58,61,60,62]⟩
theorem sym_ix (c:UInt8):decide (0≤Lib.indexByte symS.data.toList c)=isSym c:=by
 have e:symS.data.toList=[40,41,58,61,60,62]:=rfl
 rw [e]
 unfold isSym
 by_cases h1:c=40
 ·subst h1;decide
 by_cases h2:c=41
 ·subst h2;decide
 by_cases h3:c=58
 ·subst h3;decide
 by_cases h4:c=61
 ·subst h4;decide
 by_cases h5:c=60
 ·subst h5;decide
 by_cases h6:c=62
 ·subst h6;decide
 simp [Lib.indexByte,h1,h2,h3,h4,h5,h6,Ne.symm h1,Ne.symm h2,Ne.symm h3,Ne.symm h4,Ne.symm h5,Ne.symm h6]
theorem unq_le:∀(l:List UInt8) (i:Nat) (acc t:List UInt8) (k:Nat),unqF l i acc=some (t,k)→i+1≤k∧k≤i+l.length
 | [],_,_,_,_,h=>by simp [unqF] at h
 | [c],i,acc,t,k,h=>by
  rw [unqF] at h
  split at h
  ·cases h;simp
  ·cases h
 | c::d::r,i,acc,t,k,h=>by
  rw [unqF] at h
  simp only [List.length_cons]
  split at h
  ·cases h;omega
  ·split at h
   ·split at h
    ·have:=unq_le r _ _ _ _ h;omega
    ·split at h
     ·have:=unq_le r _ _ _ _ h;omega
     ·cases h
   ·have:=unq_le (d::r) _ _ _ _ h
    simp only [List.length_cons] at this;omega
set_option maxHeartbeats 4000000 in
theorem ruScan_ok (s:ByteArray) (hs:s.size≤70000):Enters 128∧Spec prog 128 #[.string s] [] []
  ⟨Option Addr×Nat,fun q=>.tuple #[.slice q.1 (scanF (s.data.toList.length+1) s.data.toList 0 []).1.length q.2,.int .i64 ((scanF (s.data.toList.length+1) s.data.toList 0 []).2.1:Int),.bool (scanF (s.data.toList.length+1) s.data.toList 0 []).2.2],fun _=>True,fun q=>[Sl 227 tkf q.1 q.2 (scanF (s.data.toList.length+1) s.data.toList 0 []).1],fun _=>[]⟩:=by
 have hsz:s.data.toList.length=s.size:=by show _=s.data.size;simp
 generalize hr:scanF (s.data.toList.length+1) s.data.toList 0 []=r
 refine ZE [_] func128 ntmps128 fun G w hp=>?_
 repeat' (first|refine ZC ?_|fail)
 refine ZO (Lx:=[]) (r:=Row 227 3 none 0 0 []) (fun h _=>Zb _ _ h) ?_
 refine Zj (X:={q:Nat×List Tk×Option Addr×Nat // q.1≤s.size∧q.2.1.length≤q.1∧∃n,(s.data.toList.drop q.1).length<n∧scanF n (s.data.toList.drop q.1) q.1 q.2.1=r}) (fun q=>[(0,.string s),(2,.slice q.1.2.2.1 q.1.2.1.length q.1.2.2.2),(3,.int .i64 (q.1.1:Int))]) (fun _=>[]) (fun q=>[Row 227 3 q.1.2.2.1 q.1.2.1.length q.1.2.2.2 (q.1.2.1.flatMap tkf)]) (fun q=>s.size - q.1.1) ⟨(0,[],none,0),by show 0≤_;omega,by show 0≤0;omega,s.data.toList.length+1,by simp,hr⟩ ⟨rfl,rfl,rfl,trivial⟩ ?_
 rintro ⟨⟨i,acc,o,cap⟩,hi1,hi2,nn,hn,hi3⟩
 dsimp only at hi1 hi2 hi3 hn ⊢
 obtain ⟨nn,rfl⟩:∃m,nn=m+1:=⟨nn - 1,by omega⟩
 by_cases hlt:i<s.data.toList.length
 ·have hcc:=List.getElem?_eq_getElem hlt
  have hdr:=List.drop_eq_getElem_cons hlt
  have hlt2:i<s.size:=by omega
  generalize hce:s.data.toList[i]=c at *
  rw [hdr] at hi3 hn
  have w1:=wrapi (z:=(i:Int)+1) (by omega) (by omega)
  have hdl:(s.data.toList.drop (i+1)).length<nn:=by simpa using hn
  have hrest:(ofL (c::s.data.toList.drop (i+1))).data.toList=c::s.data.toList.drop (i+1):=rfl
  have hroom:(2 * (acc.length+1)+200) * 32≤281474976710656:=by omega
  have k35:(c.toNat:Int)=35↔c=35:=(u8i (k:=35) (by decide)).symm
  have k32:(c.toNat:Int)=32↔c=32:=(u8i (k:=32) (by decide)).symm
  have k9:(c.toNat:Int)=9↔c=9:=(u8i (k:=9) (by decide)).symm
  have k34:(c.toNat:Int)=34↔c=34:=(u8i (k:=34) (by decide)).symm
  unfold scanF at hi3
  by_cases c35:c=35
  ·rw [if_pos (by simpa using c35)] at hi3
   subst hi3
   have q35:=k35.2 c35
   repeat' (first|refine ZC ?_|refine ZM ?_|refine Zu (s:=s) i c hcc ?_|(refine ZG (fun hc=>?_) (fun hc=>?_)<;>(try simp at hc)<;>(try omega))|(refine ZB (fun hc=>?_) (fun hc=>?_)<;>(try simp at hc)<;>(try omega))|fail)
   refine YA (T:=227) (sz:=3) (f:=tkf) (o:=o) (cap:=cap) acc ?_ rfl rfl
   exact ZD (o,cap) rfl trivial
  rw [if_neg (by simpa using c35)] at hi3
  have q35:¬(c.toNat:Int)=35:=fun h=>c35 (k35.1 h)
  by_cases csp:c=32∨c=9
  ·rw [if_pos (by simpa using csp)] at hi3
   have qsp:(c.toNat:Int)=32∨(c.toNat:Int)=9:=csp.imp k32.2 k9.2
   repeat' (first|refine Zu (s:=s) i c hcc ?_|refine ZC ?_|refine ZH (fun b=>?_)|refine Z3 (s:=s) (u:=ofL (c::s.data.toList.drop (i+1))) i (by omega) hdr ?_|rw [w1]|(refine ZG (fun hc=>?_) (fun hc=>?_)<;>(try simp at hc)<;>(try omega))|(refine ZB (fun hc=>?_) (fun hc=>?_)<;>(try simp at hc)<;>(try omega))|fail)
   all_goals exact ZJ ⟨(i+1,acc,o,cap),by show i+1≤s.size;omega,by show acc.length≤i+1;omega,nn,hdl,hi3⟩ (by show s.size - (i+1)<s.size - i;omega) ⟨rfl,rfl,rfl,trivial⟩
  rw [if_neg (by simpa using csp)] at hi3
  have q32:¬(c.toNat:Int)=32:=fun h=>csp (.inl (k32.1 h))
  have q9:¬(c.toNat:Int)=9:=fun h=>csp (.inr (k9.1 h))
  have hrs:(ofL (c::s.data.toList.drop (i+1))).size=s.size - i:=by
   show (c::s.data.toList.drop (i+1)).toArray.size=_
   simp;omega
  have h1s:=YJ isLet (c::s.data.toList.drop (i+1))
  have h2s:=YJ inNum (c::s.data.toList.drop (i+1))
  simp only [List.length_cons,List.length_drop] at h1s h2s
  have n4:=Ud c
  have n5:=ruDigit_ok c
  have n6:=ruSpan_ok Ud (ofL (c::s.data.toList.drop (i+1))) (by omega)
  have n7:=ruSpan_ok ruNumeral_ok (ofL (c::s.data.toList.drop (i+1))) (by omega)
  rw [hrest] at n6 n7
  by_cases cl:isLet c=true
  ·rw [if_pos cl] at hi3
   have hp:0<spanF isLet (c::s.data.toList.drop (i+1)):=by simp [spanF,cl]
   rw [cl] at n4
   generalize hk:spanF isLet (c::s.data.toList.drop (i+1))=kk at *
   have w2:=wrapi (z:=(i:Int)+(kk:Int)) (by omega) (by omega)
   repeat' (first|refine Zs (m:=acc.length) (m2:=1) (fun o' cap'=>?_) (hroom:=hroom)|refine Zu (s:=s) i c hcc ?_|refine ZC ?_|refine ZH (fun b=>?_)|refine ZA (n4) (fun _ _=>?_)|refine ZA (n6) (fun _ _=>?_)|refine Z3 (s:=s) (u:=ofL (c::s.data.toList.drop (i+1))) i (by omega) hdr ?_|refine r_sTo (s:=ofL (c::s.data.toList.drop (i+1))) (u:=ofL ((c::s.data.toList.drop (i+1)).take kk)) kk (by omega) rfl ?_|rw [w2]|(refine ZG (fun hc=>?_) (fun hc=>?_)<;>(try simp at hc)<;>(try omega))|refine ZI 11 [Pt _ (.cells _ 227 _)] [(0,0),(1,0),(2,0),(3,0),(4,4),(5,0),(6,4)] [] ?_|(refine ZB (fun hc=>?_) (fun hc=>?_)<;>(try simp at hc)<;>(try omega))|fail)
   have hd2:(c::s.data.toList.drop (i+1)).drop kk=s.data.toList.drop (i+kk):=by rw [←hdr,List.drop_drop]
   rw [hd2] at hi3
   have e1:acc.length+1=(acc++[(⟨1,ofL ((c::s.data.toList.drop (i+1)).take kk),i⟩:Tk)]).length:=by simp
   have e2:acc.flatMap tkf++[.int .i64 1,.string (ofL ((c::s.data.toList.drop (i+1)).take kk)),.int .i64 i]=(acc++[(⟨1,ofL ((c::s.data.toList.drop (i+1)).take kk),i⟩:Tk)]).flatMap tkf:=by simp
   refine Zi (T:=227) (sz:=3) (o:=o') (cap:=cap') (m:=acc.length+1) _ _ e1 e2 ?_
   rw [e1]
   exact ZJ ⟨(i+kk,acc++[⟨1,ofL ((c::s.data.toList.drop (i+1)).take kk),i⟩],o',cap'),by show i+kk≤s.size;omega,by show (acc++[_]).length≤i+kk;simp;omega,nn,by show (s.data.toList.drop (i+kk)).length<nn;simp only [List.length_drop,List.length_cons] at hn ⊢;omega,hi3⟩ (by show s.size - (i+kk)<s.size - i;omega) ⟨rfl,rfl,rfl,trivial⟩
  rw [if_neg cl] at hi3
  have cl:isLet c=false:=by simpa using cl
  rw [cl] at n4
  by_cases cd:isDgt c=true
  ·rw [if_pos cd] at hi3
   have hp:0<spanF inNum (c::s.data.toList.drop (i+1)):=by simp [spanF,inNum,cd]
   rw [cd] at n5
   generalize hk:spanF inNum (c::s.data.toList.drop (i+1))=kk at *
   have w2:=wrapi (z:=(i:Int)+(kk:Int)) (by omega) (by omega)
   repeat' (first|refine Zs (m:=acc.length) (m2:=1) (fun o' cap'=>?_) (hroom:=hroom)|refine Zu (s:=s) i c hcc ?_|refine ZC ?_|refine ZH (fun b=>?_)|refine ZA (n4) (fun _ _=>?_)|refine ZA (n5) (fun _ _=>?_)|refine ZA (n7) (fun _ _=>?_)|refine Z3 (s:=s) (u:=ofL (c::s.data.toList.drop (i+1))) i (by omega) hdr ?_|refine r_sTo (s:=ofL (c::s.data.toList.drop (i+1))) (u:=ofL ((c::s.data.toList.drop (i+1)).take kk)) kk (by omega) rfl ?_|rw [w2]|(refine ZG (fun hc=>?_) (fun hc=>?_)<;>(try simp at hc)<;>(try omega))|refine ZI 14 [Pt _ (.cells _ 227 _)] [(0,0),(1,0),(2,0),(3,0),(4,4),(5,0),(6,4)] [] ?_|(refine ZB (fun hc=>?_) (fun hc=>?_)<;>(try simp at hc)<;>(try omega))|fail)
   have hd2:(c::s.data.toList.drop (i+1)).drop kk=s.data.toList.drop (i+kk):=by rw [←hdr,List.drop_drop]
   rw [hd2] at hi3
   have e1:acc.length+1=(acc++[(⟨2,ofL ((c::s.data.toList.drop (i+1)).take kk),i⟩:Tk)]).length:=by simp
   have e2:acc.flatMap tkf++[.int .i64 2,.string (ofL ((c::s.data.toList.drop (i+1)).take kk)),.int .i64 i]=(acc++[(⟨2,ofL ((c::s.data.toList.drop (i+1)).take kk),i⟩:Tk)]).flatMap tkf:=by simp
   refine Zi (T:=227) (sz:=3) (o:=o') (cap:=cap') (m:=acc.length+1) _ _ e1 e2 ?_
   rw [e1]
   exact ZJ ⟨(i+kk,acc++[⟨2,ofL ((c::s.data.toList.drop (i+1)).take kk),i⟩],o',cap'),by show i+kk≤s.size;omega,by show (acc++[_]).length≤i+kk;simp;omega,nn,by show (s.data.toList.drop (i+kk)).length<nn;simp only [List.length_drop,List.length_cons] at hn ⊢;omega,hi3⟩ (by show s.size - (i+kk)<s.size - i;omega) ⟨rfl,rfl,rfl,trivial⟩
  rw [if_neg cd] at hi3
  have cd:isDgt c=false:=by simpa using cd
  rw [cd] at n5
  by_cases c34:c=34
  ·rw [if_pos (by simpa using c34)] at hi3
   have q34:=k34.2 c34
   have n8:=ruUnquote_ok (ofL (c::s.data.toList.drop (i+1))) (by omega) (by omega)
   rw [hrest,List.drop_succ_cons,List.drop_zero] at n8
   cases hu:unqF (s.data.toList.drop (i+1)) 1 [] with
   | none=>
    rw [hu] at hi3 n8
    have hi3:([],i,false)=r:=hi3
    subst hi3
    repeat' (first|refine Zu (s:=s) i c hcc ?_|refine ZC ?_|refine ZH (fun b=>?_)|refine ZA (n4) (fun _ _=>?_)|refine ZA (n5) (fun _ _=>?_)|refine ZA (n8) (fun _ _=>?_)|refine Z3 (s:=s) (u:=ofL (c::s.data.toList.drop (i+1))) i (by omega) hdr ?_|(refine ZG (fun hc=>?_) (fun hc=>?_)<;>(try simp at hc)<;>(try omega))|(refine ZB (fun hc=>?_) (fun hc=>?_)<;>(try simp at hc)<;>(try omega))|fail)
    refine Zx (F1:=[]) (f:=Sl 227 tkf none 0 []) (fun hp _=>⟨Nat.le_refl _,.inl rfl⟩) ?_
    exact Zz (Z5 (Zg (none,0) rfl trivial))
   | some q=>
    obtain ⟨tx,kk⟩:=q
    rw [hu] at hi3 n8
    obtain ⟨u1,u2⟩:=unq_le _ _ _ _ _ hu
    simp only [List.length_drop] at u2
    have w2:=wrapi (z:=(i:Int)+(kk:Int)) (by omega) (by omega)
    have hd2:(c::s.data.toList.drop (i+1)).drop kk=s.data.toList.drop (i+kk):=by rw [←hdr,List.drop_drop]
    have hi3:scanF nn ((c::s.data.toList.drop (i+1)).drop kk) (i+kk) (acc++[⟨3,ofL tx,i⟩])=r:=hi3
    rw [hd2] at hi3
    repeat' (first|refine Zs (m:=acc.length) (m2:=1) (fun o' cap'=>?_) (hroom:=hroom)|refine Zu (s:=s) i c hcc ?_|refine ZC ?_|refine ZH (fun b=>?_)|refine ZA (n4) (fun _ _=>?_)|refine ZA (n5) (fun _ _=>?_)|refine ZA (n8) (fun _ _=>?_)|refine Z3 (s:=s) (u:=ofL (c::s.data.toList.drop (i+1))) i (by omega) hdr ?_|rw [w2]|(refine ZG (fun hc=>?_) (fun hc=>?_)<;>(try simp at hc)<;>(try omega))|(refine ZB (fun hc=>?_) (fun hc=>?_)<;>(try simp at hc)<;>(try omega))|fail)
    have e1:acc.length+1=(acc++[(⟨3,ofL tx,i⟩:Tk)]).length:=by simp
    have e2:acc.flatMap tkf++[.int .i64 3,.string (ofL tx),.int .i64 i]=(acc++[(⟨3,ofL tx,i⟩:Tk)]).flatMap tkf:=by simp
    refine Zi (T:=227) (sz:=3) (o:=o') (cap:=cap') (m:=acc.length+1) _ _ e1 e2 ?_
    rw [e1]
    exact ZJ ⟨(i+kk,acc++[⟨3,ofL tx,i⟩],o',cap'),by show i+kk≤s.size;omega,by show (acc++[_]).length≤i+kk;simp;omega,nn,by show (s.data.toList.drop (i+kk)).length<nn;simp only [List.length_drop,List.length_cons] at hn ⊢;omega,hi3⟩ (by show s.size - (i+kk)<s.size - i;omega) ⟨rfl,rfl,rfl,trivial⟩
  rw [if_neg (by simpa using c34)] at hi3
  have q34:¬(c.toNat:Int)=34:=fun h=>c34 (k34.1 h)
  have n8:=X5 symS c
  by_cases cs:isSym c=true
  ·rw [if_pos cs] at hi3
   have hx:0≤Lib.indexByte symS.data.toList c:=by have:=sym_ix c;rw [cs] at this;simpa using this
   repeat' (first|refine Zs (m:=acc.length) (m2:=1) (fun o' cap'=>?_) (hroom:=hroom)|refine Zu (s:=s) i c hcc ?_|refine ZC ?_|refine ZH (fun b=>?_)|refine ZA (n4) (fun _ _=>?_)|refine ZA (n5) (fun _ _=>?_)|refine ZA (n8) (fun _ _=>?_)|refine Z3 (s:=s) (u:=ofL (c::s.data.toList.drop (i+1))) i (by omega) hdr ?_|refine r_sTo (s:=ofL (c::s.data.toList.drop (i+1))) (u:=ofL [c]) 1 (by omega) rfl ?_|rw [w1]|(refine ZG (fun hc=>?_) (fun hc=>?_)<;>(try simp at hc)<;>(try omega))|refine ZI 21 [Pt _ (.cells _ 227 _)] [(0,0),(1,0),(2,0),(3,4),(4,0),(5,4)] [] ?_|(refine ZB (fun hc=>?_) (fun hc=>?_)<;>(try simp at hc)<;>(try omega))|fail)
   have e1:acc.length+1=(acc++[(⟨4,ofL [c],i⟩:Tk)]).length:=by simp
   have e2:acc.flatMap tkf++[.int .i64 4,.string (ofL [c]),.int .i64 i]=(acc++[(⟨4,ofL [c],i⟩:Tk)]).flatMap tkf:=by simp
   refine Zi (T:=227) (sz:=3) (o:=o') (cap:=cap') (m:=acc.length+1) _ _ e1 e2 ?_
   rw [e1]
   exact ZJ ⟨(i+1,acc++[⟨4,ofL [c],i⟩],o',cap'),by show i+1≤s.size;omega,by show (acc++[_]).length≤i+1;simp;omega,nn,by show (s.data.toList.drop (i+1)).length<nn;simp only [List.length_drop,List.length_cons] at hn ⊢;omega,hi3⟩ (by show s.size - (i+1)<s.size - i;omega) ⟨rfl,rfl,rfl,trivial⟩
  ·rw [if_neg cs] at hi3
   subst hi3
   have cs:isSym c=false:=by simpa using cs
   have hx:¬0≤Lib.indexByte symS.data.toList c:=by have:=sym_ix c;rw [cs] at this;simpa using this
   repeat' (first|refine Zu (s:=s) i c hcc ?_|refine ZC ?_|refine ZH (fun b=>?_)|refine ZA (n4) (fun _ _=>?_)|refine ZA (n5) (fun _ _=>?_)|refine ZA (n8) (fun _ _=>?_)|refine Z3 (s:=s) (u:=ofL (c::s.data.toList.drop (i+1))) i (by omega) hdr ?_|(refine ZG (fun hc=>?_) (fun hc=>?_)<;>(try simp at hc)<;>(try omega))|(refine ZB (fun hc=>?_) (fun hc=>?_)<;>(try simp at hc)<;>(try omega))|fail)
   refine Zx (F1:=[]) (f:=Sl 227 tkf none 0 []) (fun hp _=>⟨Nat.le_refl _,.inl rfl⟩) ?_
   exact Zz (Z5 (Zg (none,0) rfl trivial))
 ·have hd:s.data.toList.drop i=[]:=List.drop_eq_nil_of_le (by omega)
  rw [hd] at hi3
  have hi3:(acc,i,true)=r:=hi3
  subst hi3
  have hlt2:¬i<s.size:=by omega
  repeat' (first|refine ZC ?_|refine ZM ?_|(refine ZG (fun hc=>?_) (fun hc=>?_)<;>(try simp at hc)<;>(try omega))|fail)
  refine YA (T:=227) (sz:=3) (f:=tkf) (o:=o) (cap:=cap) acc ?_ rfl rfl
  exact ZD (o,cap) rfl trivial
abbrev psC (x:Ps) (o:Option Addr) (cap r:Nat):Obj:=.cells #[.slice o x.tk.length cap,.int .i64 x.en,.int .i64 x.op,.map (some r),.int .i64 x.pl,.int .i64 x.e] 232
abbrev TkS (q:Option Addr×Nat) (l:List Tk):Pf:=Sl 227 tkf q.1 q.2 l
abbrev PsP (v:Value) (b r:Nat) (x:Ps):Post:=⟨Option Addr×Nat,fun _=>v,fun _=>True,fun q=>[TkS q x.tk],fun q=>[Pt b (psC x q.1 q.2 r)]⟩
def tkv (t:Tk):Value:=.agg #[.int .i64 t.kd,.string t.tx,.int .i64 t.pl]
def KdOK (x:Ps):Prop:=∀t ∈ x.tk,t.kd≠0∧t.tx.size≤100000
theorem KdOK.peek {x:Ps} (h:KdOK x):x.peek.tx.size≤100000:=by
 unfold Ps.peek
 split
 ·show (#[]:Array UInt8).size≤_;decide
 ·rename_i t l ht;exact (h t (by rw [ht];exact .head _)).2
theorem KdOK.pass {x:Ps} (h:KdOK x):KdOK x.pass:=fun t ht=>h t (List.mem_of_mem_tail ht)
theorem KdOK.fail {x:Ps} (h:KdOK x) (i e:Int):KdOK (x.fail i e):=by
 unfold Ps.fail
 split
 ·intro t ht;cases ht
 ·exact h
theorem KdOK.need {x:Ps} (h:KdOK x) (k:Int):KdOK (x.need k):=by
 unfold Ps.need
 split
 ·exact h.pass
 ·exact h.pass.fail _ _
theorem KdOK.symb {x:Ps} (h:KdOK x) (s:ByteArray):KdOK (x.symb s):=by
 unfold Ps.symb
 split
 ·exact h.pass
 ·exact h.fail _ _
theorem UP {a b:ByteArray}:a.toList=b.toList↔a=b:=by
 rw [Lib.toList_data,Lib.toList_data]
 exact ⟨fun h=>XN h,fun h=>by rw [h]⟩
section
variable (b r:Nat) (x:Ps) (o:Option Addr) (cap:Nat)
theorem Zr (i e:Int):Enters 170∧Spec prog 170 #[.pointer (some ⟨b,0,none⟩),.int .i64 i,.int .i64 e] [TkS (o,cap) x.tk] [Pt b (psC x o cap r)] (PsP (.tuple #[]) b r (x.fail i e)):=by
 generalize hy:x.fail i e=y
 unfold Ps.fail at hy
 generalize b=bp
 refine ZE [_,_,_] func170 ntmps170 fun G w hp=>?_
 by_cases h:x.e=0
 ·rw [if_pos h] at hy
  subst hy
  repeat' (first|refine ZC ?_|(refine ZB (fun hc=>?_) (fun hc=>?_)<;>(try simp at hc)<;>(try omega))|fail)
  refine Zx (F1:=[]) (f:=TkS (none,0) []) (fun hp _=>⟨Nat.le_refl _,.inl rfl⟩) ?_
  exact Zw (none,0) rfl trivial
 ·rw [if_neg h] at hy
  subst hy
  repeat' (first|refine ZC ?_|(refine ZB (fun hc=>?_) (fun hc=>?_)<;>(try simp at hc)<;>(try omega))|fail)
  exact Zw (o,cap) rfl trivial
theorem Xh:Enters 169∧Spec prog 169 #[.pointer (some ⟨b,0,none⟩)] [TkS (o,cap) x.tk] [Pt b (psC x o cap r)] ⟨Unit,fun _=>tkv x.peek,fun _=>True,fun _=>[],fun _=>[Pt b (psC x o cap r)]⟩:=by
 obtain ⟨tk,en,op,pl,e⟩:=x
 generalize b=bp
 refine ZE [_] func169 ntmps169 fun G w hp=>?_
 cases tk with
 | nil=>
  repeat' (first|refine ZC ?_|refine ZH (fun b=>?_)|fail)
  exact ZD () rfl trivial
 | cons t tk=>
  have hx0:(t::tk)[0]? = some t:=rfl
  repeat' (first|refine ZC ?_|refine ZH (fun b=>?_)|refine ZU (es:=t::tk) (f:=tkf) 0 t hx0 (fun b off=>?_)|refine ZQ ?_|fail)
  exact ZD () rfl trivial
theorem Y9 (hk:KdOK x):Enters 210∧Spec prog 210 #[.pointer (some ⟨b,0,none⟩)] [TkS (o,cap) x.tk] [Pt b (psC x o cap r)] (PsP (tkv x.peek) b r x.pass):=by
 have n1:=Xh b r x o cap
 obtain ⟨tk,en,op,pl,e⟩:=x
 generalize b=bp at *
 refine ZE [_] func210 ntmps210 fun G w hp=>?_
 cases tk with
 | nil=>
  repeat' (first|refine ZC ?_|refine ZH (fun b=>?_)|refine ZA (n1) (fun _ _=>?_)|fail)
  exact ZD (o,cap) rfl trivial
 | cons t tk=>
  have h0:=(hk t (.head _)).1
  have n1':Enters 169∧Spec prog 169 #[.pointer (some ⟨bp,0,none⟩)] [TkS (o,cap) (t::tk)] [Pt bp (psC ⟨t::tk,en,op,pl,e⟩ o cap r)] ⟨Unit,fun _=>tkv t,fun _=>True,fun _=>[],fun _=>[Pt bp (psC ⟨t::tk,en,op,pl,e⟩ o cap r)]⟩:=n1
  repeat' (first|refine ZC ?_|refine ZH (fun b=>?_)|refine ZA (n1') (fun _ _=>?_)|refine l_slL (es:=t::tk) (f:=tkf) 1 (by simp) (fun o'=>?_)|(refine ZB (fun hc=>?_) (fun hc=>?_)<;>(try simp at hc)<;>(try omega))|fail)
  exact ZD (o',cap - 1) rfl trivial
theorem XZ (hk:KdOK x) (k:Int) (s:ByteArray):Enters 165∧Spec prog 165 #[.pointer (some ⟨b,0,none⟩),.int .i64 k,.string s] [TkS (o,cap) x.tk] [Pt b (psC x o cap r)] (PsP (.bool (x.is k s)) b r (if x.is k s then x.pass else x)):=by
 have n1:=Xh b r x o cap
 have n2:=Y9 b r x o cap hk
 generalize hy:(if x.is k s then x.pass else x)=y
 generalize hz:x.is k s=z at *
 unfold Ps.is at hz
 generalize hp:x.peek=t at *
 obtain ⟨kd,tx,pl⟩:=t
 generalize b=bp at *
 by_cases h1:kd=k
 ·by_cases h2:tx=s
  ·have:z=true:=by rw [←hz];simp [h1,h2]
   subst this
   subst h1;subst h2
   subst hy
   refine ZE [_,_,_] func165 ntmps165 fun G w hp=>?_
   repeat' (first|refine ZC ?_|refine ZH (fun b=>?_)|refine ZA (n1) (fun _ _=>?_)|refine ZA (n2) (fun _ _=>?_)|(refine ZG (fun hc=>?_) (fun hc=>?_)<;>(try simp at hc)<;>(try omega))|(refine ZB (fun hc=>?_) (fun hc=>?_)<;>(try simp at hc)<;>(try omega))|fail)
   rename_i q _
   exact ZD q rfl trivial
  ·have:z=false:=by rw [←hz];simp [h2]
   subst this
   subst hy
   have h2':¬tx.toList=s.toList:=fun h=>h2 (UP.1 h)
   refine ZE [_,_,_] func165 ntmps165 fun G w hp=>?_
   repeat' (first|refine ZC ?_|refine ZH (fun b=>?_)|refine ZA (n1) (fun _ _=>?_)|refine ZA (n2) (fun _ _=>?_)|(refine ZG (fun hc=>?_) (fun hc=>?_)<;>(try simp at hc)<;>(try omega))|(refine ZB (fun hc=>?_) (fun hc=>?_)<;>(try simp at hc)<;>(try omega))|fail)
   all_goals first|exact absurd ‹_› h2'|exact ZD (o,cap) rfl trivial
 ·have:z=false:=by rw [←hz];simp [h1]
  subst this
  subst hy
  refine ZE [_,_,_] func165 ntmps165 fun G w hp=>?_
  repeat' (first|refine ZC ?_|refine ZH (fun b=>?_)|refine ZA (n1) (fun _ _=>?_)|(refine ZG (fun hc=>?_) (fun hc=>?_)<;>(try simp at hc)<;>(try omega))|fail)
  exact ZD (o,cap) rfl trivial
theorem YZ (hk:KdOK x) (k:Int):Enters 189∧Spec prog 189 #[.pointer (some ⟨b,0,none⟩),.int .i64 k] [TkS (o,cap) x.tk] [Pt b (psC x o cap r)] (PsP (tkv x.peek) b r (x.need k)):=by
 have n1:=Y9 b r x o cap hk
 have n2:=fun (q:Option Addr×Nat)=>Zr b r x.pass q.1 q.2 x.peek.pl 30
 generalize hy:x.need k=y
 unfold Ps.need at hy
 generalize hp:x.peek=t at *
 obtain ⟨kd,tx,pl⟩:=t
 generalize b=bp at *
 by_cases h1:kd=k
 ·rw [if_pos h1] at hy
  subst hy
  refine ZE [_,_] func189 ntmps189 fun G w hp=>?_
  repeat' (first|refine ZC ?_|refine ZH (fun b=>?_)|refine ZA (n1) (fun _ _=>?_)|(refine ZB (fun hc=>?_) (fun hc=>?_)<;>(try simp at hc)<;>(try omega))|fail)
  rename_i q _
  exact ZD q rfl trivial
 ·rw [if_neg h1] at hy
  subst hy
  refine ZE [_,_] func189 ntmps189 fun G w hp=>?_
  repeat' (first|refine ZC ?_|refine ZH (fun b=>?_)|refine ZA (n1) (fun _ _=>?_)|refine ZA (n2 _) (fun _ _=>?_)|(refine ZB (fun hc=>?_) (fun hc=>?_)<;>(try simp at hc)<;>(try omega))|fail)
  rename_i q _
  exact ZD q rfl trivial
theorem WK (hk:KdOK x) (s:ByteArray):Enters 167∧Spec prog 167 #[.pointer (some ⟨b,0,none⟩),.string s] [TkS (o,cap) x.tk] [Pt b (psC x o cap r)] (PsP (.tuple #[]) b r (x.symb s)):=by
 have n1:=XZ b r x o cap hk 4 s
 have n2:=fun (q:Option Addr×Nat)=>Xh b r x q.1 q.2
 have n3:=fun (q:Option Addr×Nat)=>Zr b r x q.1 q.2 x.peek.pl 30
 generalize hy:x.symb s=y
 unfold Ps.symb at hy
 cases hi:x.is 4 s with
 | true=>
  rw [hi] at n1 hy
  rw [if_pos rfl] at n1 hy
  subst hy
  refine ZE [_,_] func167 ntmps167 fun G w hp=>?_
  repeat' (first|refine ZC ?_|refine ZA (n1) (fun _ _=>?_)|fail)
  rename_i q _
  exact Zw q rfl trivial
 | false=>
  rw [hi] at n1 hy
  rw [if_neg (by decide)] at n1 hy
  subst hy
  refine ZE [_,_] func167 ntmps167 fun G w hp=>?_
  repeat' (first|refine ZC ?_|refine ZA (n1) (fun _ _=>?_)|refine ZA (n2 _) (fun _ _=>?_)|refine ZA (n3 _) (fun _ _=>?_)|fail)
  rename_i q _
  exact Zw q rfl trivial
end
section
variable {n:Nat} {C:Cx} {Q:Exit→Act→World→Prop} {E E':List (Nat×Value)} {F F' F1 Fs F0:List Pf} {R R' R0 Rs N N' A:List HP} {k k':List Fr} {ops l:List Oper} {i d:Nat} {t ty0:TypeId} {x y z:Operand} {pos:String} {aft:Array Edge} {gd:Option (Nat×Bool)} {α β:Type} [DecidableEq α] {K:α→Value} {V:β→Value}
theorem Yy {kt et r:Nat} {rs:TRow} {m:List (α×β)} (hk:KeyOK kt K) (a:α) (v:β) (nx:Wl n C ops.toArray k Q l E F (Mp K V r (mset a v m)::R0)) (hw:wantL ops E ⟨none,.insert t x y z,ty0,pos,aft,gd⟩=some true:=by rfl)
  (hx:ev E x=some (.map (some r)):=by rfl) (hy:ev E y=some (K a):=by rfl) (hz:ev E z=some (V v):=by rfl) (hts:lookT tab t=some rs:=by rfl) (hrs:rs.k = .map kt et:=by rfl)
  (hs:Sel (Mp K V r m) R R0:=by (repeat (first|exact Sel.here|apply Sel.there));first|done|fail):Wl n C ops.toArray k Q (⟨none,.insert t x y z,ty0,pos,aft,gd⟩::l) E F R:=
 Zn (fun t ht=>by cases ht) (fun c hc=>by cases hc) hw fun ac w ha hsat=>by
  obtain ⟨es,clock,h1,he,hB⟩:=mp_open hs hsat
  have hb:=h1.pt Sel.here
  have hu:=Xg (w:=w) hts hrs
  have hg:(getObj r).run prog w = .ok (.map es clock) w:=by simp [getObj,Sem.run,hb]
  have hc:=hk.chk a false w
  have hf:=Yo hk a es.toList m w he
  unfold OpRes
  simp only [execOp,ha.ev (x:=x) (by rw [ZF];exact hx),ha.ev (x:=y) (by rw [ZF];exact hy),ha.ev (x:=z) (by rw [ZF];exact hz),Instr.mapUpdate,Sem.run_bind,hu,Result.andThen,hg,hc,hf]
  cases hm:mfind a m 0 with
  | none=>
   simp only [Option.map_none]
   have hset:(setObj r (.map (es.push {key:=K a,val:=V v,born:=clock}) (clock+1))).run prog w = .ok () {w with heap:=w.heap.setIfInBounds r (.map (es.push {key:=K a,val:=V v,born:=clock}) (clock+1))}:=by simp [setObj,Sem.run,hb]
   simp only [hset,Sem.run_pure]
   refine fun a' ha'=>nx a' _ ha' (V5 (Yi h1) ?_ ?_)
   ·rw [UE a v m 0 hm]
    simp [he]
   ·refine ⟨?_,fun e hem=>?_⟩
    ·rw [Array.toList_push,List.map_append]
     refine List.nodup_append.2 ⟨hB.1,by simp,fun b hb c hc=>?_⟩
     obtain ⟨e,hem,rfl⟩:=List.mem_map.1 hb
     have:=hB.2 e hem
     simp at hc
     omega
    ·rw [Array.toList_push] at hem
     rcases List.mem_append.1 hem with hem|hem
     ·have:=hB.2 e hem;omega
     ·obtain rfl:=List.mem_singleton.1 hem
      exact Nat.lt_succ_self _
  | some q=>
   obtain ⟨j,u⟩:=q
   obtain ⟨p,hj,hp,hms⟩:=UT a v m 0 j u hm
   obtain rfl:j=p:=by omega
   have hkey:(es.toList.map (fun e=>(e.key,e.val)))[j]? = some (K a,V u):=by rw [he];simp [hp]
   have hold:((es[j]?).map (·.key)).getD (K a)=K a:=by
    simp only [List.getElem?_map,Array.getElem?_toList,Option.map_eq_some_iff] at hkey
    obtain ⟨e,he1,he2⟩:=hkey
    rw [he1]
    simp only [Prod.mk.injEq] at he2
    simp [he2.1]
   simp only [Option.map_some]
   have hkt:(Instr.keyThatStays (((es[j]?).map (·.key)).getD (K a)) (K a)).run prog w = .ok (K a) w:=by
    rw [hold];simp [Instr.keyThatStays,hk.bits a]
   have hset:(setObj r (.map (es.modify j fun e=>{e with key:=K a,val:=V v}) clock)).run prog w = .ok () {w with heap:=w.heap.setIfInBounds r (.map (es.modify j fun e=>{e with key:=K a,val:=V v}) clock)}:=by simp [setObj,Sem.run,hb]
   simp only [hkt,Sem.run_bind,Result.andThen,hset,Sem.run_pure]
   have hborn:(es.modify j fun e=>{e with key:=K a,val:=V v}).toList.map (·.born)=es.toList.map (·.born):=by
    apply List.ext_getElem?
    intro i
    simp only [List.getElem?_map,Array.getElem?_toList,Array.getElem?_modify]
    split
    ·cases es[i]?<;>rfl
    ·rfl
   refine fun a' ha'=>nx a' _ ha' (V5 (Yi h1) ?_ ⟨by rw [hborn];exact hB.1,fun e hem=>?_⟩)
   rotate_left
   ·have h3:e.born ∈ es.toList.map (·.born):=by rw [←hborn];exact List.mem_map_of_mem hem
    obtain ⟨e',hem',he'⟩:=List.mem_map.1 h3
    rw [←he'];exact hB.2 e' hem'
   rw [hms]
   apply List.ext_getElem?
   intro i
   have hei:(es.toList.map (fun e=>(e.key,e.val)))[i]? = (m.map fun x=>(K x.1,V x.2))[i]?:=by rw [he]
   simp only [List.getElem?_map,Array.getElem?_toList,Array.getElem?_modify,List.getElem?_set] at hei ⊢
   by_cases hij:j=i
   ·subst hij
    simp only [if_true]
    have hlt:=(List.getElem?_eq_some_iff.1 hp).1
    rw [if_pos hlt]
    rw [hp] at hei
    simp only [Option.map_some,Option.map_eq_some_iff] at hei
    obtain ⟨e,he1,_⟩:=hei
    simp [he1]
   ·simp only [if_neg hij]
    exact hei
end
def skv (s:ByteArray):Value:=.string s
theorem beqSt (a b:ByteArray):(a == b)=decide (a=b):=by
 have h:(a == b)=(a.toList == b.toList):=by simp [beq_toListBytes]
 rw [h,Bool.eq_iff_iff]
 simp [UP]
theorem ZZ:KeyOK 9 skv where
 eq a b w:=by
  show (Op.equalIn (9999+1) _ (.string a) (.string b)).run prog w = .ok (decide (a=b)) w
  rw [Op.equalIn]
  simp [run_underlying underlying9,beqSt]
 chk a em w:=by
  show (Instr.checkKey em (9999+1) _ (.string a)).run prog w=_
  rw [Instr.checkKey]
  simp [run_underlying underlying9]
 bits a:=by simp [skv,Instr.sameBits,beqSt]
 now:=⟨_,underlying9,fun a b=>by simp [skv,Instr.sameNow,beqSt]⟩
abbrev fnv (f:FuncId):Value:=.func (.func f) #[] #[]
def cmT (k:Nat):Value:=if k=0 then fnv 194 else if k=1 then fnv 195 else if k=2 then fnv 196 else .nilFunc
def fdT (k:Nat):Value:=if k=0 then fnv 191 else if k=1 then fnv 192 else fnv 193
def cmN (k:Nat):Value:=if k=0 then fnv 203 else if k=1 then fnv 204 else if k=2 then fnv 205 else .nilFunc
def fdN (k:Nat):Value:=if k=0 then fnv 199 else if k=1 then fnv 200 else if k=2 then fnv 201 else fnv 202
def pv0 (b:Nat):Value:=.pointer (some ⟨b,0,none⟩)
def tsv (w:ByteArray) (f:FuncId) (cs:Array Value):Value:=.iface 282 (.agg #[.string w,.func (.func f) #[] cs])
abbrev IV:=TypeId×Value
def ivOf (x:IV):Value:=.iface x.1 x.2
abbrev ivl:IV→List Value:=fun x=>[ivOf x]
theorem iv_one (x:IV):(ivl x).all YR=true:=rfl
def tsi (w:ByteArray) (f:FuncId) (cs:Array Value):IV:=(282,.agg #[.string w,.func (.func f) #[] cs])
mutual
def CdP (h:H):Cnd→Value→Prop
 | .any l,v=>∃(o:Option Addr) (cap:Nat) (vs:List IV),v = .iface 305 (.agg #[.slice o vs.length cap])∧(Sl 168 ivl o cap vs).p h∧CdsP h l (vs.map ivOf)
 | .all l,v=>∃(o:Option Addr) (cap:Nat) (vs:List IV),v = .iface 319 (.agg #[.slice o vs.length cap])∧(Sl 168 ivl o cap vs).p h∧CdsP h l (vs.map ivOf)
 | .nt c,v=>∃u,v = .iface 317 (.agg #[u])∧CdP h c u
 | .nul,v=>v = .nilIface
 | .kd w k,v=>∃b,v=tsv w 188 #[pv0 b]∧h b=some (.cells #[.int .i64 k] 3)
 | .ch w k,v=>∃b,v=tsv w 190 #[pv0 b]∧h b=some (.cells #[.int .i64 k] 3)
 | .tx w f k s,v=>∃b1 b2 b3,v=tsv w 198 #[pv0 b1,pv0 b2,pv0 b3]∧h b1=some (.cells #[cmT k] 286)∧h b2=some (.cells #[fdT f] 284)∧h b3=some (.cells #[.string s] 9)
 | .nm w f k n,v=>∃b1 b2 b3,v=tsv w 207 #[pv0 b1,pv0 b2,pv0 b3]∧h b1=some (.cells #[cmN k] 156)∧h b2=some (.cells #[fdN f] 290)∧h b3=some (.cells #[.int .i64 n] 3)
 | .by_ w s,v=>∃b,v=tsv w 208 #[pv0 b]∧h b=some (.cells #[.string s] 36)
def CdsP (h:H):List Cnd→List Value→Prop
 | [],vs=>vs=[]
 | c::l,vs=>∃v ws,vs=v::ws∧CdP h c v∧CdsP h l ws
end
mutual
theorem Vg {h k:H} (s:Sub h k):∀(c:Cnd) (v:Value),CdP h c v→CdP k c v
 | .any l,v,hh=>by
  rw [CdP] at hh ⊢
  obtain ⟨o,cap,vs,h1,h2,h3⟩:=hh
  exact ⟨o,cap,vs,h1,(Sl _ _ o cap vs).m h k s h2,W7 s l _ h3⟩
 | .all l,v,hh=>by
  rw [CdP] at hh ⊢
  obtain ⟨o,cap,vs,h1,h2,h3⟩:=hh
  exact ⟨o,cap,vs,h1,(Sl _ _ o cap vs).m h k s h2,W7 s l _ h3⟩
 | .nt c,v,hh=>by
  rw [CdP] at hh ⊢
  obtain ⟨u,h1,h2⟩:=hh
  exact ⟨u,h1,Vg s c u h2⟩
 | .nul,v,hh=>by rw [CdP] at hh ⊢;exact hh
 | .kd w z,v,hh=>by
  rw [CdP] at hh ⊢
  obtain ⟨b,h1,h2⟩:=hh
  exact ⟨b,h1,s _ _ h2⟩
 | .ch w z,v,hh=>by
  rw [CdP] at hh ⊢
  obtain ⟨b,h1,h2⟩:=hh
  exact ⟨b,h1,s _ _ h2⟩
 | .tx w f z t,v,hh=>by
  rw [CdP] at hh ⊢
  obtain ⟨b1,b2,b3,h1,h2,h3,h4⟩:=hh
  exact ⟨b1,b2,b3,h1,s _ _ h2,s _ _ h3,s _ _ h4⟩
 | .nm w f z t,v,hh=>by
  rw [CdP] at hh ⊢
  obtain ⟨b1,b2,b3,h1,h2,h3,h4⟩:=hh
  exact ⟨b1,b2,b3,h1,s _ _ h2,s _ _ h3,s _ _ h4⟩
 | .by_ w t,v,hh=>by
  rw [CdP] at hh ⊢
  obtain ⟨b,h1,h2⟩:=hh
  exact ⟨b,h1,s _ _ h2⟩
theorem W7 {h k:H} (s:Sub h k):∀(l:List Cnd) (vs:List Value),CdsP h l vs→CdsP k l vs
 | [],vs,hh=>by rw [CdsP] at hh ⊢;exact hh
 | c::l,vs,hh=>by
  rw [CdsP] at hh ⊢
  obtain ⟨v,ws,h1,h2,h3⟩:=hh
  exact ⟨v,ws,h1,Vg s c v h2,W7 s l ws h3⟩
end
def CdF (c:Cnd) (v:Value):Pf:=⟨fun h=>CdP h c v,fun _ _ s hh=>Vg s c v hh⟩
def CdsF (l:List Cnd) (vs:List Value):Pf:=⟨fun h=>CdsP h l vs,fun _ _ s hh=>W7 s l vs hh⟩
theorem Wj {h:H}:∀{l:List Cnd} {vs:List Value},CdsP h l vs→vs.length=l.length
 | [],vs,hh=>by rw [CdsP] at hh;rw [hh];rfl
 | c::l,vs,hh=>by
  rw [CdsP] at hh
  obtain ⟨v,ws,rfl,_,h3⟩:=hh
  simp [Wj h3]
theorem XL {h:H}:∀{l m:List Cnd} {vs ws:List Value},CdsP h l vs→CdsP h m ws→CdsP h (l++m) (vs++ws)
 | [],m,vs,ws,h1,h2=>by rw [CdsP] at h1;subst h1;exact h2
 | c::l,m,vs,ws,h1,h2=>by
  rw [CdsP] at h1
  obtain ⟨v,us,rfl,h3,h4⟩:=h1
  rw [List.cons_append,CdsP]
  exact ⟨v,us++ws,rfl,h3,XL h4 h2⟩
theorem Yx {h:H} {c:Cnd} {v:Value}:CdsP h [c] [v]↔CdP h c v:=by
 rw [CdsP]
 constructor
 ·rintro ⟨v',ws,h1,h2,_⟩
  obtain ⟨rfl,_⟩:=List.cons.inj h1
  exact h2
 ·intro hh
  exact ⟨v,[],rfl,hh,by rw [CdsP]⟩
abbrev RdP (b r:Nat) (y:Cnd×Ps):Post:=⟨IV×Option Addr×Nat,fun q=>ivOf q.1,fun _=>True,fun q=>[CdF y.1 (ivOf q.1),TkS q.2 y.2.tk],fun q=>[Pt b (psC y.2 q.2.1 q.2.2 r)]⟩
def ivv (z:Int):Value:=.int .i64 z
theorem mget_kind (w:ByteArray):(mget w (mset (⟨#[110,101,119]⟩:ByteArray) (4:Int) (mset (⟨#[99,104,97,110,103,101,100]⟩:ByteArray) 3 (mset (⟨#[109,105,115,115,105,110,103]⟩:ByteArray) 2 []))))=if idx w wKinds<3 then some ((idx w wKinds:Nat)+2:Int) else none:=by
 have e:(mset (⟨#[110,101,119]⟩:ByteArray) (4:Int) (mset (⟨#[99,104,97,110,103,101,100]⟩:ByteArray) 3 (mset (⟨#[109,105,115,115,105,110,103]⟩:ByteArray) 2 [])))=[(⟨#[109,105,115,115,105,110,103]⟩,2),(⟨#[99,104,97,110,103,101,100]⟩,3),(⟨#[110,101,119]⟩,4)]:=by decide
 rw [e]
 by_cases h1:w=⟨#[109,105,115,115,105,110,103]⟩
 ·subst h1;decide
 by_cases h2:w=⟨#[99,104,97,110,103,101,100]⟩
 ·subst h2;decide
 by_cases h3:w=⟨#[110,101,119]⟩
 ·subst h3;decide
 have e2:idx w wKinds=3:=by simp [wKinds,idx,Ne.symm h1,Ne.symm h2,Ne.symm h3]
 rw [e2]
 simp [mget,h1,h2,h3]
set_option maxHeartbeats 1000000 in
theorem ruKind_ok (b:Nat) (wd:ByteArray) (hw:idx wd wKinds<3):Enters 160∧Spec prog 160 #[.pointer (some ⟨b,0,none⟩),.string wd] [] []
  ⟨IV,fun v=>ivOf v,fun _=>True,fun v=>[CdF (.kd wd ((idx wd wKinds:Nat)+2)) (ivOf v)],fun _=>[]⟩:=by
 have hg:=mget_kind wd
 rw [if_pos hw] at hg
 generalize ((idx wd wKinds:Nat)+2:Int)=z at hg ⊢
 generalize b=bp
 refine ZE [_,_] func160 ntmps160 fun G w hp=>?_
 repeat' (first|refine Wp (V:=ivv) ZZ wd (some z) hg ?_|refine Yy ZZ _ _ ?_|refine Yk ZZ ivv (fun r=>?_)|refine ZC ?_|refine ZH (fun b=>?_)|fail)
 refine Y7 ?_
 refine Zx (F1:=[Blk b (.cells #[.int .i64 z] 3)]) (f:=CdF (.kd wd z) (tsv wd 188 #[pv0 b])) (fun hp hF=>?_) ?_
 ·show CdP hp _ _
  rw [CdP]
  exact ⟨b,rfl,hF _ (.head _)⟩
 exact ZD (tsi wd 188 #[pv0 b]) rfl trivial
theorem bsz (a:Array UInt8):(ByteArray.mk a).size=a.size:=rfl
variable {n:Nat} {C:Cx} {Q:Exit→Act→World→Prop} {E E':List (Nat×Value)} {F F' F1 Fs F0:List Pf} {R R' R0 Rs N N' A:List HP} {k k':List Fr} {ops l:List Oper} {L L':List (Nat×Nat)} {Tl:List Nat} {d:Nat} {t t2 ty0:TypeId} {x y:Operand} {pos:String} {aft:Array Edge} {gd:Option (Nat×Bool)}
section
variable {i:Nat}
theorem run_cat {a b:ByteArray} {ac:Act} {w:World} (h:a.size+b.size≤9223372036854775807) (ha:Agree n C.ds (look E) ac) (hx:ev E x=some (.string a)) (hy:ev E y=some (.string b)) :
  (execOp ac.eval ⟨some d,.binOp .add t x y t2,ty0,pos,aft,gd⟩).run prog w = .ok (.value (.string (a++b))) w:=by
 have h1:¬(((a.size+b.size:Nat):Int) > IntKind.i64.max):=by
  have:IntKind.i64.max=9223372036854775807:=by decide
  omega
 have hg:(eqGuard .add t x y (.string a) (.string b)).run prog w = .ok () w:=by simp [eqGuard]
 have hb:(binOp .add t (.string a) (.string b)).run prog w = .ok (.string (a++b)) w:=by
  simp only [binOp,Op.stringOp]
  rw [if_neg h1];rfl
 simp only [execOp,ha.ev (x:=x) (by rw [ZF];exact hx),ha.ev (x:=y) (by rw [ZF];exact hy),Sem.run_bind,hg,Result.andThen,hb,Sem.run_pure]
theorem WR {a b:ByteArray} (nx:Wl n C ops.toArray k Q l ((d,.string (a++b))::E) F R) (hw:wantL ops E ⟨some d,.binOp .add t x y t2,ty0,pos,aft,gd⟩=some true:=by rfl) (hn:Nat.blt d n=true:=by rfl)
  (hx:ev E x=some (.string a):=by rfl) (hy:ev E y=some (.string b):=by rfl) (h:a.size+b.size≤9223372036854775807:=by simp only [ByteArray.size_append,bsz,List.size_toArray,List.length_cons,List.length_nil,List.length_append]<;>omega) :
  Wl n C ops.toArray k Q (⟨some d,.binOp .add t x y t2,ty0,pos,aft,gd⟩::l) E F R:=
 l_q (fun _ _ ha=>run_cat h ha hx hy) nx (by intro c h;cases h) hw hn
theorem Y5 {a b:ByteArray} (nx:Wr n C ops k Q Tl Fs R L ((d,.string (a++b))::E) F N) (ho:nth ops i=some ⟨some d,.binOp .add t x y t2,ty0,pos,aft,gd⟩:=by rfl) (hw:wantL ops E ⟨some d,.binOp .add t x y t2,ty0,pos,aft,gd⟩=some true:=by rfl)
  (hx:ev E x=some (.string a):=by rfl) (hy:ev E y=some (.string b):=by rfl) (h:a.size+b.size≤9223372036854775807:=by simp only [ByteArray.size_append,bsz,List.size_toArray,List.length_cons,List.length_nil,List.length_append]<;>omega) :
  Wr n C ops k Q Tl Fs R ((i,0)::L) E F N:=
 r_q (fun _ _ ha=>run_cat h ha hx hy) nx ho hw
end
theorem ba_app (a b:ByteArray):(a++b).data.toList=a.data.toList++b.data.toList:=by simp
theorem mget_chan (w:ByteArray):(mget w (mset (⟨#[112,97,99,107,101,116]⟩:ByteArray) (4:Int) (mset (⟨#[111,114,100,101,114]⟩:ByteArray) 3 (mset (⟨#[112,114,105,110,116]⟩:ByteArray) 2 (mset (⟨#[109,97,105,108]⟩:ByteArray) 1 [])))))=if idx w wChs<4 then some ((idx w wChs:Nat)+1:Int) else none:=by
 have e:(mset (⟨#[112,97,99,107,101,116]⟩:ByteArray) (4:Int) (mset (⟨#[111,114,100,101,114]⟩:ByteArray) 3 (mset (⟨#[112,114,105,110,116]⟩:ByteArray) 2 (mset (⟨#[109,97,105,108]⟩:ByteArray) 1 []))))=[(⟨#[109,97,105,108]⟩,1),(⟨#[112,114,105,110,116]⟩,2),(⟨#[111,114,100,101,114]⟩,3),(⟨#[112,97,99,107,101,116]⟩,4)]:=by decide
 rw [e]
 by_cases h1:w=⟨#[109,97,105,108]⟩
 ·subst h1;decide
 by_cases h2:w=⟨#[112,114,105,110,116]⟩
 ·subst h2;decide
 by_cases h3:w=⟨#[111,114,100,101,114]⟩
 ·subst h3;decide
 by_cases h4:w=⟨#[112,97,99,107,101,116]⟩
 ·subst h4;decide
 have e2:idx w wChs=4:=by simp [wChs,idx,Ne.symm h1,Ne.symm h2,Ne.symm h3,Ne.symm h4]
 rw [e2]
 simp [mget,h1,h2,h3,h4]
theorem testF_chan (p:Ps):testF wChan p=(.ch (wChan++wSp++p.peek.tx) (if idx p.peek.tx wChs<4 then ((idx p.peek.tx wChs:Nat):Int)+1 else 0),if idx p.peek.tx wChs<4 then p.need 1 else (p.need 1).fail p.peek.pl 30):=by
 unfold testF
 rw [if_neg (show ¬idx wChan wKinds<3 by decide),if_pos rfl]
set_option maxHeartbeats 2000000 in
theorem ruChannel_ok (b r:Nat) (x:Ps) (o:Option Addr) (cap:Nat) (hk:KdOK x):Enters 161∧Spec prog 161 #[.pointer (some ⟨b,0,none⟩),.string wChan] [TkS (o,cap) x.tk] [Pt b (psC x o cap r)] (RdP b r (testF wChan x)):=by
 have n1:=YZ b r x o cap hk 1
 have n2:=fun (q:Option Addr×Nat)=>Zr b r (x.need 1) q.1 q.2 x.peek.pl 30
 have hg:=mget_chan x.peek.tx
 rw [testF_chan]
 generalize hp:x.peek=t at *
 obtain ⟨kd,tx,pl⟩:=t
 dsimp only at hg ⊢
 generalize b=bp at *
 have hz:=hk.peek
 rw [hp] at hz
 have q1:wChan.size+wSp.size≤9223372036854775807:=by decide
 have q2:(wChan++wSp).size+tx.size≤9223372036854775807:=by
  have:(wChan++wSp).size=8:=by decide
  dsimp only at hz;omega
 by_cases hi:idx tx wChs<4
 ·rw [if_pos hi] at hg
  rw [if_pos hi,if_pos hi]
  generalize ((idx tx wChs:Nat)+1:Int)=z at hg ⊢
  refine ZE [_,_] func161 ntmps161 fun G w hp=>?_
  repeat' (first|refine Zy (V:=ivv) ZZ tx (some z) hg ?_|refine Yy ZZ _ _ ?_|refine Yk ZZ ivv (fun r=>?_)|refine ZC ?_|refine ZH (fun b=>?_)|refine ZA (n1) (fun _ _=>?_)|refine WR (a:=wChan) (b:=wSp) ?_ (h:=q1)|refine WR (a:=wChan++wSp) (b:=tx) ?_ (h:=q2)|fail)
  rename_i q _ _
  refine Y7 (b:=b) ?_
  refine Zx (F1:=[Blk b (.cells #[.int .i64 z] 3)]) (f:=CdF (.ch (wChan++wSp++tx) z) (tsv (wChan++wSp++tx) 190 #[pv0 b])) (fun hp hF=>?_) ?_
  ·show CdP hp _ _
   rw [CdP]
   exact ⟨b,rfl,hF _ (.head _)⟩
  exact ZD (tsi (wChan++wSp++tx) 190 #[pv0 b],q) rfl trivial
 ·rw [if_neg hi] at hg
  rw [if_neg hi,if_neg hi]
  refine ZE [_,_] func161 ntmps161 fun G w hp=>?_
  repeat' (first|refine Zy (V:=ivv) ZZ tx none hg ?_|refine Yy ZZ _ _ ?_|refine Yk ZZ ivv (fun r=>?_)|refine ZC ?_|refine ZH (fun b=>?_)|refine ZA (n1) (fun _ _=>?_)|refine ZA (n2 _) (fun _ _=>?_)|refine WR (a:=wChan) (b:=wSp) ?_ (h:=q1)|refine WR (a:=wChan++wSp) (b:=tx) ?_ (h:=q2)|fail)
  rename_i q _
  refine Y7 (b:=b) ?_
  refine Zx (F1:=[Blk b (.cells #[.int .i64 0] 3)]) (f:=CdF (.ch (wChan++wSp++tx) 0) (tsv (wChan++wSp++tx) 190 #[pv0 b])) (fun hp hF=>?_) ?_
  ·show CdP hp _ _
   rw [CdP]
   exact ⟨b,rfl,hF _ (.head _)⟩
  exact ZD (tsi (wChan++wSp++tx) 190 #[pv0 b],q) rfl trivial
theorem testF_by (p:Ps):testF wBy p=(.by_ (wBy++wSp++p.peek.tx) p.peek.tx,if lvalid p.peek.tx.data.toList then p.need 2 else (p.need 2).fail p.peek.pl 12):=by
 unfold testF
 rw [if_neg (show ¬idx wBy wKinds<3 by decide),if_neg (show ¬wBy=wChan by decide),if_neg (show ¬idx wBy wTxs<3 by decide),if_neg (show ¬idx wBy wNms<4 by decide)]
set_option maxHeartbeats 2000000 in
theorem ruBy_ok (b r:Nat) (x:Ps) (o:Option Addr) (cap:Nat) (hk:KdOK x):Enters 164∧Spec prog 164 #[.pointer (some ⟨b,0,none⟩),.string wBy] [TkS (o,cap) x.tk] [Pt b (psC x o cap r)] (RdP b r (testF wBy x)):=by
 have n1:=YZ b r x o cap hk 2
 have n2:=fun (q:Option Addr×Nat)=>Zr b r (x.need 2) q.1 q.2 x.peek.pl 12
 have hz:=hk.peek
 rw [testF_by]
 generalize hp:x.peek=t at *
 obtain ⟨kd,tx,pl⟩:=t
 dsimp only at hz ⊢
 have n3:=Zt tx (by omega)
 generalize b=bp at *
 have q1:wBy.size+wSp.size≤9223372036854775807:=by decide
 have q2:(wBy++wSp).size+tx.size≤9223372036854775807:=by
  have:(wBy++wSp).size=3:=by decide
  omega
 cases hv:lvalid tx.data.toList with
 | true=>
  rw [hv] at n3
  rw [if_pos rfl]
  refine ZE [_,_] func164 ntmps164 fun G w hp=>?_
  repeat' (first|refine ZC ?_|refine ZH (fun b=>?_)|refine ZA (n1) (fun _ _=>?_)|refine ZA (n3) (fun _ _=>?_)|refine WR (a:=wBy) (b:=wSp) ?_ (h:=q1)|refine WR (a:=wBy++wSp) (b:=tx) ?_ (h:=q2)|fail)
  rename_i q _ _ _ _
  refine Y7 (b:=b) ?_
  refine Zx (F1:=[Blk b (.cells #[.string tx] 36)]) (f:=CdF (.by_ (wBy++wSp++tx) tx) (tsv (wBy++wSp++tx) 208 #[pv0 b])) (fun hp hF=>?_) ?_
  ·show CdP hp _ _
   rw [CdP]
   exact ⟨b,rfl,hF _ (.head _)⟩
  exact ZD (tsi (wBy++wSp++tx) 208 #[pv0 b],q) rfl trivial
 | false=>
  rw [hv] at n3
  rw [if_neg (by decide)]
  refine ZE [_,_] func164 ntmps164 fun G w hp=>?_
  repeat' (first|refine ZC ?_|refine ZH (fun b=>?_)|refine ZA (n1) (fun _ _=>?_)|refine ZA (n3) (fun _ _=>?_)|refine ZA (n2 _) (fun _ _=>?_)|refine WR (a:=wBy) (b:=wSp) ?_ (h:=q1)|refine WR (a:=wBy++wSp) (b:=tx) ?_ (h:=q2)|fail)
  rename_i q _
  refine Y7 (b:=b) ?_
  refine Zx (F1:=[Blk b (.cells #[.string tx] 36)]) (f:=CdF (.by_ (wBy++wSp++tx) tx) (tsv (wBy++wSp++tx) 208 #[pv0 b])) (fun hp hF=>?_) ?_
  ·show CdP hp _ _
   rw [CdP]
   exact ⟨b,rfl,hF _ (.head _)⟩
  exact ZD (tsi (wBy++wSp++tx) 208 #[pv0 b],q) rfl trivial
theorem quoB_len (c:UInt8):(quoB c).length≤2:=by
 unfold quoB
 split
 ·simp
 ·split<;>simp
theorem quoL_len:∀l:List UInt8,(l.flatMap quoB).length≤2 * l.length
 | []=>by simp
 | c::l=>by
  have h1:=quoB_len c
  have h2:=quoL_len l
  rw [List.flatMap_cons,List.length_append,List.length_cons];omega
theorem quo_size (s:ByteArray):(quoF s).size≤2 * s.size+2:=by
 have h:=quoL_len s.data.toList
 have e:s.data.toList.length=s.size:=by show _=s.data.size;simp
 show (34::(s.data.toList.flatMap quoB++[34])).toArray.size≤_
 simp only [List.size_toArray,List.length_cons,List.length_append,List.length_nil]
 omega
set_option maxHeartbeats 2000000 in
theorem ruQuote_ok (s:ByteArray) (hs:s.size≤1000000):Enters 197∧Spec prog 197 #[.string s] [] [] (RetV (.string (quoF s))):=by
 have hsz:s.data.toList.length=s.size:=by show _=s.data.size;simp
 refine ZE [_] func197 ntmps197 fun G w hp=>?_
 have m0:=fun b=>Uj b 34
 repeat' (first|refine ZC ?_|refine ZH (fun b=>?_)|refine ZA (m0 _) (fun _ _=>?_)|fail)
 refine Zj (X:={i:Nat // i≤s.size}) (fun i=>[(0,.string s),(3,.pointer (some ⟨b,0,none⟩)),(7,.int .i64 (s.size:Int)),(8,.int .i64 (i.1:Int))]) (fun _=>[]) (fun i=>[Bdr b (34::(s.data.toList.take i.1).flatMap quoB)]) (fun i=>s.size - i.1) ⟨0,Nat.zero_le _⟩ ⟨rfl,rfl,rfl,rfl,trivial⟩ ?_
 rintro ⟨i,hi⟩
 dsimp only
 have hql:=quoL_len (s.data.toList.take i)
 have htl:(s.data.toList.take i).length≤i:=by simp;omega
 by_cases hlt:i<s.data.toList.length
 ·have hcc:=List.getElem?_eq_getElem hlt
  have htk:=List.take_succ_eq_append_getElem hlt
  have hlt2:i<s.size:=by omega
  generalize hce:s.data.toList[i]=c at *
  have w1:=wrapi (z:=(i:Int)+1) (by omega) (by omega)
  have hfin:∀acc:List UInt8,acc=34::(s.data.toList.take i).flatMap quoB++quoB c→acc=34::(s.data.toList.take (i+1)).flatMap quoB:=fun acc h=>by rw [h,htk];simp
  by_cases c1:c=34∨c=92
  ·have k1:(c.toNat:Int)=34∨(c.toNat:Int)=92:=by rcases c1 with h|h<;>rw [h]<;>decide
   have hq:quoB c=[92,c]:=by unfold quoB;rw [if_pos (by simpa using c1)]
   rw [hq] at hfin
   have hf:=hfin _ rfl
   have n1:=Zp b (34::(s.data.toList.take i).flatMap quoB) 92 (by simp only [List.length_cons];omega)
   have n2:=Zp b (34::(s.data.toList.take i).flatMap quoB++[92]) c (by simp only [List.length_cons,List.length_append,List.length_nil];omega)
   rw [List.append_assoc,List.singleton_append,hf] at n2
   repeat' (first|refine Zu (s:=s) i c hcc ?_|refine ZC ?_|refine ZA (n1) (fun _ _=>?_)|refine ZA (n2) (fun _ _=>?_)|rw [w1]|(refine ZB (fun hc=>?_) (fun hc=>?_)<;>(try simp at hc)<;>(try omega))|fail)
   all_goals exact ZJ ⟨i+1,by omega⟩ (by show s.size - (i+1)<s.size - i;omega) ⟨rfl,rfl,rfl,rfl,trivial⟩
  have k1:¬(c.toNat:Int)=34:=fun h=>c1 (.inl ((u8i (k:=34) (by decide)).2 h))
  have k2:¬(c.toNat:Int)=92:=fun h=>c1 (.inr ((u8i (k:=92) (by decide)).2 h))
  by_cases c2:c=10
  ·have k3:(c.toNat:Int)=10:=by rw [c2];rfl
   have hq:quoB c=[92,110]:=by rw [c2];rfl
   rw [hq] at hfin
   have hf:=hfin _ rfl
   have n1:=Yr b (34::(s.data.toList.take i).flatMap quoB) ⟨#[92,110]⟩ (by simp only [List.length_cons];omega) (by decide)
   rw [show (⟨#[92,110]⟩:ByteArray).data.toList=[92,110] from rfl,hf] at n1
   repeat' (first|refine Zu (s:=s) i c hcc ?_|refine ZC ?_|refine ZA (n1) (fun _ _=>?_)|rw [w1]|(refine ZB (fun hc=>?_) (fun hc=>?_)<;>(try simp at hc)<;>(try omega))|fail)
   all_goals exact ZJ ⟨i+1,by omega⟩ (by show s.size - (i+1)<s.size - i;omega) ⟨rfl,rfl,rfl,rfl,trivial⟩
  ·have k3:¬(c.toNat:Int)=10:=fun h=>c2 ((u8i (k:=10) (by decide)).2 h)
   have hq:quoB c=[c]:=by unfold quoB;rw [if_neg (by simpa using c1),if_neg (by simpa using c2)]
   rw [hq] at hfin
   have hf:=hfin _ rfl
   have n1:=Zp b (34::(s.data.toList.take i).flatMap quoB) c (by simp only [List.length_cons];omega)
   rw [hf] at n1
   repeat' (first|refine Zu (s:=s) i c hcc ?_|refine ZC ?_|refine ZA (n1) (fun _ _=>?_)|rw [w1]|(refine ZB (fun hc=>?_) (fun hc=>?_)<;>(try simp at hc)<;>(try omega))|fail)
   all_goals exact ZJ ⟨i+1,by omega⟩ (by show s.size - (i+1)<s.size - i;omega) ⟨rfl,rfl,rfl,rfl,trivial⟩
 ·have hie:i=s.size:=by omega
  have ht:s.data.toList.take i=s.data.toList:=List.take_of_length_le (by omega)
  rw [ht] at hql ⊢
  have hlt2:¬i<s.size:=by omega
  have n1:=Zp b (34::s.data.toList.flatMap quoB) 34 (by simp only [List.length_cons];omega)
  have n2:=Wh b (34::s.data.toList.flatMap quoB++[34]) (by simp only [List.length_cons,List.length_append,List.length_nil];omega)
  have e:quoF s=⟨(34::s.data.toList.flatMap quoB++[34]).toArray⟩:=rfl
  rw [e]
  repeat' (first|refine ZC ?_|refine ZM ?_|refine ZA (n1) (fun _ _=>?_)|refine ZA (n2) (fun _ _=>?_)|(refine ZB (fun hc=>?_) (fun hc=>?_)<;>(try simp at hc)<;>(try omega))|fail)
  exact ZD () rfl trivial
end Go.Proofs.YtcjfciifhdfjkaaGreatDoor
set_option maxRecDepth 10000
namespace Go.Proofs
open Go.Shelf
def Tryz.lays144_ren:Go.Shelf.Ren:=⟨fun|144=>195|143=>153|219=>185|217=>187|225=>217|224=>216|267=>219|266=>220|314=>230|n=>n,fun|9=>9|4=>4|3=>3|5=>5|46=>221|146=>313|51=>312|n=>n,fun|1=>3|n=>n⟩
theorem Tryz.lays144:Go.Proofs.Lays.n144 Tryz.prog Tryz.lays144_ren:={
 mixed:=by kernel_rfl
 f143:=Tryz.func153.trans (congrArg some (by kernel_rfl))
 f144:=Tryz.func195.trans (congrArg some (by kernel_rfl))
 f217:=Tryz.func187.trans (congrArg some (by kernel_rfl))
 f219:=Tryz.func185.trans (congrArg some (by kernel_rfl))
 f224:=Tryz.func216.trans (congrArg some (by kernel_rfl))
 f225:=Tryz.func217.trans (congrArg some (by kernel_rfl))
 f266:=Tryz.func220.trans (congrArg some (by kernel_rfl))
 f267:=Tryz.func219.trans (congrArg some (by kernel_rfl))
 f314:=Tryz.func230.trans (congrArg some (by kernel_rfl))
 t3:=Tryz.underlying3
 a3:=Tryz.isAgg3
 z3:=Tryz.sizeOf3
 v3:=Tryz.zeroValue3
 t4:=Tryz.underlying4
 a4:=Tryz.isAgg4
 z4:=Tryz.sizeOf4
 v4:=Tryz.zeroValue4
 t5:=Tryz.underlying5
 a5:=Tryz.isAgg5
 z5:=Tryz.sizeOf5
 v5:=Tryz.zeroValue5
 t9:=Tryz.underlying9
 a9:=Tryz.isAgg9
 z9:=Tryz.sizeOf9
 v9:=Tryz.zeroValue9
 t46:=Tryz.underlying221
 a46:=Tryz.isAgg221
 z46:=Tryz.sizeOf221
 v46:=Tryz.zeroValue221
 t51:=Tryz.underlying312
 a51:=Tryz.isAgg312
 z51:=Tryz.sizeOf312
 v51:=Tryz.zeroValue312
 t146:=Tryz.underlying313
 a146:=Tryz.isAgg313
 z146:=Tryz.sizeOf313
 v146:=Tryz.zeroValue313
 g1:=by kernel_rfl}
def Tryz.laysC172_ren:Go.Shelf.Ren:=⟨fun|172=>222|244=>231|245=>232|247=>238|279=>239|280=>240|281=>241|282=>242|287=>245|316=>246|171=>141|205=>247|321=>248|322=>249|243=>180|246=>218|283=>226|284=>227|285=>228|286=>229|129=>234|317=>233|318=>235|319=>236|320=>237|337=>243|338=>244|n=>n,fun|9=>9|3=>3|75=>207|76=>208|4=>4|5=>5|167=>325|37=>64|0=>0|85=>326|2=>2|168=>328|53=>235|175=>332|46=>221|210=>335|127=>243|145=>342|143=>340|21=>21|171=>307|173=>310|212=>322|51=>312|20=>20|213=>323|232=>337|233=>338|80=>210|n=>n,fun|15=>5|16=>6|17=>4|18=>7|19=>8|n=>n⟩
theorem Tryz.laysC172:Go.Proofs.LaysC.n172 Tryz.prog Tryz.laysC172_ren:={
 mixed:=by kernel_rfl
 f129:=Tryz.func234.trans (congrArg some (by kernel_rfl))
 f171:=Tryz.func141.trans (congrArg some (by kernel_rfl))
 f172:=Tryz.func222.trans (congrArg some (by kernel_rfl))
 f205:=Tryz.func247.trans (congrArg some (by kernel_rfl))
 f243:=Tryz.func180.trans (congrArg some (by kernel_rfl))
 f244:=Tryz.func231.trans (congrArg some (by kernel_rfl))
 f245:=Tryz.func232.trans (congrArg some (by kernel_rfl))
 f246:=Tryz.func218.trans (congrArg some (by kernel_rfl))
 f247:=Tryz.func238.trans (congrArg some (by kernel_rfl))
 f279:=Tryz.func239.trans (congrArg some (by kernel_rfl))
 f280:=Tryz.func240.trans (congrArg some (by kernel_rfl))
 f281:=Tryz.func241.trans (congrArg some (by kernel_rfl))
 f282:=Tryz.func242.trans (congrArg some (by kernel_rfl))
 f283:=Tryz.func226.trans (congrArg some (by kernel_rfl))
 f284:=Tryz.func227.trans (congrArg some (by kernel_rfl))
 f285:=Tryz.func228.trans (congrArg some (by kernel_rfl))
 f286:=Tryz.func229.trans (congrArg some (by kernel_rfl))
 f287:=Tryz.func245.trans (congrArg some (by kernel_rfl))
 f316:=Tryz.func246.trans (congrArg some (by kernel_rfl))
 f317:=Tryz.func233.trans (congrArg some (by kernel_rfl))
 f318:=Tryz.func235.trans (congrArg some (by kernel_rfl))
 f319:=Tryz.func236.trans (congrArg some (by kernel_rfl))
 f320:=Tryz.func237.trans (congrArg some (by kernel_rfl))
 f321:=Tryz.func248.trans (congrArg some (by kernel_rfl))
 f322:=Tryz.func249.trans (congrArg some (by kernel_rfl))
 f337:=Tryz.func243.trans (congrArg some (by kernel_rfl))
 f338:=Tryz.func244.trans (congrArg some (by kernel_rfl))
 t0:=Tryz.underlying0
 a0:=Tryz.isAgg0
 z0:=Tryz.sizeOf0
 v0:=Tryz.zeroValue0
 t2:=Tryz.underlying2
 a2:=Tryz.isAgg2
 z2:=Tryz.sizeOf2
 v2:=Tryz.zeroValue2
 t3:=Tryz.underlying3
 a3:=Tryz.isAgg3
 z3:=Tryz.sizeOf3
 v3:=Tryz.zeroValue3
 t4:=Tryz.underlying4
 a4:=Tryz.isAgg4
 z4:=Tryz.sizeOf4
 v4:=Tryz.zeroValue4
 t5:=Tryz.underlying5
 a5:=Tryz.isAgg5
 z5:=Tryz.sizeOf5
 v5:=Tryz.zeroValue5
 t9:=Tryz.underlying9
 a9:=Tryz.isAgg9
 z9:=Tryz.sizeOf9
 v9:=Tryz.zeroValue9
 t20:=Tryz.underlying20
 a20:=Tryz.isAgg20
 z20:=Tryz.sizeOf20
 v20:=Tryz.zeroValue20
 t21:=Tryz.underlying21
 a21:=Tryz.isAgg21
 z21:=Tryz.sizeOf21
 v21:=Tryz.zeroValue21
 t37:=Tryz.underlying64
 a37:=Tryz.isAgg64
 z37:=Tryz.sizeOf64
 v37:=Tryz.zeroValue64
 t46:=Tryz.underlying221
 a46:=Tryz.isAgg221
 z46:=Tryz.sizeOf221
 v46:=Tryz.zeroValue221
 t51:=Tryz.underlying312
 a51:=Tryz.isAgg312
 z51:=Tryz.sizeOf312
 v51:=Tryz.zeroValue312
 t53:=Tryz.underlying235
 a53:=Tryz.isAgg235
 z53:=Tryz.sizeOf235
 v53:=Tryz.zeroValue235
 t75:=Tryz.underlying207
 a75:=Tryz.isAgg207
 z75:=Tryz.sizeOf207
 v75:=Tryz.zeroValue207
 t76:=Tryz.underlying208
 a76:=Tryz.isAgg208
 z76:=Tryz.sizeOf208
 v76:=Tryz.zeroValue208
 t85:=Tryz.underlying326
 a85:=Tryz.isAgg326
 z85:=Tryz.sizeOf326
 v85:=Tryz.zeroValue326
 t127:=Tryz.underlying243
 a127:=Tryz.isAgg243
 z127:=Tryz.sizeOf243
 v127:=Tryz.zeroValue243
 t143:=Tryz.underlying340
 a143:=Tryz.isAgg340
 z143:=Tryz.sizeOf340
 v143:=Tryz.zeroValue340
 t145:=Tryz.underlying342
 a145:=Tryz.isAgg342
 z145:=Tryz.sizeOf342
 v145:=Tryz.zeroValue342
 t167:=Tryz.underlying325
 a167:=Tryz.isAgg325
 z167:=Tryz.sizeOf325
 v167:=Tryz.zeroValue325
 t168:=Tryz.underlying328
 a168:=Tryz.isAgg328
 z168:=Tryz.sizeOf328
 v168:=Tryz.zeroValue328
 t171:=Tryz.underlying307
 a171:=Tryz.isAgg307
 z171:=Tryz.sizeOf307
 v171:=Tryz.zeroValue307
 t173:=Tryz.underlying310
 a173:=Tryz.isAgg310
 z173:=Tryz.sizeOf310
 v173:=Tryz.zeroValue310
 t175:=Tryz.underlying332
 a175:=Tryz.isAgg332
 z175:=Tryz.sizeOf332
 v175:=Tryz.zeroValue332
 t210:=Tryz.underlying335
 a210:=Tryz.isAgg335
 z210:=Tryz.sizeOf335
 v210:=Tryz.zeroValue335
 t212:=Tryz.underlying322
 a212:=Tryz.isAgg322
 z212:=Tryz.sizeOf322
 v212:=Tryz.zeroValue322
 t213:=Tryz.underlying323
 a213:=Tryz.isAgg323
 z213:=Tryz.sizeOf323
 t232:=Tryz.underlying337
 a232:=Tryz.isAgg337
 z232:=Tryz.sizeOf337
 v232:=Tryz.zeroValue337
 t233:=Tryz.underlying338
 a233:=Tryz.isAgg338
 z233:=Tryz.sizeOf338
 v233:=Tryz.zeroValue338
 g15:=by kernel_rfl
 g16:=by kernel_rfl
 g17:=by kernel_rfl
 g18:=by kernel_rfl
 g19:=by kernel_rfl
 t80:=Tryz.underlying210
 a80:=Tryz.isAgg210
 z80:=Tryz.sizeOf210
 v80:=Tryz.zeroValue210
 i0:=by kernel_rfl
 i2:=by kernel_rfl
 i3:=by kernel_rfl
 i4:=by kernel_rfl
 i5:=by kernel_rfl
 i9:=by kernel_rfl
 i20:=by kernel_rfl
 i21:=by kernel_rfl
 i37:=by kernel_rfl
 i46:=by kernel_rfl
 i51:=by kernel_rfl
 i53:=by kernel_rfl
 i75:=by kernel_rfl
 i76:=by kernel_rfl
 i80:=by kernel_rfl
 i85:=by kernel_rfl
 i127:=by kernel_rfl
 i143:=by kernel_rfl
 i145:=by kernel_rfl
 i167:=by kernel_rfl
 i168:=by kernel_rfl
 i171:=by kernel_rfl
 i173:=by kernel_rfl
 i175:=by kernel_rfl
 i210:=by kernel_rfl
 i212:=by kernel_rfl
 i232:=by kernel_rfl
 i233:=by kernel_rfl
 m15:=by kernel_rfl
 m16:=by kernel_rfl
 m17:=by kernel_rfl
 m18:=by kernel_rfl
 m19:=by kernel_rfl
 c0:=by kernel_rfl
 c2:=by kernel_rfl
 c3:=by kernel_rfl
 c4:=by kernel_rfl
 c5:=by kernel_rfl
 c9:=by kernel_rfl
 c20:=by kernel_rfl
 c21:=by kernel_rfl
 c37:=by kernel_rfl
 c46:=by kernel_rfl
 c51:=by kernel_rfl
 c53:=by kernel_rfl
 c75:=by kernel_rfl
 c76:=by kernel_rfl
 c80:=by kernel_rfl
 c85:=by kernel_rfl
 c127:=by kernel_rfl
 c143:=by kernel_rfl
 c145:=by kernel_rfl
 c167:=by kernel_rfl
 c168:=by kernel_rfl
 c171:=by kernel_rfl
 c173:=by kernel_rfl
 c175:=by kernel_rfl
 c210:=by kernel_rfl
 c212:=by kernel_rfl
 c213:=by kernel_rfl
 c232:=by kernel_rfl
 c233:=by kernel_rfl}
end Go.Proofs
namespace Go.Proofs.YtcjfciifhdfjkaaGreatDoor
open Go.Proofs.Tryz
open Go.RowKit
theorem contains1_ok (s:ByteArray) (c:UInt8):Enters 195∧Spec prog 195 #[.string s,.string ⟨#[c]⟩] [] [] (RetV (.bool (decide (0≤Lib.indexByte s.data.toList c)))):=by
 refine ⟨enters_of func195 (by kernel_rfl) rfl,fun G w hp hs=>?_⟩
 refine (Any.strings_Contains_one Tryz.lays144 s c w).mono ?_
 rintro e w' ⟨rfl,rfl⟩
 exact ⟨(),rfl,trivial,hs⟩
def isEr:Value→Prop:=fun v=>v = .nilIface∨∃te pe,v = .iface te pe
def ErA:Pf:=⟨fun h=>(∃v T fz,isEr v∧h 5=some (.cells #[v] T fz))∧(∃v T fz,isEr v∧h 6=some (.cells #[v] T fz)),
 fun _ _ s ⟨⟨v,T,fz,h1,h2⟩,⟨u,U,gz,h3,h4⟩⟩=>⟨⟨v,T,fz,h1,s _ _ h2⟩,⟨u,U,gz,h3,s _ _ h4⟩⟩⟩
theorem Ui (l:List UInt8) (c:UInt8):decide (0≤Lib.indexByte l c)=l.contains c:=by
 induction l with
 | nil=>rfl
 | cons d l ih=>
  have hg:=Lib.indexByte_ge l c
  rw [Lib.indexByte,List.contains_cons]
  by_cases h:d=c
  ·simp [h]
  ·have e1:(d == c)=false:=by simpa using h
   have e2:(c == d)=false:=by simpa using Ne.symm h
   rw [e1,e2,Bool.false_or,←ih]
   simp only [Bool.false_eq_true,if_false,beq_iff_eq]
   by_cases h2:Lib.indexByte l c = -1
   ·rw [if_pos h2,h2]
   ·rw [if_neg h2]
    rw [Bool.eq_iff_iff]
    simp only [decide_eq_true_eq]
    omega
theorem W4 {w w':World} (h:Below w.heap.size w w'):Ext w w':=⟨h.os,h.tape,h.output,h.size,h.block⟩
theorem cell_of {w:World} {g:Nat} {v:Value} {T:TypeId} {fz:Nat×Nat} (h:w.heap[g]? = some (.cells #[v] T fz)):w.cell? ⟨g,0,none⟩=some v:=by
 simp [World.cell?,h]
theorem atoi_ok (s:ByteArray) (hs:s.size≤281474976710656):Enters 222∧Spec prog 222 #[.string s] [ErA] []
  ⟨Value,fun v=>.tuple #[.int .i64 (atoF s).1,v],fun v=>(v = .nilIface∧(atoF s).2=true)∨((∃T u,v = .iface T u)∧(atoF s).2=false),fun _=>[],fun _=>[]⟩:=by
 refine ⟨enters_of func222 (by kernel_rfl) rfl,fun G w hp hs0=>?_⟩
 obtain ⟨hp',hr,st⟩:=hs0
 obtain ⟨⟨v1,T1,z1,e1,h1⟩,⟨v2,T2,z2,e2,h2⟩⟩:=st.f ErA (by simp)
 unfold atoF
 cases ha:Lib.atoiAll s.data.toList with
 | ok v=>
  refine (Any.strconv_Atoi_ok Tryz.laysC172 s (by omega) v ha w).mono ?_
  rintro e w' ⟨rfl,hw⟩
  have hx:Ext w w':=by
   rcases hw with rfl|⟨t,rfl⟩
   ·exact W4 (Below.refl _ _)
   ·exact W4 (Lib.bytesWorld_below w _ t)
  exact ⟨.nilIface,rfl,.inl ⟨rfl,rfl⟩,(Sat.ext ⟨hp',hr,st⟩ hx).facts fun _ _ x hx=>by cases hx⟩
 | range=>
  refine (Any.strconv_Atoi_range Tryz.laysC172 s hs ha v2 w (cell_of (st.inp _ _ h2)) e2).mono ?_
  rintro e w' ⟨N,rfl,h3,h4,h5⟩
  exact ⟨_,rfl,.inr ⟨⟨_,_,rfl⟩,rfl⟩,(Sat.ext ⟨hp',hr,st⟩ (W4 h5)).facts fun _ _ x hx=>by cases hx⟩
 | _=>
  refine (Any.strconv_Atoi_syntax Tryz.laysC172 s hs ha v1 w (cell_of (st.inp _ _ h1)) e1).mono ?_
  rintro e w' ⟨N,rfl,h3,h4,h5⟩
  exact ⟨_,rfl,.inr ⟨⟨_,_,rfl⟩,rfl⟩,(Sat.ext ⟨hp',hr,st⟩ (W4 h5)).facts fun _ _ x hx=>by cases hx⟩
end Go.Proofs.YtcjfciifhdfjkaaGreatDoor
namespace Go.Proofs.YtcjfciifhdfjkaaGreatDoor
open Go.RowKit Go.Proofs.Tryz
set_option maxHeartbeats 4000000 in
theorem ruNumber_ok (b r:Nat) (x:Ps) (o:Option Addr) (cap:Nat) (hk:KdOK x):Enters 206∧Spec prog 206 #[.pointer (some ⟨b,0,none⟩)] [TkS (o,cap) x.tk,ErA] [Pt b (psC x o cap r)] (PsP (.int .i64 (numF x).1) b r (numF x).2):=by
 have n1:=YZ b r x o cap hk 2
 have n2:=fun (q:Option Addr×Nat)=>Zr b r (x.need 2) q.1 q.2 x.peek.pl 3
 have hz:=hk.peek
 unfold numF
 generalize hp:x.peek=t at *
 obtain ⟨kd,tx,pl⟩:=t
 dsimp only at hz ⊢
 have n3:=contains1_ok tx 46
 rw [Ui] at n3
 have n4:=atoi_ok tx (by omega)
 have hsz:tx.data.toList.length=tx.size:=by show _=tx.data.size;simp
 generalize hy:(if badN tx=true then (x.need 2).fail pl 3 else x.need 2)=y
 have n5:=fun (q:Option Addr×Nat)=>Zr b r y q.1 q.2 pl 2
 generalize b=bp at *
 generalize hA:atoF tx=z at *
 obtain ⟨zv,ok⟩:=z
 dsimp only at n4 ⊢
 by_cases c1:tx.data.toList.contains 46=true
 ·rw [c1] at n3
  have hb:badN tx=true:=by unfold badN;rw [c1];rfl
  rw [if_pos hb] at hy
  subst hy
  refine ZE [_] func206 ntmps206 fun G w hp=>?_
  repeat' (first|refine ZC ?_|refine ZH (fun b=>?_)|refine ZA (n1) (fun _ _=>?_)|refine ZA (n2 _) (fun _ _=>?_)|refine ZA (n3) (fun _ _=>?_)|refine ZA (n4) (fun _ _=>?_)|fail)
  rename_i q _ _ _ qq _ v hv
  rcases hv with ⟨rfl,rfl⟩|⟨⟨T,u,rfl⟩,rfl⟩
  ·by_cases c3:1073741824<zv
   ·rw [if_pos (.inr c3)]
    repeat' (first|refine WE underlying207 (.inl ⟨rfl,rfl⟩) ?_|refine ZC ?_|refine ZA (n5 _) (fun _ _=>?_)|(refine ZB (fun hc=>?_) (fun hc=>?_)<;>(try simp at hc)<;>(try omega))|fail)
    rename_i q2 _
    exact ZD q2 rfl trivial
   ·rw [if_neg (by rintro (h|h);cases h;exact c3 h)]
    repeat' (first|refine WE underlying207 (.inl ⟨rfl,rfl⟩) ?_|refine ZC ?_|(refine ZB (fun hc=>?_) (fun hc=>?_)<;>(try simp at hc)<;>(try omega))|fail)
    exact ZD qq rfl trivial
  ·rw [if_pos (.inl rfl)]
   repeat' (first|refine WE underlying207 (.inr ⟨⟨_,_,rfl⟩,rfl⟩) ?_|refine ZC ?_|refine ZA (n5 _) (fun _ _=>?_)|fail)
   rename_i q2 _
   exact ZD q2 rfl trivial
 ·have c1:tx.data.toList.contains 46=false:=by simpa using c1
  rw [c1] at n3
  by_cases c4:1<tx.size
  ·have hlt:0<tx.data.toList.length:=by omega
   have hc0:=List.getElem?_eq_getElem hlt
   generalize hce:tx.data.toList[0]=c at *
   have hh:tx.data.toList.head? = some c:=by rw [List.head?_eq_getElem?,hc0]
   by_cases c5:c=48
   ·have k5:(c.toNat:Int)=48:=by rw [c5];rfl
    have hb:badN tx=true:=by unfold badN;rw [c1,hh,c5];simp [c4]
    rw [if_pos hb] at hy
    subst hy
    refine ZE [_] func206 ntmps206 fun G w hp=>?_
    repeat' (first|refine ZC ?_|refine ZH (fun b=>?_)|refine ZA (n1) (fun _ _=>?_)|refine ZA (n2 _) (fun _ _=>?_)|refine ZA (n3) (fun _ _=>?_)|refine ZA (n4) (fun _ _=>?_)|refine Zu (s:=tx) 0 c hc0 ?_|(refine ZG (fun hc=>?_) (fun hc=>?_)<;>(try simp at hc)<;>(try omega))|(refine ZB (fun hc=>?_) (fun hc=>?_)<;>(try simp at hc)<;>(try omega))|fail)
    rename_i q _ _ _ qq _ v hv
    rcases hv with ⟨rfl,rfl⟩|⟨⟨T,u,rfl⟩,rfl⟩
    ·by_cases c3:1073741824<zv
     ·rw [if_pos (.inr c3)]
      repeat' (first|refine WE underlying207 (.inl ⟨rfl,rfl⟩) ?_|refine ZC ?_|refine ZA (n5 _) (fun _ _=>?_)|(refine ZB (fun hc=>?_) (fun hc=>?_)<;>(try simp at hc)<;>(try omega))|fail)
      rename_i q2 _
      exact ZD q2 rfl trivial
     ·rw [if_neg (by rintro (h|h);cases h;exact c3 h)]
      repeat' (first|refine WE underlying207 (.inl ⟨rfl,rfl⟩) ?_|refine ZC ?_|(refine ZB (fun hc=>?_) (fun hc=>?_)<;>(try simp at hc)<;>(try omega))|fail)
      exact ZD qq rfl trivial
    ·rw [if_pos (.inl rfl)]
     repeat' (first|refine WE underlying207 (.inr ⟨⟨_,_,rfl⟩,rfl⟩) ?_|refine ZC ?_|refine ZA (n5 _) (fun _ _=>?_)|fail)
     rename_i q2 _
     exact ZD q2 rfl trivial
   ·have k5:¬(c.toNat:Int)=48:=fun h=>c5 ((u8i (k:=48) (by decide)).2 h)
    have hb:¬badN tx=true:=by unfold badN;rw [c1,hh];simp [c5]
    rw [if_neg hb] at hy
    subst hy
    refine ZE [_] func206 ntmps206 fun G w hp=>?_
    repeat' (first|refine ZC ?_|refine ZH (fun b=>?_)|refine ZA (n1) (fun _ _=>?_)|refine ZA (n3) (fun _ _=>?_)|refine ZA (n4) (fun _ _=>?_)|refine Zu (s:=tx) 0 c hc0 ?_|(refine ZG (fun hc=>?_) (fun hc=>?_)<;>(try simp at hc)<;>(try omega))|(refine ZB (fun hc=>?_) (fun hc=>?_)<;>(try simp at hc)<;>(try omega))|fail)
    rename_i q _ _ _ _ v hv
    rcases hv with ⟨rfl,rfl⟩|⟨⟨T,u,rfl⟩,rfl⟩
    ·by_cases c3:1073741824<zv
     ·rw [if_pos (.inr c3)]
      repeat' (first|refine WE underlying207 (.inl ⟨rfl,rfl⟩) ?_|refine ZC ?_|refine ZA (n5 _) (fun _ _=>?_)|(refine ZB (fun hc=>?_) (fun hc=>?_)<;>(try simp at hc)<;>(try omega))|fail)
      rename_i q2 _
      exact ZD q2 rfl trivial
     ·rw [if_neg (by rintro (h|h);cases h;exact c3 h)]
      repeat' (first|refine WE underlying207 (.inl ⟨rfl,rfl⟩) ?_|refine ZC ?_|(refine ZB (fun hc=>?_) (fun hc=>?_)<;>(try simp at hc)<;>(try omega))|fail)
      exact ZD q rfl trivial
    ·rw [if_pos (.inl rfl)]
     repeat' (first|refine WE underlying207 (.inr ⟨⟨_,_,rfl⟩,rfl⟩) ?_|refine ZC ?_|refine ZA (n5 _) (fun _ _=>?_)|fail)
     rename_i q2 _
     exact ZD q2 rfl trivial
  ·have hb:¬badN tx=true:=by unfold badN;rw [c1];simp [c4]
   rw [if_neg hb] at hy
   subst hy
   refine ZE [_] func206 ntmps206 fun G w hp=>?_
   repeat' (first|refine ZC ?_|refine ZH (fun b=>?_)|refine ZA (n1) (fun _ _=>?_)|refine ZA (n3) (fun _ _=>?_)|refine ZA (n4) (fun _ _=>?_)|(refine ZG (fun hc=>?_) (fun hc=>?_)<;>(try simp at hc)<;>(try omega))|fail)
   rename_i q _ _ _ v hv
   rcases hv with ⟨rfl,rfl⟩|⟨⟨T,u,rfl⟩,rfl⟩
   ·by_cases c3:1073741824<zv
    ·rw [if_pos (.inr c3)]
     repeat' (first|refine WE underlying207 (.inl ⟨rfl,rfl⟩) ?_|refine ZC ?_|refine ZA (n5 _) (fun _ _=>?_)|(refine ZB (fun hc=>?_) (fun hc=>?_)<;>(try simp at hc)<;>(try omega))|fail)
     rename_i q2 _
     exact ZD q2 rfl trivial
    ·rw [if_neg (by rintro (h|h);cases h;exact c3 h)]
     repeat' (first|refine WE underlying207 (.inl ⟨rfl,rfl⟩) ?_|refine ZC ?_|(refine ZB (fun hc=>?_) (fun hc=>?_)<;>(try simp at hc)<;>(try omega))|fail)
     exact ZD q rfl trivial
   ·rw [if_pos (.inl rfl)]
    repeat' (first|refine WE underlying207 (.inr ⟨⟨_,_,rfl⟩,rfl⟩) ?_|refine ZC ?_|refine ZA (n5 _) (fun _ _=>?_)|fail)
    rename_i q2 _
    exact ZD q2 rfl trivial
section
inductive Tr5
 | mk (op:ByteArray) (args:List Tr5) (rel text:ByteArray) (n:Int)
def eB:ByteArray:=ofL []
def wByL:List ByteArray:=[wBy]
def t0:Tr5:=.mk eB [] eB eB 0
structure Mq where
 tk:List Tk
 en:Int
 op:Int
 e:Int
 cl:Int
namespace Mq
def col (m:Mq):Int:=match m.tk with
 | []=>m.en
 | t::_=>t.pl+1
def fail (m:Mq) (e:Int):Mq:=if m.e=0 then {m with e:=e,cl:=m.col} else m
def pass (m:Mq):Mq:={m with tk:=m.tk.tail}
def has (m:Mq) (q:Tk→Bool):Bool:=match m.tk with
 | []=>false
 | t::_=>q t
def isW (w:ByteArray) (t:Tk):Bool:=decide (t.kd=1) && decide (t.tx=w)
def isS (s:ByteArray) (t:Tk):Bool:=decide (t.kd=4) && decide (t.tx=s)
def word (m:Mq) (w:ByteArray):Bool:=decide (m.e=0) && m.has (isW w)
def hd (m:Mq):ByteArray:=match m.tk with
 | []=>eB
 | t::_=>t.tx
def take (m:Mq) (q:Tk→Bool):ByteArray×Mq:=if m.e≠0∨m.has q=false then (eB,m.fail 30) else (m.hd,m.pass)
end Mq
def numL:List UInt8→Int→Int
 | [],n=>n
 | c::l,n=>if n≤1073741824 then numL l (10 * n+c.toNat - 48) else n
def numM (m:Mq):Int×Mq:=
 if m.e≠0∨m.has (fun t=>decide (t.kd=2))=false then (0,m.fail 30)
 else if badN m.hd then (0,m.fail 3)
 else if 1073741824<numL m.hd.data.toList 0 then (0,m.fail 2)
 else (numL m.hd.data.toList 0,m.pass)
def tstM (w:ByteArray) (m:Mq):Tr5×Mq:=
 if idx w wKinds<3 then (.mk w [] eB eB 0,m)
 else if w=wChan then
  if m.has (fun t=>decide (t.kd=1) && decide (idx t.tx wChs<4)) then (.mk w [] m.hd eB ((idx m.hd wChs:Nat)+1),m.pass) else (.mk w [] eB eB 0,m.fail 30)
 else if idx w wTxs<3 then
  if m.has (fun t=>decide (t.kd=1) && decide (idx t.tx wCts<3)) then let r:=m.pass.take (fun t=>decide (t.kd=3));(.mk w [] m.hd r.1 0,r.2) else (.mk w [] eB eB 0,m.fail 30)
 else if idx w wNms<4 then
  if m.has (fun t=>decide (t.kd=4) && decide (idx t.tx yCns<3)) then let r:=numM m.pass;(.mk w [] m.hd eB r.1,r.2) else (.mk w [] eB eB 0,m.fail 30)
 else
  let m1:=if m.has (fun t=>decide (t.kd=2) && !lvalid t.tx.data.toList) then m.fail 12 else m
  let r:=m1.take (fun t=>decide (t.kd=2))
  (.mk w [] eB r.1 0,r.2)
mutual
def factorM:Nat→Mq→Tr5×Mq
 | 0,m=>(t0,m.fail 99)
 | n+1,m=>
  if m.word wNot then let r:=factorM n m.pass;(.mk wNot [r.1] eB eB 0,r.2)
  else if m.e=0∧m.has (Mq.isS yOpn)=true then
   if m.op=32 then (t0,m.fail 9)
   else
    let r:=condM n {m.pass with op:=m.op+1}
    let m3:=(r.2.take (Mq.isS yCls)).2
    (r.1,{m3 with op:=m3.op - 1})
  else if m.e=0∧m.has (fun t=>decide (t.kd=1) && isTst t.tx)=true then tstM m.hd m.pass
  else (t0,m.fail 30)
def termM:Nat→Mq→Tr5×Mq
 | 0,m=>(t0,m.fail 99)
 | n+1,m=>let r:=factorM n m;let q:=termN n [r.1] r.2;(.mk wAnd q.1 eB eB 0,q.2)
def termN:Nat→List Tr5→Mq→List Tr5×Mq
 | 0,l,m=>(l,m.fail 99)
 | n+1,l,m=>if m.word wAnd then let r:=factorM n m.pass;termN n (l++[r.1]) r.2 else (l,m)
def condM:Nat→Mq→Tr5×Mq
 | 0,m=>(t0,m.fail 99)
 | n+1,m=>let r:=termM n m;let q:=condN n [r.1] r.2;(.mk wOr q.1 eB eB 0,q.2)
def condN:Nat→List Tr5→Mq→List Tr5×Mq
 | 0,l,m=>(l,m.fail 99)
 | n+1,l,m=>if m.word wOr then let r:=termM n m.pass;condN n (l++[r.1]) r.2 else (l,m)
end
def fuM (m:Mq):Nat:=4 * m.tk.length+8
structure RuM where
 c:Option Tr5
 a:Ac
def ruleM (m:Mq):RuM×Mq:=
 let x:Option Tr5×Mq:=if m.word wIf then let r:=condM (fuM m.pass) m.pass;(some r.1,(r.2.take (Mq.isS yCol)).2) else (none,m)
 let m1:=x.2
 if m1.e=0∧m1.has (fun t=>decide (t.kd=1) && decide (idx t.tx wActs<5))=true then
  let k:=idx m1.hd wActs
  let m2:=m1.pass
  let y:ByteArray×Mq:=if k=1 then (let m3:=if m2.has (fun t=>decide (t.kd=3) && (tplF t.tx).2.isSome) then m2.fail 3 else m2;m3.take (fun t=>decide (t.kd=3))) else (eB,m2)
  (⟨x.1,⟨(k:Int)+1,y.1⟩⟩,if y.2.tk≠[] then y.2.fail 30 else y.2)
 else (⟨x.1,⟨0,eB⟩⟩,m1.fail 30)
def lineM (s:List UInt8) (n:Nat):Option RuM×Int×Int:=
 let r:=scanF (s.length+1) s 0 []
 if r.2.2=false then (none,(r.2.1:Int)+1,6) else
 match r.1 with
 | []=>(none,0,0)
 | t::_=>if n=256 then (none,t.pl+1,9) else
  let q:=ruleM ⟨r.1,(r.2.1:Int)+1,0,0,0⟩
  if q.2.e≠0 then (none,q.2.cl,q.2.e) else (some q.1,0,0)
def rowsM:List (List UInt8)→Nat→List RuM→Except (Int×Int×Int) (List RuM)
 | [],_,acc=>.ok acc
 | s::l,i,acc=>match lineM s acc.length with
  | (some x,_,_)=>rowsM l (i+1) (acc++[x])
  | (none,a,e)=>if e=0 then rowsM l (i+1) acc else .error ((i:Int)+1,a,e)
def parM (s:ByteArray):Except (Int×Int×Int) (List RuM):=if 65536<s.size then .error (0,0,5) else rowsM (linesF s.data.toList) 0 []
mutual
def toC:Tr5→Cnd
 | .mk op args rel tx n=>
  if op=wOr then eitherF (toCs args) else if op=wAnd then bothF (toCs args) else if op=wNot then .nt (match toCs args with | [c]=>c|_=>.nul)
  else if idx op wKinds<3 then .kd op ((idx op wKinds:Nat)+2)
  else if op=wChan then .ch (op++wSp++rel) n
  else if idx op wTxs<3 then .tx (op++wSp++rel++wSp++quoF tx) (idx op wTxs) (idx rel wCts) tx
  else if idx op wNms<4 then .nm (op++wSp++rel++wSp++ofL (Lib.itoa n)) (idx op wNms) (idx rel yCns) n
  else .by_ (op++wSp++tx) tx
def toCs:List Tr5→List Cnd
 | []=>[]
 | t::l=>toC t::toCs l
end
theorem toCs_app:∀l m:List Tr5,toCs (l++m)=toCs l++toCs m
 | [],_=>rfl
 | t::l,m=>by simp [toCs,toCs_app l m]
mutual
def WfT:Tr5→Prop
 | .mk op args rel _ _=>
  if op=wOr∨op=wAnd then args≠[]∧WfTs args else if op=wNot then (∃t,args=[t])∧WfTs args
  else args=[]∧isTst op=true∧(idx op wTxs<3→idx rel wCts<3)∧(idx op wNms<4→idx rel yCns<3)
def WfTs:List Tr5→Prop
 | []=>True
 | t::l=>WfT t∧WfTs l
end
theorem WfTs_app:∀l m:List Tr5,WfTs (l++m)↔WfTs l∧WfTs m
 | [],m=>by simp [WfTs]
 | t::l,m=>by simp [WfTs,WfTs_app l m,and_assoc]
def TkOK (t:Tk):Prop:=(t.kd=1∨t.kd=2∨t.kd=3∨t.kd=4)∧(t.kd=2→t.tx.data.toList≠[]∧∀x ∈ t.tx.data.toList,inNum x=true)
def Sim (p:Ps) (m:Mq):Prop:=(∀t ∈ p.tk,TkOK t)∧p.en+1=m.en∧((p.e=0∧m.e=0∧p.tk=m.tk∧p.op=m.op)∨(p.e≠0∧p.e=m.e∧p.pl+1=m.cl∧p.tk=[]))
namespace Sim
variable {p:Ps} {m:Mq}
theorem err (h:Sim p m) (he:p.e≠0):p.e=m.e∧p.pl+1=m.cl∧p.tk=[]:=by
 rcases h.2.2 with h1|h1
 ·exact absurd h1.1 he
 ·exact h1.2
theorem ok (h:Sim p m) (he:p.e=0):m.e=0∧p.tk=m.tk∧p.op=m.op:=by
 rcases h.2.2 with h1|h1
 ·exact h1.2
 ·exact absurd he h1.1
theorem e0 (h:Sim p m):p.e=m.e:=by
 by_cases he:p.e=0
 ·rw [he,(h.ok he).1]
 ·exact (h.err he).1
theorem pl (h:Sim p m) (he:p.e=0):p.peek.pl+1=m.col:=by
 have h1:=(h.ok he).2.1
 unfold Ps.peek Mq.col
 rw [←h1]
 cases p.tk with
 | nil=>exact h.2.1
 | cons t l=>rfl
end Sim
end
section err
variable {p:Ps} (he:p.e≠0) (ht:p.tk=[])
include he in
theorem Ze (i e:Int):p.fail i e=p:=by simp [Ps.fail,he]
include ht in
theorem YY:p.peek=⟨0,ofL [],p.en⟩:=by simp [Ps.peek,ht]
include ht in
theorem UO:p.pass=p:=by cases p;simp only [Ps.pass] at *;subst ht;rfl
include he ht in
theorem Yt (k:Int):p.need k=p:=by
 unfold Ps.need
 split
 ·exact UO ht
 ·rw [UO ht,Ze he]
include ht in
theorem pis_err {k:Int} (hk:k≠0) (s:ByteArray):p.is k s=false:=by
 simp [Ps.is,YY ht,Ne.symm hk]
include he ht in
theorem W2 (s:ByteArray):p.symb s=p:=by
 unfold Ps.symb
 rw [pis_err ht (by decide),if_neg (by decide),Ze he]
include he ht in
theorem WX:∀n,(factorF n p).2=p
 | 0=>Ze he _ _
 | n+1=>by
  unfold factorF
  simp only [YY ht]
  rw [if_neg (by decide),if_neg (by decide),if_neg (by decide)]
  simp only [UO ht,Ze he]
include he ht in
theorem termL_err (n:Nat) (l:List Cnd):termL n l p=(l,p):=by
 cases n with
 | zero=>unfold termL;rw [Ze he]
 | succ n=>unfold termL;rw [pis_err ht (by decide)];rfl
include he ht in
theorem termF_err (n:Nat):(termF n p).2=p:=by
 cases n with
 | zero=>exact Ze he _ _
 | succ n=>
  unfold termF
  have h1:=WX he ht n
  generalize factorF n p=r at *
  obtain ⟨c,q⟩:=r
  subst h1
  simp only [termL_err he ht]
include he ht in
theorem condL_err (n:Nat) (l:List Cnd):condL n l p=(l,p):=by
 cases n with
 | zero=>unfold condL;rw [Ze he]
 | succ n=>unfold condL;rw [pis_err ht (by decide)];rfl
include he ht in
theorem condF_err (n:Nat):(condF n p).2=p:=by
 cases n with
 | zero=>exact Ze he _ _
 | succ n=>
  unfold condF
  have h1:=termF_err he ht n
  generalize termF n p=r at *
  obtain ⟨c,q⟩:=r
  subst h1
  simp only [condL_err he ht]
end err
section errM
variable {m:Mq} (he:m.e≠0)
include he
theorem XC (e:Int):m.fail e=m:=by simp [Mq.fail,he]
theorem Wu (w:ByteArray):m.word w=false:=by simp [Mq.word,he]
theorem UF (q:Tk→Bool):m.take q=(eB,m):=by simp [Mq.take,he,XC he]
theorem factorM_err:∀n,(factorM n m).2=m
 | 0=>XC he _
 | n+1=>by
  unfold factorM
  rw [Wu he,if_neg (by decide),if_neg (fun h=>he h.1),if_neg (fun h=>he h.1),XC he]
end errM
theorem ZY {p:Ps} {m:Mq} {i e:Int} (he:p.e=0) (hm:m.e=0) (hn:p.en+1=m.en) (hi:i+1=m.col) (h0:e≠0):Sim (p.fail i e) (m.fail e):=by
 unfold Ps.fail Mq.fail
 rw [if_pos he,if_pos hm]
 exact ⟨fun t ht=>(by cases ht),hn,.inr ⟨h0,rfl,hi,rfl⟩⟩
theorem X6 {ts:List Tk} {en op pl cl:Int} (h:∀t ∈ ts,TkOK t):Sim ⟨ts,en,op,pl,0⟩ ⟨ts,en+1,op,0,cl⟩:=⟨h,rfl,.inl ⟨rfl,rfl,rfl,rfl⟩⟩
theorem Yv {s:ByteArray}:∀{l:List ByteArray},idx s l<l.length↔s ∈ l
 | []=>by simp [idx]
 | x::l=>by
  unfold idx
  by_cases h:x=s
  ·simp [h]
  ·rw [if_neg h]
   have:=Yv (s:=s) (l:=l)
   simp only [List.length_cons,List.mem_cons]
   constructor
   ·intro h1;exact .inr (this.1 (by omega))
   ·rintro (h1|h1)
    ·exact absurd h1.symm h
    ·have:=this.2 h1;omega
theorem numL_big:∀(l:List UInt8) (n:Int),1073741824<n→numL l n=n
 | [],_,_=>rfl
 | c::l,n,h=>by rw [numL,if_neg (by omega)]
theorem par_ge:∀(l:List UInt8) (a:Nat),(∀x ∈ l,isDgt x=true)→Lib.parseUint10 a l = .range∨∃u,a≤u∧Lib.parseUint10 a l = .ok u
 | [],a,_=>.inr ⟨a,Nat.le_refl _,rfl⟩
 | c::l,a,h=>by
  have hc:48≤c.toNat∧c.toNat≤57:=by simpa [isDgt] using h c (.head _)
  rw [Lib.parseUint10,if_pos hc]
  split
  ·exact .inl rfl
  ·split
   ·exact .inl rfl
   ·rcases par_ge l (a * 10+(c.toNat - 48)) (fun x hx=>h x (.tail _ hx)) with h1|⟨u,h1,h2⟩
    ·exact .inl h1
    ·exact .inr ⟨u,by omega,h2⟩
theorem num_par:∀(l:List UInt8) (a:Nat),(∀x ∈ l,isDgt x=true)→(a:Int)≤1073741824→
  (numL l a≤1073741824∧0≤numL l a∧Lib.parseUint10 a l = .ok (numL l a).toNat)∨(1073741824<numL l a∧(Lib.parseUint10 a l = .range∨∃u,1073741824<u∧Lib.parseUint10 a l = .ok u))
 | [],a,_,ha=>.inl ⟨ha,by simp [numL],by simp [numL,Lib.parseUint10]⟩
 | c::l,a,h,ha=>by
  have hc:48≤c.toNat∧c.toNat≤57:=by simpa [isDgt] using h c (.head _)
  have hl:∀x ∈ l,isDgt x=true:=fun x hx=>h x (.tail _ hx)
  rw [Lib.parseUint10,if_pos hc,if_neg (by omega),if_neg (by omega),numL,if_pos ha]
  have e:(10 * (a:Int)+c.toNat - 48)=((a * 10+(c.toNat - 48):Nat):Int):=by omega
  rw [e]
  by_cases h2:a * 10+(c.toNat - 48)≤1073741824
  ·exact num_par l _ hl (by omega)
  ·have hb:=numL_big l ((a * 10+(c.toNat - 48):Nat):Int) (by omega)
   refine Or.inr (And.intro (by omega) ?_)
   rcases par_ge l (a * 10+(c.toNat - 48)) hl with h1|⟨u,h1,h3⟩
   ·exact .inl h1
   ·exact .inr ⟨u,by omega,h3⟩
theorem ato_num {s:ByteArray} (h0:s.data.toList≠[]) (h:∀x ∈ s.data.toList,isDgt x=true) :
  ((atoF s).2=false∨1073741824<(atoF s).1)↔1073741824<numL s.data.toList 0:=by
 have:=num_par s.data.toList 0 h (by decide)
 unfold atoF Lib.atoiAll
 generalize s.data.toList=l at *
 cases l with
 | nil=>exact absurd rfl h0
 | cons c r=>
  have hc:48≤c.toNat∧c.toNat≤57:=by simpa [isDgt] using h c (.head _)
  have e1:¬(c.toNat=43):=by omega
  have e2:¬(c.toNat=45):=by omega
  simp only [e1,e2,or_self,if_false,Lib.parseMag,List.cons_ne_nil,not_false_eq_true,true_and,false_and]
  rcases this with ⟨h1,h2,h3⟩|⟨h1,h3|⟨u,h2,h3⟩⟩
  ·have h3':Lib.parseUint10 0 (c::r) = .ok (numL (c::r) 0).toNat:=h3
   have h1':numL (c::r) 0≤1073741824:=h1
   have h2':0≤numL (c::r) 0:=h2
   rw [h3']
   dsimp only
   rw [if_neg (by omega)]
   dsimp only
   constructor
   ·rintro (h|h)
    ·cases h
    ·omega
   ·intro h;omega
  ·have h3':Lib.parseUint10 0 (c::r) = .range:=h3
   have h1':1073741824<numL (c::r) 0:=h1
   rw [h3']
   simp [h1']
  ·have h3':Lib.parseUint10 0 (c::r) = .ok u:=h3
   have h1':1073741824<numL (c::r) 0:=h1
   rw [h3']
   dsimp only
   by_cases h5:9223372036854775808≤u
   ·rw [if_pos h5];simp [h1']
   ·rw [if_neg h5]
    dsimp only
    constructor
    ·intro _;exact h1'
    ·intro _;right;omega
theorem ato_val {s:ByteArray} (h0:s.data.toList≠[]) (h:∀x ∈ s.data.toList,isDgt x=true) (hn:¬1073741824<numL s.data.toList 0):(atoF s).1=numL s.data.toList 0:=by
 have:=num_par s.data.toList 0 h (by decide)
 unfold atoF Lib.atoiAll
 generalize s.data.toList=l at *
 cases l with
 | nil=>exact absurd rfl h0
 | cons c r=>
  have hc:48≤c.toNat∧c.toNat≤57:=by simpa [isDgt] using h c (.head _)
  have e1:¬(c.toNat=43):=by omega
  have e2:¬(c.toNat=45):=by omega
  simp only [e1,e2,or_self,if_false,Lib.parseMag,List.cons_ne_nil,not_false_eq_true,true_and,false_and]
  rcases this with ⟨h1,h2,h3⟩|⟨h1,_⟩
  ·have h3':Lib.parseUint10 0 (c::r) = .ok (numL (c::r) 0).toNat:=h3
   have h1':numL (c::r) 0≤1073741824:=h1
   have h2':0≤numL (c::r) 0:=h2
   rw [h3']
   dsimp only
   rw [if_neg (by omega)]
   dsimp only
   omega
  ·exact absurd h1 hn
theorem sim_num {ts:List Tk} {en op pl cl:Int} (h:∀t ∈ ts,TkOK t) :
  Sim (numF ⟨ts,en,op,pl,0⟩).2 (numM ⟨ts,en+1,op,0,cl⟩).2∧((numF ⟨ts,en,op,pl,0⟩).2.e=0→(numF ⟨ts,en,op,pl,0⟩).1=(numM ⟨ts,en+1,op,0,cl⟩).1):=by
 cases ts with
 | nil=>
  have e1:numF ⟨[],en,op,pl,0⟩=((atoF (ofL [])).1,(⟨[],en,op,pl,0⟩:Ps).fail en 30):=by
   unfold numF
   have hp:(⟨[],en,op,pl,0⟩:Ps).need 2=(⟨[],en,op,pl,0⟩:Ps).fail en 30:=by simp [Ps.need,Ps.peek,Ps.pass]
   simp only [hp]
   have h0:(Ps.fail ⟨[],en,op,pl,0⟩ en 30).e≠0:=by simp [Ps.fail]
   simp only [Ze h0,ite_self]
   rfl
  have e2:numM ⟨[],en+1,op,0,cl⟩=(0,(⟨[],en+1,op,0,cl⟩:Mq).fail 30):=by
   unfold numM
   rw [if_pos (.inr rfl)]
  rw [e1,e2]
  exact ⟨ZY rfl rfl rfl rfl (by decide),fun h=>by simp [Ps.fail] at h⟩
 | cons t ts=>
  by_cases hk:t.kd=2
  ·have hok:=(h t (.head _)).2 hk
   have hp:(⟨t::ts,en,op,pl,0⟩:Ps).need 2=⟨ts,en,op,pl,0⟩:=by
    simp [Ps.need,Ps.peek,hk,Ps.pass]
   have hm:(⟨t::ts,en+1,op,0,cl⟩:Mq).has (fun t=>decide (t.kd=2))=true:=by simp [Mq.has,hk]
   unfold numF numM
   simp only [hp,hm]
   simp only [Ps.peek,Mq.hd,ne_eq,not_true_eq_false,false_or,Bool.true_eq_false,if_false]
   by_cases hb:badN t.tx=true
   ·simp only [hb,if_true]
    have h0:(Ps.fail ⟨ts,en,op,pl,0⟩ t.pl 3).e≠0:=by simp [Ps.fail]
    simp only [Ze h0,ite_self]
    exact ⟨ZY rfl rfl rfl rfl (by decide),fun h=>absurd h h0⟩
   ·have hb':badN t.tx=false:=by simpa using hb
    simp only [hb',Bool.false_eq_true,if_false]
    have hd:∀x ∈ t.tx.data.toList,isDgt x=true:=by
     intro x hx
     have h1:=hok.2 x hx
     simp only [inNum,Bool.or_eq_true,beq_iff_eq] at h1
     rcases h1 with h1|h1
     ·exact h1
     ·exfalso;apply hb
      unfold badN
      rw [Bool.or_eq_true];left
      rw [List.contains_iff_mem]
      rw [←h1];exact hx
    have ha:=ato_num hok.1 hd
    by_cases hr:1073741824<numL t.tx.data.toList 0
    ·have hq:=ha.2 hr
     simp only [hq,hr,if_true]
     exact ⟨ZY rfl rfl rfl rfl (by decide),fun h=>by simp [Ps.fail] at h⟩
    ·have hn:¬((atoF t.tx).2=false∨1073741824<(atoF t.tx).1):=fun h=>hr (ha.1 h)
     simp only [hn,hr,if_false]
     exact ⟨X6 fun t ht=>h t (.tail _ ht),fun _=>ato_val hok.1 hd hr⟩
  ·have e2:numM ⟨t::ts,en+1,op,0,cl⟩=(0,(⟨t::ts,en+1,op,0,cl⟩:Mq).fail 30):=by
    unfold numM
    rw [if_pos (.inr (by simp [Mq.has,hk]))]
   have e1:numF ⟨t::ts,en,op,pl,0⟩=((atoF t.tx).1,(⟨ts,en,op,pl,0⟩:Ps).fail t.pl 30):=by
    unfold numF
    have hp:(⟨t::ts,en,op,pl,0⟩:Ps).need 2=(⟨ts,en,op,pl,0⟩:Ps).fail t.pl 30:=by simp [Ps.need,Ps.peek,hk,Ps.pass]
    simp only [hp]
    have h0:(Ps.fail ⟨ts,en,op,pl,0⟩ t.pl 30).e≠0:=by simp [Ps.fail]
    simp only [Ze h0,ite_self]
    rfl
   rw [e1,e2]
   exact ⟨ZY rfl rfl rfl rfl (by decide),fun h=>by simp [Ps.fail] at h⟩
theorem tst_ne {w:ByteArray} (h:isTst w=true):w≠wOr∧w≠wAnd∧w≠wNot:=by
 refine ⟨?_,?_,?_⟩<;>(rintro rfl;exact absurd h (by decide))
theorem kinds_x:∀w ∈ wKinds,w≠wChan∧¬idx w wTxs<3∧¬idx w wNms<4:=by decide
theorem txs_x:∀w ∈ wTxs,¬idx w wNms<4:=by decide
theorem chan_x:¬idx wChan wTxs<3∧¬idx wChan wNms<4:=by decide
theorem VR {w:ByteArray} (h:isTst w=true) (l:List Tr5) (rel tx:ByteArray) (n:Int):toC (.mk w l rel tx n) =
  if idx w wKinds<3 then .kd w ((idx w wKinds:Nat)+2)
  else if w=wChan then .ch (w++wSp++rel) n
  else if idx w wTxs<3 then .tx (w++wSp++rel++wSp++quoF tx) (idx w wTxs) (idx rel wCts) tx
  else if idx w wNms<4 then .nm (w++wSp++rel++wSp++ofL (Lib.itoa n)) (idx w wNms) (idx rel yCns) n
  else .by_ (w++wSp++tx) tx:=by
 obtain ⟨h1,h2,h3⟩:=tst_ne h
 rw [toC,if_neg h1,if_neg h2,if_neg h3]
theorem wf_tst {w:ByteArray} (h:isTst w=true) {rel tx:ByteArray} {n:Int} (h1:idx w wTxs<3→idx rel wCts<3) (h2:idx w wNms<4→idx rel yCns<3):WfT (.mk w [] rel tx n):=by
 obtain ⟨a,b,c⟩:=tst_ne h
 rw [WfT,if_neg (by rintro (h|h);exact a h;exact b h),if_neg c]
 exact ⟨rfl,h,h1,h2⟩
section
variable {ts:List Tk} {t:Tk} {en op pl cl:Int}
theorem XH {k:Int} (hk:k≠0):(⟨[],en,op,pl,0⟩:Ps).need k=(⟨[],en,op,pl,0⟩:Ps).fail en 30:=by simp [Ps.need,Ps.peek,Ps.pass,Ne.symm hk]
theorem Xb {k:Int} (hk:t.kd=k):(⟨t::ts,en,op,pl,0⟩:Ps).need k=⟨ts,en,op,pl,0⟩:=by simp [Ps.need,Ps.peek,hk,Ps.pass]
theorem Xy {k:Int} (hk:t.kd≠k):(⟨t::ts,en,op,pl,0⟩:Ps).need k=(⟨ts,en,op,pl,0⟩:Ps).fail t.pl 30:=by simp [Ps.need,Ps.peek,hk,Ps.pass]
theorem Zl {p:Ps} {i e:Int} (h0:e≠0):(p.fail i e).e≠0:=by
 unfold Ps.fail;split
 ·exact h0
 ·assumption
theorem W9 {p:Ps} {i e:Int} (h:p.e=0):(p.fail i e).tk=[]:=by simp [Ps.fail,h]
theorem XE:(⟨[],en,op,pl,0⟩:Ps).peek=⟨0,ofL [],en⟩:=rfl
theorem YX:(⟨t::ts,en,op,pl,0⟩:Ps).peek=t:=rfl
end
theorem ff {i j e f:Int} {p:Ps} (h0:e≠0):(p.fail i e).fail j f=p.fail i e:=Ze (Zl h0) _ _
theorem sim_test {w:ByteArray} (hw:isTst w=true) {ts:List Tk} {en op pl cl:Int} (h:∀t ∈ ts,TkOK t) :
  Sim (testF w ⟨ts,en,op,pl,0⟩).2 (tstM w ⟨ts,en+1,op,0,cl⟩).2∧((testF w ⟨ts,en,op,pl,0⟩).2.e=0→(testF w ⟨ts,en,op,pl,0⟩).1=toC (tstM w ⟨ts,en+1,op,0,cl⟩).1∧WfT (tstM w ⟨ts,en+1,op,0,cl⟩).1):=by
 unfold testF tstM
 by_cases h1:idx w wKinds<3
 ·rw [if_pos h1,if_pos h1]
  obtain ⟨x1,x2,x3⟩:=kinds_x w (Yv.1 h1)
  refine ⟨X6 h,fun _=>⟨?_,wf_tst hw (fun h=>absurd h x2) (fun h=>absurd h x3)⟩⟩
  rw [VR hw,if_pos h1]
 rw [if_neg h1,if_neg h1]
 by_cases h2:w=wChan
 ·rw [if_pos h2,if_pos h2]
  have x2:¬idx w wTxs<3:=by rw [h2];exact chan_x.1
  have x3:¬idx w wNms<4:=by rw [h2];exact chan_x.2
  cases ts with
  | nil=>
   simp only [XE,XH (show (1:Int)≠0 by decide),ff (show (30:Int)≠0 by decide),ite_self]
   exact ⟨ZY rfl rfl rfl rfl (by decide),fun h=>absurd h (Zl (by decide))⟩
  | cons t ts=>
   simp only [YX]
   by_cases hk:t.kd=1
   ·rw [Xb hk]
    by_cases hi:idx t.tx wChs<4
    ·have e:(⟨t::ts,en+1,op,0,cl⟩:Mq).has (fun t=>decide (t.kd=1) && decide (idx t.tx wChs<4))=true:=by simp [Mq.has,hk,hi]
     rw [if_pos e]
     simp only [hi,if_true]
     refine ⟨X6 fun t ht=>h t (.tail _ ht),fun _=>⟨?_,wf_tst hw (fun h=>absurd h x2) (fun h=>absurd h x3)⟩⟩
     rw [VR hw,if_neg h1,if_pos h2];rfl
    ·have e:¬(⟨t::ts,en+1,op,0,cl⟩:Mq).has (fun t=>decide (t.kd=1) && decide (idx t.tx wChs<4))=true:=by simp [Mq.has,hi]
     rw [if_neg e]
     simp only [hi,if_false]
     exact ⟨ZY rfl rfl rfl rfl (by decide),fun h=>absurd h (Zl (by decide))⟩
   ·rw [Xy hk]
    have e:¬(⟨t::ts,en+1,op,0,cl⟩:Mq).has (fun t=>decide (t.kd=1) && decide (idx t.tx wChs<4))=true:=by simp [Mq.has,hk]
    rw [if_neg e]
    simp only [ff (show (30:Int)≠0 by decide),ite_self]
    exact ⟨ZY rfl rfl rfl rfl (by decide),fun h=>absurd h (Zl (by decide))⟩
 rw [if_neg h2,if_neg h2]
 by_cases h3:idx w wTxs<3
 ·rw [if_pos h3,if_pos h3]
  have x3:=txs_x w (Yv.1 h3)
  cases ts with
  | nil=>
   have he:((⟨[],en,op,pl,0⟩:Ps).fail en 30).e≠0:=Zl (by decide)
   have ht:((⟨[],en,op,pl,0⟩:Ps).fail en 30).tk=[]:=W9 rfl
   simp only [XE,XH (show (1:Int)≠0 by decide),ff (show (30:Int)≠0 by decide),ite_self,Yt he ht]
   exact ⟨ZY rfl rfl rfl rfl (by decide),fun h=>absurd h he⟩
  | cons t ts=>
   have he:((⟨ts,en,op,pl,0⟩:Ps).fail t.pl 30).e≠0:=Zl (by decide)
   have ht:((⟨ts,en,op,pl,0⟩:Ps).fail t.pl 30).tk=[]:=W9 rfl
   simp only [YX]
   by_cases hk:t.kd=1
   ·rw [Xb hk]
    by_cases hi:idx t.tx wCts<3
    ·have e:(⟨t::ts,en+1,op,0,cl⟩:Mq).has (fun t=>decide (t.kd=1) && decide (idx t.tx wCts<3))=true:=by simp [Mq.has,hk,hi]
     rw [if_pos e]
     simp only [hi,if_true]
     have e2:(⟨t::ts,en+1,op,0,cl⟩:Mq).pass=⟨ts,en+1,op,0,cl⟩:=rfl
     have e3:(⟨t::ts,en+1,op,0,cl⟩:Mq).hd=t.tx:=rfl
     rw [e2,e3]
     have wf:∀tx n,WfT (.mk w [] t.tx tx n):=fun tx n=>wf_tst hw (fun _=>hi) (fun h=>absurd h x3)
     cases ts with
     | nil=>
      rw [XH (by decide)]
      have e4:(⟨[],en+1,op,0,cl⟩:Mq).take (fun t=>decide (t.kd=3))=(eB,(⟨[],en+1,op,0,cl⟩:Mq).fail 30):=by simp [Mq.take,Mq.has]
      rw [e4]
      exact ⟨ZY rfl rfl rfl rfl (by decide),fun h=>absurd h (Zl (by decide))⟩
     | cons u ts=>
      by_cases hu:u.kd=3
      ·rw [Xb hu]
       have e4:(⟨u::ts,en+1,op,0,cl⟩:Mq).take (fun t=>decide (t.kd=3))=(u.tx,⟨ts,en+1,op,0,cl⟩):=by simp [Mq.take,Mq.has,hu,Mq.hd,Mq.pass]
       rw [e4]
       refine ⟨X6 fun t ht=>h t (.tail _ (.tail _ ht)),fun _=>⟨?_,wf _ _⟩⟩
       rw [VR hw,if_neg h1,if_neg h2,if_pos h3];rfl
      ·rw [Xy hu]
       have e4:(⟨u::ts,en+1,op,0,cl⟩:Mq).take (fun t=>decide (t.kd=3))=(eB,(⟨u::ts,en+1,op,0,cl⟩:Mq).fail 30):=by simp [Mq.take,Mq.has,hu]
       rw [e4]
       exact ⟨ZY rfl rfl rfl rfl (by decide),fun h=>absurd h (Zl (by decide))⟩
    ·have e:¬(⟨t::ts,en+1,op,0,cl⟩:Mq).has (fun t=>decide (t.kd=1) && decide (idx t.tx wCts<3))=true:=by simp [Mq.has,hi]
     rw [if_neg e]
     simp only [hi,if_false,Yt he ht]
     exact ⟨ZY rfl rfl rfl rfl (by decide),fun h=>absurd h he⟩
   ·rw [Xy hk]
    have e:¬(⟨t::ts,en+1,op,0,cl⟩:Mq).has (fun t=>decide (t.kd=1) && decide (idx t.tx wCts<3))=true:=by simp [Mq.has,hk]
    rw [if_neg e]
    simp only [ff (show (30:Int)≠0 by decide),ite_self,Yt he ht]
    exact ⟨ZY rfl rfl rfl rfl (by decide),fun h=>absurd h he⟩
 rw [if_neg h3,if_neg h3]
 by_cases h4:idx w wNms<4
 ·rw [if_pos h4,if_pos h4]
  have nerr:∀{p:Ps},p.e≠0→p.tk=[]→(numF p).2=p:=fun {p} he ht=>by
   unfold numF
   simp only [Yt he ht,Ze he,ite_self]
  cases ts with
  | nil=>
   have he:((⟨[],en,op,pl,0⟩:Ps).fail en 30).e≠0:=Zl (by decide)
   have ht:((⟨[],en,op,pl,0⟩:Ps).fail en 30).tk=[]:=W9 rfl
   simp only [XE,XH (show (4:Int)≠0 by decide),ff (show (30:Int)≠0 by decide),ite_self,nerr he ht]
   exact ⟨ZY rfl rfl rfl rfl (by decide),fun h=>absurd h he⟩
  | cons t ts=>
   have he:((⟨ts,en,op,pl,0⟩:Ps).fail t.pl 30).e≠0:=Zl (by decide)
   have ht:((⟨ts,en,op,pl,0⟩:Ps).fail t.pl 30).tk=[]:=W9 rfl
   simp only [YX]
   by_cases hk:t.kd=4
   ·rw [Xb hk]
    by_cases hi:idx t.tx yCns<3
    ·have e:(⟨t::ts,en+1,op,0,cl⟩:Mq).has (fun t=>decide (t.kd=4) && decide (idx t.tx yCns<3))=true:=by simp [Mq.has,hk,hi]
     rw [if_pos e]
     simp only [hi,if_true]
     have e2:(⟨t::ts,en+1,op,0,cl⟩:Mq).pass=⟨ts,en+1,op,0,cl⟩:=rfl
     have e3:(⟨t::ts,en+1,op,0,cl⟩:Mq).hd=t.tx:=rfl
     rw [e2,e3]
     obtain ⟨s1,s2⟩:=sim_num (ts:=ts) (en:=en) (op:=op) (pl:=pl) (cl:=cl) fun t ht=>h t (.tail _ ht)
     refine ⟨s1,fun hz=>⟨?_,wf_tst hw (fun h=>absurd h h3) (fun _=>hi)⟩⟩
     rw [VR hw,if_neg h1,if_neg h2,if_neg h3,if_pos h4,s2 hz]
    ·have e:¬(⟨t::ts,en+1,op,0,cl⟩:Mq).has (fun t=>decide (t.kd=4) && decide (idx t.tx yCns<3))=true:=by simp [Mq.has,hi]
     rw [if_neg e]
     simp only [hi,if_false,nerr he ht]
     exact ⟨ZY rfl rfl rfl rfl (by decide),fun h=>absurd h he⟩
   ·rw [Xy hk]
    have e:¬(⟨t::ts,en+1,op,0,cl⟩:Mq).has (fun t=>decide (t.kd=4) && decide (idx t.tx yCns<3))=true:=by simp [Mq.has,hk]
    rw [if_neg e]
    simp only [ff (show (30:Int)≠0 by decide),ite_self,nerr he ht]
    exact ⟨ZY rfl rfl rfl rfl (by decide),fun h=>absurd h he⟩
 rw [if_neg h4,if_neg h4]
 have wf:∀tx n,WfT (.mk w [] eB tx n):=fun tx n=>wf_tst hw (fun h=>absurd h h3) (fun h=>absurd h h4)
 cases ts with
 | nil=>
  have e:¬(⟨[],en+1,op,0,cl⟩:Mq).has (fun t=>decide (t.kd=2) && !lvalid t.tx.data.toList)=true:=by simp [Mq.has]
  have e4:(⟨[],en+1,op,0,cl⟩:Mq).take (fun t=>decide (t.kd=2))=(eB,(⟨[],en+1,op,0,cl⟩:Mq).fail 30):=by simp [Mq.take,Mq.has]
  simp only [XE,XH (show (2:Int)≠0 by decide),ff (show (30:Int)≠0 by decide),ite_self,if_neg e,e4]
  exact ⟨ZY rfl rfl rfl rfl (by decide),fun h=>absurd h (Zl (by decide))⟩
 | cons t ts=>
  simp only [YX]
  by_cases hk:t.kd=2
  ·rw [Xb hk]
   by_cases hv:lvalid t.tx.data.toList=true
   ·have e:¬(⟨t::ts,en+1,op,0,cl⟩:Mq).has (fun t=>decide (t.kd=2) && !lvalid t.tx.data.toList)=true:=by simp [Mq.has,hv]
    have e4:(⟨t::ts,en+1,op,0,cl⟩:Mq).take (fun t=>decide (t.kd=2))=(t.tx,⟨ts,en+1,op,0,cl⟩):=by simp [Mq.take,Mq.has,hk,Mq.hd,Mq.pass]
    rw [if_neg e,e4]
    simp only [hv,if_true]
    refine ⟨X6 fun t ht=>h t (.tail _ ht),fun _=>⟨?_,wf _ _⟩⟩
    rw [VR hw,if_neg h1,if_neg h2,if_neg h3,if_neg h4]
   ·have e:(⟨t::ts,en+1,op,0,cl⟩:Mq).has (fun t=>decide (t.kd=2) && !lvalid t.tx.data.toList)=true:=by simp [Mq.has,hk,hv]
    have e5:((⟨t::ts,en+1,op,0,cl⟩:Mq).fail 12).e≠0:=by simp [Mq.fail]
    rw [if_pos e,UF e5]
    simp only [hv,Bool.false_eq_true,if_false]
    exact ⟨ZY rfl rfl rfl rfl (by decide),fun h=>absurd h (Zl (by decide))⟩
  ·rw [Xy hk]
   have e:¬(⟨t::ts,en+1,op,0,cl⟩:Mq).has (fun t=>decide (t.kd=2) && !lvalid t.tx.data.toList)=true:=by simp [Mq.has,hk]
   have e4:(⟨t::ts,en+1,op,0,cl⟩:Mq).take (fun t=>decide (t.kd=2))=(eB,(⟨t::ts,en+1,op,0,cl⟩:Mq).fail 30):=by simp [Mq.take,Mq.has,hk]
   rw [if_neg e,e4]
   simp only [ff (show (30:Int)≠0 by decide),ite_self]
   exact ⟨ZY rfl rfl rfl rfl (by decide),fun h=>absurd h (Zl (by decide))⟩
section
variable {n:Nat} {C:Cx} {Q:Exit→Act→World→Prop} {E E':List (Nat×Value)} {F F' F1 Fs F0:List Pf} {R R' R0 Rs N N' A:List HP} {k k':List Fr} {ops l:List Oper} {L L':List (Nat×Nat)} {Tl:List Nat} {i d:Nat} {t ty0:TypeId} {x y z:Operand} {pos:String} {aft:Array Edge} {gd:Option (Nat×Bool)} {α β:Type} [DecidableEq α] {K:α→Value} {V:β→Value}
theorem VU {kt et r:Nat} {rs te:TRow} {m:List (α×β)} {zv:Value} (hk:KeyOK kt K) (a:α) (o:Option β) (ho:mget a m=o) (nx:Wr n C ops k Q Tl Fs R L ((d,(o.map V).getD zv)::E) F N)
  (hop:nth ops i=some ⟨some d,.lookup t x y false,ty0,pos,aft,gd⟩:=by rfl) (hw:wantL ops E ⟨some d,.lookup t x y false,ty0,pos,aft,gd⟩=some true:=by rfl)
  (hx:ev E x=some (.map (some r)):=by rfl) (hy:ev E y=some (K a):=by rfl) (hts:lookT tab t=some rs:=by rfl) (hrs:rs.k = .map kt et:=by rfl) (hte:lookT tab et=some te:=by rfl) (hzv:zval te=some zv:=by rfl)
  (hs:Sel (Mp K V r m) R R0:=by (repeat (first|exact Sel.here|apply Sel.there));first|done|fail):Wr n C ops k Q Tl Fs R ((i,0)::L) E F N:=
 Z6 hop fun hp hr w st hz sb=>by
  simp only [ZW hw]
  refine ⟨(o.map V).getD zv,fun ac w ha hin=>?_,nx hp hr w st hz sb⟩
  obtain ⟨h1,h2,_,s1,_,hmp,_⟩:=hs.sep st.r
  obtain ⟨es,clock,hes,he,hB⟩:=hmp
  have hb:w.heap[r]? = some (.map es clock):=hin _ _ (sb _ _ (ZL _ _ _ _ (s1 _ _ hes)))
  have hu:=Xg (w:=w) hts hrs
  have hg:(getObj r).run prog w = .ok (.map es clock) w:=by simp [getObj,Sem.run,hb]
  have hc:=hk.chk a es.isEmpty w
  have hf:=Yo hk a es.toList m w he
  have hz0:=Wy hte hzv w
  have hfg:=Xf a m 0
  simp only [execOp,ha.ev (x:=x) (by rw [ZF];exact hx),ha.ev (x:=y) (by rw [ZF];exact hy),Instr.lookup,Sem.run_bind,hu,Result.andThen,hg,hc,hf,Sem.run_pure]
  cases hm:mfind a m 0 with
  | none=>
   rw [hm] at hfg
   simp only [Option.map_none,Sem.run_bind,hz0,Result.andThen,Sem.run_pure,Bool.false_eq_true,if_false]
   rw [←ho,←hfg];rfl
  | some q=>
   rw [hm] at hfg
   simp only [Option.map_some,Bool.false_eq_true,if_false]
   rw [←ho,←hfg];rfl
theorem Xq {kt et r:Nat} {rs te:TRow} {m:List (α×β)} {zv:Value} (hk:KeyOK kt K) (a:α) (o:Option β) (ho:mget a m=o) (nx:Wr n C ops k Q Tl Fs R L ((d,.tuple #[(o.map V).getD zv,.bool o.isSome])::E) F N)
  (hop:nth ops i=some ⟨some d,.lookup t x y true,ty0,pos,aft,gd⟩:=by rfl) (hw:wantL ops E ⟨some d,.lookup t x y true,ty0,pos,aft,gd⟩=some true:=by rfl)
  (hx:ev E x=some (.map (some r)):=by rfl) (hy:ev E y=some (K a):=by rfl) (hts:lookT tab t=some rs:=by rfl) (hrs:rs.k = .map kt et:=by rfl) (hte:lookT tab et=some te:=by rfl) (hzv:zval te=some zv:=by rfl)
  (hs:Sel (Mp K V r m) R R0:=by (repeat (first|exact Sel.here|apply Sel.there));first|done|fail):Wr n C ops k Q Tl Fs R ((i,0)::L) E F N:=
 Z6 hop fun hp hr w st hz sb=>by
  simp only [ZW hw]
  refine ⟨.tuple #[(o.map V).getD zv,.bool o.isSome],fun ac w ha hin=>?_,nx hp hr w st hz sb⟩
  obtain ⟨h1,h2,_,s1,_,hmp,_⟩:=hs.sep st.r
  obtain ⟨es,clock,hes,he,hB⟩:=hmp
  have hb:w.heap[r]? = some (.map es clock):=hin _ _ (sb _ _ (ZL _ _ _ _ (s1 _ _ hes)))
  have hu:=Xg (w:=w) hts hrs
  have hg:(getObj r).run prog w = .ok (.map es clock) w:=by simp [getObj,Sem.run,hb]
  have hc:=hk.chk a es.isEmpty w
  have hf:=Yo hk a es.toList m w he
  have hz0:=Wy hte hzv w
  have hfg:=Xf a m 0
  simp only [execOp,ha.ev (x:=x) (by rw [ZF];exact hx),ha.ev (x:=y) (by rw [ZF];exact hy),Instr.lookup,Sem.run_bind,hu,Result.andThen,hg,hc,hf,Sem.run_pure]
  cases hm:mfind a m 0 with
  | none=>
   rw [hm] at hfg
   simp only [Option.map_none,Sem.run_bind,hz0,Result.andThen,Sem.run_pure,if_true]
   rw [←ho,←hfg];rfl
  | some q=>
   rw [hm] at hfg
   simp only [Option.map_some,if_true]
   rw [←ho,←hfg];rfl
end
def vid (v:Value):Value:=v
theorem mget_cts (w:ByteArray) (a b c:Value):(mget w (mset (⟨#[98,101,103,105,110,115]⟩:ByteArray) c (mset (⟨#[104,97,115]⟩:ByteArray) b (mset (⟨#[105,115]⟩:ByteArray) a []))))=if idx w wCts=0 then some a else if idx w wCts=1 then some b else if idx w wCts=2 then some c else none:=by
 have e:(mset (⟨#[98,101,103,105,110,115]⟩:ByteArray) c (mset (⟨#[104,97,115]⟩:ByteArray) b (mset (⟨#[105,115]⟩:ByteArray) a [])))=[(⟨#[105,115]⟩,a),(⟨#[104,97,115]⟩,b),(⟨#[98,101,103,105,110,115]⟩,c)]:=rfl
 rw [e]
 by_cases h1:w=⟨#[105,115]⟩
 ·subst h1;rfl
 by_cases h2:w=⟨#[104,97,115]⟩
 ·subst h2;rfl
 by_cases h3:w=⟨#[98,101,103,105,110,115]⟩
 ·subst h3;rfl
 have e2:idx w wCts=3:=by simp [wCts,idx,Ne.symm h1,Ne.symm h2,Ne.symm h3]
 rw [e2]
 simp [mget,h1,h2,h3]
theorem mget_txs (w:ByteArray) (a b c:Value):(mget w (mset (⟨#[97,102,116,101,114]⟩:ByteArray) c (mset (⟨#[98,101,102,111,114,101]⟩:ByteArray) b (mset (⟨#[116,97,114,103,101,116]⟩:ByteArray) a []))))=if idx w wTxs=0 then some a else if idx w wTxs=1 then some b else if idx w wTxs=2 then some c else none:=by
 have e:(mset (⟨#[97,102,116,101,114]⟩:ByteArray) c (mset (⟨#[98,101,102,111,114,101]⟩:ByteArray) b (mset (⟨#[116,97,114,103,101,116]⟩:ByteArray) a [])))=[(⟨#[116,97,114,103,101,116]⟩,a),(⟨#[98,101,102,111,114,101]⟩,b),(⟨#[97,102,116,101,114]⟩,c)]:=rfl
 rw [e]
 by_cases h1:w=⟨#[116,97,114,103,101,116]⟩
 ·subst h1;rfl
 by_cases h2:w=⟨#[98,101,102,111,114,101]⟩
 ·subst h2;rfl
 by_cases h3:w=⟨#[97,102,116,101,114]⟩
 ·subst h3;rfl
 have e2:idx w wTxs=3:=by simp [wTxs,idx,Ne.symm h1,Ne.symm h2,Ne.symm h3]
 rw [e2]
 simp [mget,h1,h2,h3]
theorem testF_tx {w:ByteArray} (hw:idx w wTxs<3) (p:Ps):testF w p=(let p2:=if idx p.peek.tx wCts<3 then p.need 1 else (p.need 1).fail p.peek.pl 30;(.tx (w++wSp++p.peek.tx++wSp++quoF p2.peek.tx) (idx w wTxs) (idx p.peek.tx wCts) p2.peek.tx,p2.need 3)):=by
 have h1:¬idx w wKinds<3:=fun h=>(kinds_x w (Yv.1 h)).2.1 hw
 have h2:¬w=wChan:=fun h=>by rw [h] at hw;exact chan_x.1 hw
 unfold testF
 rw [if_neg h1,if_neg h2,if_pos hw]
set_option maxHeartbeats 4000000 in
theorem UD (b r:Nat) (wd:ByteArray) (hw:idx wd wTxs<3) (x:Ps) (o:Option Addr) (cap:Nat) (hk:KdOK x):Enters 162∧Spec prog 162 #[.pointer (some ⟨b,0,none⟩),.string wd] [TkS (o,cap) x.tk] [Pt b (psC x o cap r)] (RdP b r (testF wd x)):=by
 have n1:=YZ b r x o cap hk 1
 have n2:=fun (q:Option Addr×Nat)=>Zr b r (x.need 1) q.1 q.2 x.peek.pl 30
 have hws:wd.size≤10:=by
  have h:=Yv.1 hw
  exact (show ∀w ∈ wTxs,w.size≤10 by decide) wd h
 have hz:=hk.peek
 rw [testF_tx hw]
 generalize hp:x.peek=t at *
 obtain ⟨kd,tx,pl⟩:=t
 dsimp only at hz ⊢
 generalize hy:(if idx tx wCts<3 then x.need 1 else (x.need 1).fail pl 30)=y
 have hky:KdOK y:=by
  rw [←hy];split
  ·exact hk.need 1
  ·exact (hk.need 1).fail _ _
 have n3:=fun (q:Option Addr×Nat)=>YZ b r y q.1 q.2 hky 3
 have hz2:=hky.peek
 generalize hp2:y.peek=u at *
 obtain ⟨kd2,tx2,pl2⟩:=u
 dsimp only at hz2 ⊢
 have n4:=ruQuote_ok tx2 (by omega)
 have hg1:=mget_cts tx (fnv 194) (fnv 195) (fnv 196)
 have hg2:=mget_txs wd (fnv 191) (fnv 192) (fnv 193)
 have hq:=quo_size tx2
 have hss:wSp.size=1:=by decide
 have q1:wd.size+wSp.size≤9223372036854775807:=by omega
 have q2:(wd++wSp).size+tx.size≤9223372036854775807:=by rw [ByteArray.size_append];omega
 have q3:(wd++wSp++tx).size+wSp.size≤9223372036854775807:=by simp only [ByteArray.size_append];omega
 have q4:(wd++wSp++tx++wSp).size+(quoF tx2).size≤9223372036854775807:=by simp only [ByteArray.size_append];omega
 obtain ⟨fv,hfv,hfm⟩:∃fv,mget wd (mset (⟨#[97,102,116,101,114]⟩:ByteArray) (fnv 193) (mset (⟨#[98,101,102,111,114,101]⟩:ByteArray) (fnv 192) (mset (⟨#[116,97,114,103,101,116]⟩:ByteArray) (fnv 191) [])))=some (fnv fv)∧fdT (idx wd wTxs)=fnv fv:=by
  rw [hg2]
  generalize idx wd wTxs=kk at hw
  match kk,hw with
  | 0,_=>exact ⟨_,rfl,rfl⟩
  | 1,_=>exact ⟨_,rfl,rfl⟩
  | 2,_=>exact ⟨_,rfl,rfl⟩
 generalize b=bp at *
 by_cases hi:idx tx wCts<3
 ·obtain ⟨cf,hcv,hcm⟩:∃cf,mget tx (mset (⟨#[98,101,103,105,110,115]⟩:ByteArray) (fnv 196) (mset (⟨#[104,97,115]⟩:ByteArray) (fnv 195) (mset (⟨#[105,115]⟩:ByteArray) (fnv 194) [])))=some (fnv cf)∧cmT (idx tx wCts)=fnv cf:=by
   rw [hg1]
   generalize idx tx wCts=kk at hi
   match kk,hi with
   | 0,_=>exact ⟨_,rfl,rfl⟩
   | 1,_=>exact ⟨_,rfl,rfl⟩
   | 2,_=>exact ⟨_,rfl,rfl⟩
  rw [if_pos hi] at hy
  subst hy
  refine ZE [_,_] func162 ntmps162 fun G w hp=>?_
  repeat' (first|refine Zy (V:=vid) ZZ tx (some (fnv cf)) hcv ?_|refine Yy (V:=vid) ZZ _ _ ?_|refine Yk ZZ vid (fun r=>?_)|refine ZC ?_|refine ZH (fun b=>?_)|refine ZA (n1) (fun _ _=>?_)|refine ZK (n3 _) (fun _ _=>?_)|refine Vx (n4) (fun _ _=>?_)|refine VU (V:=vid) ZZ wd (some (fnv fv)) hfv ?_|refine Y5 (a:=wd) (b:=wSp) ?_ (h:=q1)|refine Y5 (a:=wd++wSp) (b:=tx) ?_ (h:=q2)|refine Y5 (a:=wd++wSp++tx) (b:=wSp) ?_ (h:=q3)|refine Y5 (a:=wd++wSp++tx++wSp) (b:=quoF tx2) ?_ (h:=q4)|refine ZI 7 [Pt bp _] [(0,0),(3,0),(4,0),(5,0),(1,4),(2,0),(6,1),(7,1),(8,4),(9,4)] [] ?_|refine ZI 8 [] [(0,0),(1,0),(2,0),(3,0),(4,0),(5,0),(6,0),(9,0),(7,5),(8,0),(10,0),(11,0),(12,0)] [] ?_|fail)
  rename_i b8 q _ b10 _ _
  refine Y7 (b:=b8) ?_
  refine Y7 (b:=b10) ?_
  refine Y7 (b:=b) ?_
  refine Zx (F1:=[Blk b8 (.cells #[fnv cf] 286),Blk b (.cells #[fnv fv] 284),Blk b10 (.cells #[.string tx2] 9)]) (f:=CdF (.tx (wd++wSp++tx++wSp++quoF tx2) (idx wd wTxs) (idx tx wCts) tx2) (tsv (wd++wSp++tx++wSp++quoF tx2) 198 #[pv0 b8,pv0 b,pv0 b10])) (fun hp hF=>?_) ?_
  ·show CdP hp _ _
   rw [CdP,hcm,hfm]
   exact ⟨b8,b,b10,rfl,hF _ (.head _),hF _ (.tail _ (.head _)),hF _ (.tail _ (.tail _ (.head _)))⟩
  exact ZD (tsi (wd++wSp++tx++wSp++quoF tx2) 198 #[pv0 b8,pv0 b,pv0 b10],q) rfl trivial
 ·have hcv:mget tx (mset (⟨#[98,101,103,105,110,115]⟩:ByteArray) (fnv 196) (mset (⟨#[104,97,115]⟩:ByteArray) (fnv 195) (mset (⟨#[105,115]⟩:ByteArray) (fnv 194) [])))=none:=by
   rw [hg1,if_neg (by omega),if_neg (by omega),if_neg (by omega)]
  have hcm:cmT (idx tx wCts) = .nilFunc:=by
   unfold cmT;rw [if_neg (by omega),if_neg (by omega),if_neg (by omega)]
  rw [if_neg hi] at hy
  subst hy
  refine ZE [_,_] func162 ntmps162 fun G w hp=>?_
  repeat' (first|refine Zy (V:=vid) ZZ tx none hcv ?_|refine Yy (V:=vid) ZZ _ _ ?_|refine Yk ZZ vid (fun r=>?_)|refine ZC ?_|refine ZH (fun b=>?_)|refine ZA (n1) (fun _ _=>?_)|refine ZA (n2 _) (fun _ _=>?_)|refine ZK (n3 _) (fun _ _=>?_)|refine Vx (n4) (fun _ _=>?_)|refine VU (V:=vid) ZZ wd (some (fnv fv)) hfv ?_|refine Y5 (a:=wd) (b:=wSp) ?_ (h:=q1)|refine Y5 (a:=wd++wSp) (b:=tx) ?_ (h:=q2)|refine Y5 (a:=wd++wSp++tx) (b:=wSp) ?_ (h:=q3)|refine Y5 (a:=wd++wSp++tx++wSp) (b:=quoF tx2) ?_ (h:=q4)|refine ZI 7 [Pt bp _] [(0,0),(3,0),(4,0),(5,0),(1,4),(2,0),(6,1),(7,1),(8,4),(9,4)] [] ?_|refine ZI 8 [] [(0,0),(1,0),(2,0),(3,0),(4,0),(5,0),(6,0),(9,0),(7,5),(8,0),(10,0),(11,0),(12,0)] [] ?_|fail)
  rename_i b8 _ _ q _ b10 _ _
  refine Y7 (b:=b8) ?_
  refine Y7 (b:=b10) ?_
  refine Y7 (b:=b) ?_
  refine Zx (F1:=[Blk b8 (.cells #[.nilFunc] 286),Blk b (.cells #[fnv fv] 284),Blk b10 (.cells #[.string tx2] 9)]) (f:=CdF (.tx (wd++wSp++tx++wSp++quoF tx2) (idx wd wTxs) (idx tx wCts) tx2) (tsv (wd++wSp++tx++wSp++quoF tx2) 198 #[pv0 b8,pv0 b,pv0 b10])) (fun hp hF=>?_) ?_
  ·show CdP hp _ _
   rw [CdP,hcm,hfm]
   exact ⟨b8,b,b10,rfl,hF _ (.head _),hF _ (.tail _ (.head _)),hF _ (.tail _ (.tail _ (.head _)))⟩
  exact ZD (tsi (wd++wSp++tx++wSp++quoF tx2) 198 #[pv0 b8,pv0 b,pv0 b10],q) rfl trivial
end Go.Proofs.YtcjfciifhdfjkaaGreatDoor
set_option maxRecDepth 10000
namespace Go.Proofs
open Go.Shelf
def Tryz.laysM171_ren:Go.Shelf.Ren:=⟨fun|171=>141|243=>180|246=>218|283=>226|284=>227|285=>228|286=>229|129=>234|317=>233|318=>235|319=>236|320=>237|337=>243|338=>244|n=>n,fun|3=>3|9=>9|2=>2|4=>4|171=>307|0=>0|53=>235|37=>64|5=>5|173=>310|212=>322|51=>312|20=>20|213=>323|46=>221|232=>337|233=>338|n=>n,fun|17=>4|18=>7|19=>8|n=>n⟩
theorem Tryz.laysM171:Go.Proofs.LaysM.n171 Tryz.prog Tryz.laysM171_ren:={
 mixed:=by kernel_rfl
 f129:=Tryz.func234.trans (congrArg some (by kernel_rfl))
 f171:=Tryz.func141.trans (congrArg some (by kernel_rfl))
 f243:=Tryz.func180.trans (congrArg some (by kernel_rfl))
 f246:=Tryz.func218.trans (congrArg some (by kernel_rfl))
 f283:=Tryz.func226.trans (congrArg some (by kernel_rfl))
 f284:=Tryz.func227.trans (congrArg some (by kernel_rfl))
 f285:=Tryz.func228.trans (congrArg some (by kernel_rfl))
 f286:=Tryz.func229.trans (congrArg some (by kernel_rfl))
 f317:=Tryz.func233.trans (congrArg some (by kernel_rfl))
 f318:=Tryz.func235.trans (congrArg some (by kernel_rfl))
 f319:=Tryz.func236.trans (congrArg some (by kernel_rfl))
 f320:=Tryz.func237.trans (congrArg some (by kernel_rfl))
 f337:=Tryz.func243.trans (congrArg some (by kernel_rfl))
 f338:=Tryz.func244.trans (congrArg some (by kernel_rfl))
 t0:=Tryz.underlying0
 a0:=Tryz.isAgg0
 z0:=Tryz.sizeOf0
 v0:=Tryz.zeroValue0
 t2:=Tryz.underlying2
 a2:=Tryz.isAgg2
 z2:=Tryz.sizeOf2
 v2:=Tryz.zeroValue2
 t3:=Tryz.underlying3
 a3:=Tryz.isAgg3
 z3:=Tryz.sizeOf3
 v3:=Tryz.zeroValue3
 t4:=Tryz.underlying4
 a4:=Tryz.isAgg4
 z4:=Tryz.sizeOf4
 v4:=Tryz.zeroValue4
 t5:=Tryz.underlying5
 a5:=Tryz.isAgg5
 z5:=Tryz.sizeOf5
 v5:=Tryz.zeroValue5
 t9:=Tryz.underlying9
 a9:=Tryz.isAgg9
 z9:=Tryz.sizeOf9
 v9:=Tryz.zeroValue9
 t20:=Tryz.underlying20
 a20:=Tryz.isAgg20
 z20:=Tryz.sizeOf20
 v20:=Tryz.zeroValue20
 t37:=Tryz.underlying64
 a37:=Tryz.isAgg64
 z37:=Tryz.sizeOf64
 v37:=Tryz.zeroValue64
 t46:=Tryz.underlying221
 a46:=Tryz.isAgg221
 z46:=Tryz.sizeOf221
 v46:=Tryz.zeroValue221
 t51:=Tryz.underlying312
 a51:=Tryz.isAgg312
 z51:=Tryz.sizeOf312
 v51:=Tryz.zeroValue312
 t53:=Tryz.underlying235
 a53:=Tryz.isAgg235
 z53:=Tryz.sizeOf235
 v53:=Tryz.zeroValue235
 t171:=Tryz.underlying307
 a171:=Tryz.isAgg307
 z171:=Tryz.sizeOf307
 v171:=Tryz.zeroValue307
 t173:=Tryz.underlying310
 a173:=Tryz.isAgg310
 z173:=Tryz.sizeOf310
 v173:=Tryz.zeroValue310
 t212:=Tryz.underlying322
 a212:=Tryz.isAgg322
 z212:=Tryz.sizeOf322
 v212:=Tryz.zeroValue322
 t213:=Tryz.underlying323
 a213:=Tryz.isAgg323
 z213:=Tryz.sizeOf323
 t232:=Tryz.underlying337
 a232:=Tryz.isAgg337
 z232:=Tryz.sizeOf337
 v232:=Tryz.zeroValue337
 t233:=Tryz.underlying338
 a233:=Tryz.isAgg338
 z233:=Tryz.sizeOf338
 v233:=Tryz.zeroValue338
 g17:=by kernel_rfl
 g18:=by kernel_rfl
 g19:=by kernel_rfl
 i0:=by kernel_rfl
 i2:=by kernel_rfl
 i3:=by kernel_rfl
 i4:=by kernel_rfl
 i5:=by kernel_rfl
 i9:=by kernel_rfl
 i20:=by kernel_rfl
 i37:=by kernel_rfl
 i46:=by kernel_rfl
 i51:=by kernel_rfl
 i53:=by kernel_rfl
 i171:=by kernel_rfl
 i173:=by kernel_rfl
 i212:=by kernel_rfl
 i232:=by kernel_rfl
 i233:=by kernel_rfl
 m17:=by kernel_rfl
 m18:=by kernel_rfl
 m19:=by kernel_rfl}
end Go.Proofs
namespace Go.Proofs.YtcjfciifhdfjkaaGreatDoor
open Go.Proofs.Tryz
open Go.RowKit
theorem ext_grow (w:World) (k:Nat) (os:Array Obj):Ext w (Sort.grow (w.drewN k) os):=
 ⟨rfl,rfl,rfl,by simp [Sort.grow,World.drewN],fun j hj=>by
  show (w.heap++os)[j]? = _
  rw [Array.getElem?_append_left hj]⟩
def P10:Pf:=⟨fun h=>∃T fz,h 4=some (.cells (Lib.pow10Tab.map fun z=>Value.int .u64 z).toArray T fz),fun _ _ s ⟨T,fz,h⟩=>⟨T,fz,s _ _ h⟩⟩
theorem g10 : prog.globalNamed "internal/strconv.uint64pow10" = some 4 := by kernel_rfl
theorem tab10 {w : World} {T : TypeId} {fz : Nat × Nat} (h : w.heap[4]? = some (.cells (Lib.pow10Tab.map fun z => Value.int .u64 z).toArray T fz)) : Lib.TabIs prog w "internal/strconv.uint64pow10" .u64 Lib.pow10Tab := by
 unfold Lib.TabIs World.var?
 rw [g10]
 simp only [Option.bind_some]
 rw [h]
theorem itoa_ok (n:Int) (h0 : -9223372036854775808≤n) (h1:n≤9223372036854775807):Enters 141∧Spec prog 141 #[.int .i64 n] [P10] [] (RetV (.string ⟨(Lib.itoa n).toArray⟩)):=by
 refine ⟨enters_of func141 (by kernel_rfl) rfl,fun G w hp hs=>?_⟩
 obtain ⟨hp',hr,st⟩:=hs
 obtain ⟨T,fz,h⟩:=st.f P10 (by simp)
 refine (Any.strconv_Itoa Tryz.laysM171 n h0 h1 w (tab10 (st.inp _ _ h))).mono ?_
 rintro e w' ⟨rfl,k,os,rfl⟩
 exact ⟨(),rfl,trivial,(Sat.ext ⟨hp',hr,st⟩ (ext_grow w k os)).facts fun _ _ x hx=>by simp [RetV] at hx⟩
end Go.Proofs.YtcjfciifhdfjkaaGreatDoor
namespace Go.Proofs.YtcjfciifhdfjkaaGreatDoor
open Go.RowKit Go.Proofs.Tryz
theorem mget_cns (w:ByteArray) (a b c:Value):(mget w (mset (⟨#[62]⟩:ByteArray) c (mset (⟨#[60]⟩:ByteArray) b (mset (⟨#[61]⟩:ByteArray) a []))))=if idx w yCns=0 then some a else if idx w yCns=1 then some b else if idx w yCns=2 then some c else none:=by
 have e:(mset (⟨#[62]⟩:ByteArray) c (mset (⟨#[60]⟩:ByteArray) b (mset (⟨#[61]⟩:ByteArray) a [])))=[(⟨#[61]⟩,a),(⟨#[60]⟩,b),(⟨#[62]⟩,c)]:=rfl
 rw [e]
 by_cases h1:w=⟨#[61]⟩
 ·subst h1;rfl
 by_cases h2:w=⟨#[60]⟩
 ·subst h2;rfl
 by_cases h3:w=⟨#[62]⟩
 ·subst h3;rfl
 have e2:idx w yCns=3:=by simp [yCns,idx,Ne.symm h1,Ne.symm h2,Ne.symm h3]
 rw [e2]
 simp [mget,h1,h2,h3]
theorem mget_nms (w:ByteArray) (a b c d:Value):(mget w (mset (⟨#[116,105,99,107]⟩:ByteArray) d (mset (⟨#[115,105,122,101]⟩:ByteArray) c (mset (⟨#[110,117,109,98,101,114]⟩:ByteArray) b (mset (⟨#[117,115,101,114]⟩:ByteArray) a [])))))=if idx w wNms=0 then some a else if idx w wNms=1 then some b else if idx w wNms=2 then some c else if idx w wNms=3 then some d else none:=by
 have e:(mset (⟨#[116,105,99,107]⟩:ByteArray) d (mset (⟨#[115,105,122,101]⟩:ByteArray) c (mset (⟨#[110,117,109,98,101,114]⟩:ByteArray) b (mset (⟨#[117,115,101,114]⟩:ByteArray) a []))))=[(⟨#[117,115,101,114]⟩,a),(⟨#[110,117,109,98,101,114]⟩,b),(⟨#[115,105,122,101]⟩,c),(⟨#[116,105,99,107]⟩,d)]:=rfl
 rw [e]
 by_cases h1:w=⟨#[117,115,101,114]⟩
 ·subst h1;rfl
 by_cases h2:w=⟨#[110,117,109,98,101,114]⟩
 ·subst h2;rfl
 by_cases h3:w=⟨#[115,105,122,101]⟩
 ·subst h3;rfl
 by_cases h4:w=⟨#[116,105,99,107]⟩
 ·subst h4;rfl
 have e2:idx w wNms=4:=by simp [wNms,idx,Ne.symm h1,Ne.symm h2,Ne.symm h3,Ne.symm h4]
 rw [e2]
 simp [mget,h1,h2,h3,h4]
theorem nms_x:∀w ∈ wNms,¬idx w wKinds<3∧w≠wChan∧¬idx w wTxs<3∧w.size≤10:=by decide
theorem testF_nm {w:ByteArray} (hw:idx w wNms<4) (p:Ps):testF w p=(let p2:=if idx p.peek.tx yCns<3 then p.need 4 else (p.need 4).fail p.peek.pl 30;(.nm (w++wSp++p.peek.tx++wSp++ofL (Lib.itoa (numF p2).1)) (idx w wNms) (idx p.peek.tx yCns) (numF p2).1,(numF p2).2)):=by
 obtain ⟨h1,h2,h3,_⟩:=nms_x w (Yv.1 hw)
 unfold testF
 rw [if_neg h1,if_neg h2,if_neg h3,if_pos hw]
theorem atoF_bd (s:ByteArray) : -9223372036854775808≤(atoF s).1∧(atoF s).1≤9223372036854775807:=by
 unfold atoF
 cases ha:Lib.atoiAll s.data.toList with
 | ok v=>
  dsimp only
  unfold Lib.atoiAll at ha
  split at ha
  ·cases ha
  ·dsimp only at ha
   split at ha
   ·cases ha
   ·cases ha
   ·split at ha
    ·cases ha
    ·split at ha
     ·cases ha
     ·rename_i c1 c2
      obtain rfl:=Lib.NumEnd.ok.inj ha
      split<;>omega
 | range=>
  dsimp only
  unfold Lib.atoiSat
  split<;>omega
 | _=>simp
theorem numF_bd (p:Ps) : -9223372036854775808≤(numF p).1∧(numF p).1≤9223372036854775807:=atoF_bd _
theorem dec_len3:∀(k n:Nat),n<10 ^ k→(Lib.decDigits n).length≤k+1
 | 0,n,h=>by rw [Lib.decDigits,dif_pos (by omega)];simp
 | k+1,n,h=>by
  rw [Lib.decDigits]
  split
  ·simp
  ·have:=dec_len3 k (n / 10) (by rw [Nat.pow_succ] at h;omega)
   simp only [List.length_append,List.length_cons,List.length_nil]
   omega
theorem V0 (n:Int) (h0 : -9223372036854775808≤n) (h1:n≤9223372036854775807):(ofL (Lib.itoa n)).size≤100:=by
 show (Lib.itoa n).toArray.size≤100
 simp only [List.size_toArray]
 unfold Lib.itoa
 split
 ·have:=dec_len3 20 n.natAbs (by omega)
  simp;omega
 ·have:=dec_len3 20 n.toNat (by omega)
  omega
set_option maxHeartbeats 4000000 in
theorem VJ (b r:Nat) (wd:ByteArray) (hw:idx wd wNms<4) (x:Ps) (o:Option Addr) (cap:Nat) (hk:KdOK x):Enters 163∧Spec prog 163 #[.pointer (some ⟨b,0,none⟩),.string wd] [TkS (o,cap) x.tk,ErA,P10] [Pt b (psC x o cap r)] (RdP b r (testF wd x)):=by
 have n1:=YZ b r x o cap hk 4
 have n2:=fun (q:Option Addr×Nat)=>Zr b r (x.need 4) q.1 q.2 x.peek.pl 30
 have hws:wd.size≤10:=by
  have h:=Yv.1 hw
  exact (nms_x wd h).2.2.2
 have hz:=hk.peek
 rw [testF_nm hw]
 generalize hp:x.peek=t at *
 obtain ⟨kd,tx,pl⟩:=t
 dsimp only at hz ⊢
 generalize hy:(if idx tx yCns<3 then x.need 4 else (x.need 4).fail pl 30)=y
 have hky:KdOK y:=by
  rw [←hy];split
  ·exact hk.need 4
  ·exact (hk.need 4).fail _ _
 have n3:=fun (q:Option Addr×Nat)=>ruNumber_ok b r y q.1 q.2 hky
 have hbd:=numF_bd y
 generalize hnf:numF y=nf at *
 obtain ⟨nv,y2⟩:=nf
 dsimp only at hbd n3 ⊢
 have n4:=itoa_ok nv hbd.1 hbd.2
 have hq:=V0 nv hbd.1 hbd.2
 have hg1:=mget_cns tx (fnv 203) (fnv 204) (fnv 205)
 have hg2:=mget_nms wd (fnv 199) (fnv 200) (fnv 201) (fnv 202)
 have hss:wSp.size=1:=by decide
 have q1:wd.size+wSp.size≤9223372036854775807:=by omega
 have q2:(wd++wSp).size+tx.size≤9223372036854775807:=by rw [ByteArray.size_append];omega
 have q3:(wd++wSp++tx).size+wSp.size≤9223372036854775807:=by simp only [ByteArray.size_append];omega
 have q4:(wd++wSp++tx++wSp).size+(ofL (Lib.itoa nv)).size≤9223372036854775807:=by simp only [ByteArray.size_append];omega
 obtain ⟨fv,hfv,hfm⟩:∃fv,mget wd (mset (⟨#[116,105,99,107]⟩:ByteArray) (fnv 202) (mset (⟨#[115,105,122,101]⟩:ByteArray) (fnv 201) (mset (⟨#[110,117,109,98,101,114]⟩:ByteArray) (fnv 200) (mset (⟨#[117,115,101,114]⟩:ByteArray) (fnv 199) []))))=some (fnv fv)∧fdN (idx wd wNms)=fnv fv:=by
  rw [hg2]
  generalize idx wd wNms=kk at hw
  match kk,hw with
  | 0,_=>exact ⟨_,rfl,rfl⟩
  | 1,_=>exact ⟨_,rfl,rfl⟩
  | 2,_=>exact ⟨_,rfl,rfl⟩
  | 3,_=>exact ⟨_,rfl,rfl⟩
 generalize b=bp at *
 by_cases hi:idx tx yCns<3
 ·obtain ⟨cf,hcv,hcm⟩:∃cf,mget tx (mset (⟨#[62]⟩:ByteArray) (fnv 205) (mset (⟨#[60]⟩:ByteArray) (fnv 204) (mset (⟨#[61]⟩:ByteArray) (fnv 203) [])))=some (fnv cf)∧cmN (idx tx yCns)=fnv cf:=by
   rw [hg1]
   generalize idx tx yCns=kk at hi
   match kk,hi with
   | 0,_=>exact ⟨_,rfl,rfl⟩
   | 1,_=>exact ⟨_,rfl,rfl⟩
   | 2,_=>exact ⟨_,rfl,rfl⟩
  rw [if_pos hi] at hy
  subst hy
  refine ZE [_,_] func163 ntmps163 fun G w hp=>?_
  repeat' (first|refine Zy (V:=vid) ZZ tx (some (fnv cf)) hcv ?_|refine Yy (V:=vid) ZZ _ _ ?_|refine Yk ZZ vid (fun r=>?_)|refine ZC ?_|refine ZH (fun b=>?_)|refine ZA (n1) (fun _ _=>?_)|refine ZK (n3 _) (fun _ _=>?_)|refine Vx (n4) (fun _ _=>?_)|refine VU (V:=vid) ZZ wd (some (fnv fv)) hfv ?_|refine Y5 (a:=wd) (b:=wSp) ?_ (h:=q1)|refine Y5 (a:=wd++wSp) (b:=tx) ?_ (h:=q2)|refine Y5 (a:=wd++wSp++tx) (b:=wSp) ?_ (h:=q3)|refine Y5 (a:=wd++wSp++tx++wSp) (b:=ofL (Lib.itoa nv)) ?_ (h:=q4)|refine ZI 7 [Pt bp _] [(0,0),(2,0),(3,0),(4,0),(1,4),(5,1),(6,1),(7,4),(8,4)] [] ?_|refine ZI 8 [] [(0,0),(1,0),(2,0),(3,0),(4,0),(5,0),(6,0),(9,0),(7,5),(8,0),(10,0),(11,0),(12,0)] [] ?_|fail)
  rename_i b8 q _ b10 _ _
  refine Y7 (b:=b8) ?_
  refine Y7 (b:=b10) ?_
  refine Y7 (b:=b) ?_
  refine Zx (F1:=[Blk b8 (.cells #[fnv cf] 156),Blk b (.cells #[fnv fv] 290),Blk b10 (.cells #[.int .i64 nv] 3)]) (f:=CdF (.nm (wd++wSp++tx++wSp++ofL (Lib.itoa nv)) (idx wd wNms) (idx tx yCns) nv) (tsv (wd++wSp++tx++wSp++ofL (Lib.itoa nv)) 207 #[pv0 b8,pv0 b,pv0 b10])) (fun hp hF=>?_) ?_
  ·show CdP hp _ _
   rw [CdP,hcm,hfm]
   exact ⟨b8,b,b10,rfl,hF _ (.head _),hF _ (.tail _ (.head _)),hF _ (.tail _ (.tail _ (.head _)))⟩
  exact ZD (tsi (wd++wSp++tx++wSp++ofL (Lib.itoa nv)) 207 #[pv0 b8,pv0 b,pv0 b10],q) rfl trivial
 ·have hcv:mget tx (mset (⟨#[62]⟩:ByteArray) (fnv 205) (mset (⟨#[60]⟩:ByteArray) (fnv 204) (mset (⟨#[61]⟩:ByteArray) (fnv 203) [])))=none:=by
   rw [hg1,if_neg (by omega),if_neg (by omega),if_neg (by omega)]
  have hcm:cmN (idx tx yCns) = .nilFunc:=by
   unfold cmN;rw [if_neg (by omega),if_neg (by omega),if_neg (by omega)]
  rw [if_neg hi] at hy
  subst hy
  refine ZE [_,_] func163 ntmps163 fun G w hp=>?_
  repeat' (first|refine Zy (V:=vid) ZZ tx none hcv ?_|refine Yy (V:=vid) ZZ _ _ ?_|refine Yk ZZ vid (fun r=>?_)|refine ZC ?_|refine ZH (fun b=>?_)|refine ZA (n1) (fun _ _=>?_)|refine ZA (n2 _) (fun _ _=>?_)|refine ZK (n3 _) (fun _ _=>?_)|refine Vx (n4) (fun _ _=>?_)|refine VU (V:=vid) ZZ wd (some (fnv fv)) hfv ?_|refine Y5 (a:=wd) (b:=wSp) ?_ (h:=q1)|refine Y5 (a:=wd++wSp) (b:=tx) ?_ (h:=q2)|refine Y5 (a:=wd++wSp++tx) (b:=wSp) ?_ (h:=q3)|refine Y5 (a:=wd++wSp++tx++wSp) (b:=ofL (Lib.itoa nv)) ?_ (h:=q4)|refine ZI 7 [Pt bp _] [(0,0),(2,0),(3,0),(4,0),(1,4),(5,1),(6,1),(7,4),(8,4)] [] ?_|refine ZI 8 [] [(0,0),(1,0),(2,0),(3,0),(4,0),(5,0),(6,0),(9,0),(7,5),(8,0),(10,0),(11,0),(12,0)] [] ?_|fail)
  rename_i b8 _ _ q _ b10 _ _
  refine Y7 (b:=b8) ?_
  refine Y7 (b:=b10) ?_
  refine Y7 (b:=b) ?_
  refine Zx (F1:=[Blk b8 (.cells #[.nilFunc] 156),Blk b (.cells #[fnv fv] 290),Blk b10 (.cells #[.int .i64 nv] 3)]) (f:=CdF (.nm (wd++wSp++tx++wSp++ofL (Lib.itoa nv)) (idx wd wNms) (idx tx yCns) nv) (tsv (wd++wSp++tx++wSp++ofL (Lib.itoa nv)) 207 #[pv0 b8,pv0 b,pv0 b10])) (fun hp hF=>?_) ?_
  ·show CdP hp _ _
   rw [CdP,hcm,hfm]
   exact ⟨b8,b,b10,rfl,hF _ (.head _),hF _ (.tail _ (.head _)),hF _ (.tail _ (.tail _ (.head _)))⟩
  exact ZD (tsi (wd++wSp++tx++wSp++ofL (Lib.itoa nv)) 207 #[pv0 b8,pv0 b,pv0 b10],q) rfl trivial
def Sfx (p q:Ps):Prop:=q.tk <:+ p.tk
namespace Sfx
theorem refl (p:Ps):Sfx p p:=List.suffix_refl _
theorem trans {p q r:Ps} (h:Sfx p q) (k:Sfx q r):Sfx p r:=List.IsSuffix.trans k h
theorem pass (p:Ps):Sfx p p.pass:=List.tail_suffix _
theorem fail (p:Ps) (i e:Int):Sfx p (p.fail i e):=by
 unfold Ps.fail
 split
 ·exact List.nil_suffix
 ·exact refl p
theorem need (p:Ps) (k:Int):Sfx p (p.need k):=by
 unfold Ps.need
 split
 ·exact pass p
 ·exact (pass p).trans (fail _ _ _)
theorem symb (p:Ps) (s:ByteArray):Sfx p (p.symb s):=by
 unfold Ps.symb
 split
 ·exact pass p
 ·exact fail _ _ _
theorem ite {c:Prop} [Decidable c] {p q r:Ps} (h:Sfx p q) (k:Sfx p r):Sfx p (if c then q else r):=by split<;>assumption
theorem num (p:Ps):Sfx p (numF p).2:=by
 unfold numF
 dsimp only
 exact ite ((ite ((need p 2).trans (fail _ _ _)) (need p 2)).trans (fail _ _ _)) (ite ((need p 2).trans (fail _ _ _)) (need p 2))
theorem test (w:ByteArray) (p:Ps):Sfx p (testF w p).2:=by
 unfold testF
 split
 ·exact refl p
 ·split
  ·dsimp only
   exact ite (need p 1) ((need p 1).trans (fail _ _ _))
  ·split
   ·dsimp only
    exact (ite (need p 1) ((need p 1).trans (fail _ _ _))).trans (need _ 3)
   ·split
    ·dsimp only
     exact (ite (need p 4) ((need p 4).trans (fail _ _ _))).trans (num _)
    ·dsimp only
     exact ite (need p 2) ((need p 2).trans (fail _ _ _))
theorem len {p q:Ps} (h:Sfx p q):q.tk.length≤p.tk.length:=h.length_le
end Sfx
theorem sfx_op2 {p q:Ps} {d:Int} (h:Sfx {p with op:=d} q):Sfx p q:=h
theorem Yg:∀n:Nat,(∀p,Sfx p (factorF n p).2)∧(∀p,Sfx p (termF n p).2)∧(∀l p,Sfx p (termL n l p).2)∧(∀p,Sfx p (condF n p).2)∧(∀l p,Sfx p (condL n l p).2)
 | 0=>⟨fun p=>Sfx.fail p _ _,fun p=>Sfx.fail p _ _,fun _ p=>Sfx.fail p _ _,fun p=>Sfx.fail p _ _,fun _ p=>Sfx.fail p _ _⟩
 | n+1=>by
  obtain ⟨h1,h2,h3,h4,h5⟩:=Yg n
  refine ⟨fun p=>?_,fun p=>?_,fun l p=>?_,fun p=>?_,fun l p=>?_⟩
  ·unfold factorF
   dsimp only
   split
   ·exact (Sfx.pass p).trans (h1 _)
   ·split
    ·have a:Sfx p (if p.pass.op=32 then p.pass.fail p.peek.pl 9 else p.pass):=Sfx.ite ((Sfx.pass p).trans (Sfx.fail _ _ _)) (Sfx.pass p)
     generalize (if p.pass.op=32 then p.pass.fail p.peek.pl 9 else p.pass)=q at a
     exact a.trans ((sfx_op2 (h4 {q with op:=q.op+1})).trans (Sfx.symb _ _))
    ·split
     ·exact (Sfx.pass p).trans (Sfx.test _ _)
     ·exact (Sfx.pass p).trans (Sfx.fail _ _ _)
  ·exact (h1 p).trans (h3 _ _)
  ·unfold termL
   split
   ·exact (Sfx.pass p).trans ((h1 _).trans (h3 _ _))
   ·exact Sfx.refl p
  ·exact (h2 p).trans (h5 _ _)
  ·unfold condL
   split
   ·exact (Sfx.pass p).trans ((h2 _).trans (h5 _ _))
   ·exact Sfx.refl p
mutual
def lv:Cnd→Nat
 | .any l=>1+lvs l
 | .all l=>1+lvs l
 | .nt c=>1+lv c
 | .nul=>1
 | .kd _ _=>1
 | .ch _ _=>1
 | .tx _ _ _ _=>1
 | .nm _ _ _ _=>1
 | .by_ _ _=>1
def lvs:List Cnd→Nat
 | []=>0
 | c::l=>lv c+lvs l
end
theorem Xz:∀l m:List Cnd,lvs (l++m)=lvs l+lvs m
 | [],m=>by simp [lvs]
 | c::l,m=>by simp [lvs,Xz l m];omega
theorem lv_pos (c:Cnd):1≤lv c:=by cases c<;>simp [lv]<;>omega
theorem WB:∀l:List Cnd,l.length≤lvs l
 | []=>Nat.le_refl _
 | c::l=>by
  have:=lv_pos c
  have:=WB l
  rw [lvs,List.length_cons];omega
theorem lvs_any (c:Cnd):lvs (anyP c)≤lv c:=by
 cases c<;>simp [anyP,lv,lvs]
theorem lvs_all (c:Cnd):lvs (allP c)≤lv c:=by
 cases c<;>simp [allP,lv,lvs]
theorem lvs_anys:∀l:List Cnd,lvs (l.flatMap anyP)≤lvs l
 | []=>by simp [lvs]
 | c::l=>by
  have:=lvs_any c
  have:=lvs_anys l
  rw [List.flatMap_cons,Xz,lvs];omega
theorem lvs_alls:∀l:List Cnd,lvs (l.flatMap allP)≤lvs l
 | []=>by simp [lvs]
 | c::l=>by
  have:=lvs_all c
  have:=lvs_alls l
  rw [List.flatMap_cons,Xz,lvs];omega
theorem lv_either (l:List Cnd):lv (eitherF l)≤1+lvs l:=by
 have h:=lvs_anys l
 unfold eitherF
 split
 ·rename_i d hd
  rw [hd] at h;simp [lvs] at h;omega
 ·rw [lv];omega
theorem lv_both (l:List Cnd):lv (bothF l)≤1+lvs l:=by
 have h:=lvs_alls l
 unfold bothF
 split
 ·rename_i d hd
  rw [hd] at h;simp [lvs] at h;omega
 ·rw [lv];omega
theorem lv_test (w:ByteArray) (p:Ps):lv (testF w p).1=1:=by
 unfold testF
 split
 ·rfl
 ·split
  ·rfl
  ·split
   ·rfl
   ·split<;>rfl
theorem is_pass {p:Ps} {k:Int} {s:ByteArray} (hk:k≠0) (h:p.is k s=true):p.pass.tk.length+1=p.tk.length:=by
 unfold Ps.is Ps.peek at h
 unfold Ps.pass
 cases ht:p.tk with
 | nil=>rw [ht] at h;simp [Ne.symm hk] at h
 | cons t l=>simp
theorem Xn {p:Ps} (h:p.peek.kd≠0):p.pass.tk.length+1=p.tk.length:=by
 unfold Ps.peek at h
 unfold Ps.pass
 cases ht:p.tk with
 | nil=>rw [ht] at h;simp at h
 | cons t l=>simp
theorem lv_all:∀n:Nat,(∀p,lv (factorF n p).1+3 * (factorF n p).2.tk.length≤3 * p.tk.length+2)∧(∀p,lv (termF n p).1+3 * (termF n p).2.tk.length≤3 * p.tk.length+3)∧(∀l p,lvs (termL n l p).1+3 * (termL n l p).2.tk.length≤lvs l+3 * p.tk.length)∧
  (∀p,lv (condF n p).1+3 * (condF n p).2.tk.length≤3 * p.tk.length+5)∧(∀l p,lvs (condL n l p).1+3 * (condL n l p).2.tk.length≤lvs l+3 * p.tk.length)
 | 0=>by
  have hf:∀p:Ps,(p.fail p.peek.pl 99).tk.length≤p.tk.length:=fun p=>(Sfx.fail p _ _).len
  refine ⟨fun p=>?_,fun p=>?_,fun l p=>?_,fun p=>?_,fun l p=>?_⟩
  ·have:=hf p;simp only [factorF,lv];omega
  ·have:=hf p;simp only [termF,lv];omega
  ·have:=hf p;simp only [termL];omega
  ·have:=hf p;simp only [condF,lv];omega
  ·have:=hf p;simp only [condL];omega
 | n+1=>by
  obtain ⟨h1,h2,h3,h4,h5⟩:=lv_all n
  refine ⟨fun p=>?_,fun p=>?_,fun l p=>?_,fun p=>?_,fun l p=>?_⟩
  ·unfold factorF
   dsimp only
   have hp:=(Sfx.pass p).len
   split
   ·rename_i hc
    have hp:=Xn (p:=p) (by rw [hc.1];decide)
    have:=h1 p.pass
    simp only [lv];omega
   ·split
    ·rename_i hc
     have hp:=Xn (p:=p) (by rw [hc.1];decide)
     have a:(if p.pass.op=32 then p.pass.fail p.peek.pl 9 else p.pass).tk.length≤p.pass.tk.length:=(Sfx.ite (Sfx.fail _ _ _) (Sfx.refl _)).len
     generalize (if p.pass.op=32 then p.pass.fail p.peek.pl 9 else p.pass)=q at a
     have b:=h4 {q with op:=q.op+1}
     have c:=(Sfx.symb (condF n {q with op:=q.op+1}).2 yCls).len
     dsimp only at b ⊢
     omega
    ·split
     ·have a:=(Sfx.test p.peek.tx p.pass).len
      have b:=lv_test p.peek.tx p.pass
      omega
     ·have a:=(Sfx.fail p.pass p.peek.pl 30).len
      simp only [lv];omega
  ·have a:=h1 p
   have b:=h3 [(factorF n p).1] (factorF n p).2
   have c:=lv_both (termL n [(factorF n p).1] (factorF n p).2).1
   simp only [termF]
   simp only [lvs] at b
   omega
  ·unfold termL
   split
   ·rename_i hc
    have hp:=is_pass (by decide) hc
    have a:=h1 p.pass
    have b:=h3 (l++[(factorF n p.pass).1]) (factorF n p.pass).2
    rw [Xz] at b
    simp only [lvs] at b
    dsimp only
    omega
   ·exact Nat.le_refl _
  ·have a:=h2 p
   have b:=h5 [(termF n p).1] (termF n p).2
   have c:=lv_either (condL n [(termF n p).1] (termF n p).2).1
   simp only [condF]
   simp only [lvs] at b
   omega
  ·unfold condL
   split
   ·rename_i hc
    have hp:=is_pass (by decide) hc
    have a:=h2 p.pass
    have b:=h5 (l++[(termF n p.pass).1]) (termF n p.pass).2
    rw [Xz] at b
    simp only [lvs] at b
    dsimp only
    omega
   ·exact Nat.le_refl _
def Sop (p q:Ps):Prop:=q.op=p.op
namespace Sop
theorem refl (p:Ps):Sop p p:=rfl
theorem trans {p q r:Ps} (h:Sop p q) (k:Sop q r):Sop p r:=Eq.trans k h
theorem pass (p:Ps):Sop p p.pass:=rfl
theorem fail (p:Ps) (i e:Int):Sop p (p.fail i e):=by
 unfold Ps.fail
 split<;>rfl
theorem need (p:Ps) (k:Int):Sop p (p.need k):=by
 unfold Ps.need
 split
 ·exact pass p
 ·exact (pass p).trans (fail _ _ _)
theorem symb (p:Ps) (s:ByteArray):Sop p (p.symb s):=by
 unfold Ps.symb
 split
 ·exact pass p
 ·exact fail _ _ _
theorem ite {c:Prop} [Decidable c] {p q r:Ps} (h:Sop p q) (k:Sop p r):Sop p (if c then q else r):=by split<;>assumption
theorem num (p:Ps):Sop p (numF p).2:=by
 unfold numF
 dsimp only
 exact ite ((ite ((need p 2).trans (fail _ _ _)) (need p 2)).trans (fail _ _ _)) (ite ((need p 2).trans (fail _ _ _)) (need p 2))
theorem test (w:ByteArray) (p:Ps):Sop p (testF w p).2:=by
 unfold testF
 split
 ·exact refl p
 ·split
  ·dsimp only
   exact ite (need p 1) ((need p 1).trans (fail _ _ _))
  ·split
   ·dsimp only
    exact (ite (need p 1) ((need p 1).trans (fail _ _ _))).trans (need _ 3)
   ·split
    ·dsimp only
     exact (ite (need p 4) ((need p 4).trans (fail _ _ _))).trans (num _)
    ·dsimp only
     exact ite (need p 2) ((need p 2).trans (fail _ _ _))
end Sop
theorem X2:∀n:Nat,(∀p,Sop p (factorF n p).2)∧(∀p,Sop p (termF n p).2)∧(∀l p,Sop p (termL n l p).2)∧(∀p,Sop p (condF n p).2)∧(∀l p,Sop p (condL n l p).2)
 | 0=>⟨fun p=>Sop.fail p _ _,fun p=>Sop.fail p _ _,fun _ p=>Sop.fail p _ _,fun p=>Sop.fail p _ _,fun _ p=>Sop.fail p _ _⟩
 | n+1=>by
  obtain ⟨h1,h2,h3,h4,h5⟩:=X2 n
  refine ⟨fun p=>?_,fun p=>?_,fun l p=>?_,fun p=>?_,fun l p=>?_⟩
  ·unfold factorF
   dsimp only
   split
   ·exact (Sop.pass p).trans (h1 _)
   ·split
    ·have a:Sop p (if p.pass.op=32 then p.pass.fail p.peek.pl 9 else p.pass):=Sop.ite ((Sop.pass p).trans (Sop.fail _ _ _)) (Sop.pass p)
     generalize (if p.pass.op=32 then p.pass.fail p.peek.pl 9 else p.pass)=q at a
     have b:=h4 {q with op:=q.op+1}
     have c:=Sop.symb (condF n {q with op:=q.op+1}).2 yCls
     unfold Sop at a b c ⊢
     dsimp only at b c ⊢
     omega
    ·split
     ·exact (Sop.pass p).trans (Sop.test _ _)
     ·exact (Sop.pass p).trans (Sop.fail _ _ _)
  ·exact (h1 p).trans (h3 _ _)
  ·unfold termL
   split
   ·exact (Sop.pass p).trans ((h1 _).trans (h3 _ _))
   ·exact Sop.refl p
  ·exact (h2 p).trans (h5 _ _)
  ·unfold condL
   split
   ·exact (Sop.pass p).trans ((h2 _).trans (h5 _ _))
   ·exact Sop.refl p
end Go.Proofs.YtcjfciifhdfjkaaGreatDoor
