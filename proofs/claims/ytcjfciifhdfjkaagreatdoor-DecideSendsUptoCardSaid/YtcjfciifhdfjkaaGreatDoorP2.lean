/-
  Comparisons that order: numbers, texts, lists, pairs; no program in sight.
  Names of processes: the ordinals of a text, and that the order of names is one; no program in sight.
  Contracts of the package codec: writing.
  Contracts of the package codec: reading.
  Contracts of the package codec: the reader.
  Contracts of the package lineage.
  Contracts of the package lineage: Parse, Valid, Ordinals, Compare.
  Search trees of names and values, and the sorted lists that they hold; no program in sight.
  Contracts of cmp.Or and of the package object: Compare, Word, Check.
  The contract of object.Name.Check.
  Contracts of the package state: the search tree.
  Contracts of the package state: with, find.
  More rules for regions that draw their order: what is owned may be set fast, facts may be drawn from facts.
  Contracts of the package state: With.
  Contracts of the package state: the nodes in order, Kind.
  Contracts of the package output: Check, write, Encode, read, Decode.
  Contracts of the package output: ledgers, All.
  The contract of output.All.
  Equality of structs, evaluated; that this is what the model does; rules for it.
  Rules for maps that the program makes.
  The contract of consequence.Compare.
  The language of rules: what the program's scanner and parser compute; no program in sight.
  The language of rules: what conditions and templates say of a consequence; no program in sight.
  Books of decisions, as plain functions: what a repair, an answer and a question do to a book.
  Books of decisions: answers, compensations, what may leave; what holds of every book.
  Rules for rows of elements that are owned: made, read and written by index; arrays.
  Rules for owned slices that are changed in place; calls of function values where the order is drawn.
  Conditions: those that each theorem states.
-/
import Derived.Test.YtcjfciifhdfjkaaGreatDoorP1
import Derived.Laws.StructEq
import Derived.ChangeKeysEq
import Derived.Lib.AtoiAll
import Derived.Lib.ItoaNum
import Derived.Lib.IndexMore
import Derived.Lib.Strings
import Derived.Deep.OwnRows
namespace Go.Proofs.YtcjfciifhdfjkaaGreatDoor
open Go.RowKit Go.Proofs.Tryz
structure Ord3 {α:Type} (c:α→α→Int):Prop where
 eq:∀a b,c a b=0↔a=b
 anti:∀a b,c a b<0↔0<c b a
 trans:∀a b d,c a b<0→c b d<0→c a d<0
theorem Ord3.self {α:Type} {c:α→α→Int} (h:Ord3 c) (a:α):c a a=0:=(h.eq a a).2 rfl
theorem YM:Ord3 cmpI:=by
 constructor
 ·intro a b;unfold cmpI;split<;>(try split)<;>omega
 ·intro a b;unfold cmpI;split<;>(try split)<;>(try split)<;>(try split)<;>omega
 ·intro a b d;unfold cmpI;split<;>split<;>(try split)<;>(try split)<;>(try split)<;>(try split)<;>omega
theorem VQ:∀(x y:List UInt8),Op.bytesLess x y=decide (x<y)
 | [],[]=>by simp [Op.bytesLess]
 | _::_,[]=>by simp [Op.bytesLess]
 | [],_::_=>by simp [Op.bytesLess]
 | a::x,b::y=>by
  rw [Op.bytesLess,VQ x y]
  simp only [List.cons_lt_cons_iff]
  by_cases h1:a<b<;>by_cases h2:a=b<;>by_cases h3:x<y<;>simp [h1,h2,h3]
theorem toList_data (s:ByteArray):s.toList=s.data.toList:=ByteArray.toList_eq s
theorem XN {a b:ByteArray} (h:a.data.toList=b.data.toList):a=b:=by
 obtain ⟨⟨a⟩⟩:=a;obtain ⟨⟨b⟩⟩:=b;simp at h;subst h;rfl
theorem Ww (x y:ByteArray):cmpS x y=if x.data.toList<y.data.toList then -1 else if x=y then 0 else 1:=by
 unfold cmpS
 rw [VQ,toList_data,toList_data]
 by_cases h:x.data.toList<y.data.toList
 ·simp [h]
 ·simp only [h,decide_false,Bool.false_eq_true,if_false]
  by_cases h2:x=y
  ·simp [h2]
  ·rw [if_neg (fun e=>h2 (XN e)),if_neg h2]
theorem ord_str:Ord3 cmpS:=by
 have irr:∀a:List UInt8,¬a<a:=List.lt_irrefl
 have tr:∀a b c:List UInt8,a<b→b<c→a<c:=fun a b c h k=>List.lt_trans h k
 have tri:∀a b:ByteArray,¬a.data.toList<b.data.toList→a≠b→b.data.toList<a.data.toList:=fun a b h hne=>by
  refine Decidable.byContradiction fun k=>hne (XN ?_)
  exact List.le_antisymm (List.not_lt.1 k) (List.not_lt.1 h)
 constructor
 ·intro a b
  rw [Ww]
  by_cases h:a.data.toList<b.data.toList
  ·simp only [h,if_true]
   constructor
   ·intro e;omega
   ·intro e;subst e;exact absurd h (irr _)
  ·simp only [h,if_false]
   by_cases h2:a=b<;>simp [h2]
 ·intro a b
  rw [Ww,Ww]
  by_cases h:a.data.toList<b.data.toList
  ·have h2:¬b.data.toList<a.data.toList:=fun k=>irr _ (tr _ _ _ h k)
   have h3:b≠a:=fun e=>by subst e;exact irr _ h
   simp [h,h2,h3]
  ·simp only [h,if_false]
   by_cases h2:a=b
   ·subst h2;simp [irr]
   ·have:=tri a b h h2
    simp [h2,this]
 ·intro a b d
  rw [Ww,Ww,Ww]
  intro h1 h2
  have h1':a.data.toList<b.data.toList:=by
   by_cases h:a.data.toList<b.data.toList
   ·exact h
   ·simp only [h,if_false] at h1;split at h1<;>omega
  have h2':b.data.toList<d.data.toList:=by
   by_cases h:b.data.toList<d.data.toList
   ·exact h
   ·simp only [h,if_false] at h2;split at h2<;>omega
  simp [tr _ _ _ h1' h2']
def lex {α β:Type} (c:α→α→Int) (d:β→β→Int) (x y:α×β):Int:=if c x.1 y.1≠0 then c x.1 y.1 else d x.2 y.2
theorem Xa {α β:Type} {c:α→α→Int} {d:β→β→Int} (hc:Ord3 c) (hd:Ord3 d):Ord3 (lex c d):=by
 constructor
 ·rintro ⟨a,a'⟩ ⟨b,b'⟩
  unfold lex
  dsimp only
  have:=hc.eq a b
  have:=hd.eq a' b'
  simp only [Prod.mk.injEq]
  split<;>simp_all
 ·rintro ⟨a,a'⟩ ⟨b,b'⟩
  unfold lex
  dsimp only
  have h1:=hc.eq a b
  have h2:=hc.eq b a
  have h3:=hc.anti a b
  have h4:=hd.anti a' b'
  by_cases h:a=b
  ·subst h;simp [h1.2 rfl,h4]
  ·rw [if_pos (fun e=>h (h1.1 e)),if_pos (fun e=>h (h2.1 e).symm)];exact h3
 ·rintro ⟨a,a'⟩ ⟨b,b'⟩ ⟨e,e'⟩
  unfold lex
  dsimp only
  have h1:=hc.eq a b
  have h2:=hc.eq b e
  have h3:=hc.eq a e
  have h4:=hc.trans a b e
  have h5:=hd.trans a' b' e'
  by_cases hab:a=b
  ·subst hab
   rw [if_neg (by simp [h1.2 rfl])]
   by_cases hbe:a=e
   ·subst hbe;rw [if_neg (by simp [h1.2 rfl]),if_neg (by simp [h1.2 rfl])];exact h5
   ·rw [if_pos (fun x=>hbe (h2.1 x))];exact fun _ h=>by rw [if_pos (by omega)];exact h
  ·rw [if_pos (fun x=>hab (h1.1 x))]
   by_cases hbe:b=e
   ·subst hbe
    rw [if_neg (by simp [h2.2 rfl]),if_pos (fun x=>hab (h1.1 x))];exact fun h _=>h
   ·rw [if_pos (fun x=>hbe (h2.1 x))]
    intro k1 k2
    have k3:=h4 k1 k2
    rw [if_pos (by omega)];exact k3
theorem ord_map {α β:Type} {c:β→β→Int} (hc:Ord3 c) (f:α→β) (hf:∀a b,f a=f b→a=b):Ord3 fun a b=>c (f a) (f b):=
 ⟨fun a b=>(hc.eq _ _).trans ⟨hf a b,fun h=>by rw [h]⟩,fun _ _=>hc.anti _ _,fun _ _ _=>hc.trans _ _ _⟩
def cmpL:List Int→List Int→Int
 | [],[]=>0
 | [],_::_=>-1
 | _::_,[]=>1
 | a::x,b::y=>if cmpI a b≠0 then cmpI a b else cmpL x y
theorem ord_list:Ord3 cmpL:=by
 have e:∀a b,cmpL a b=0↔a=b:=by
  intro a
  induction a with
  | nil=>intro b;cases b<;>simp [cmpL]
  | cons x a ih=>
   intro b
   cases b with
   | nil=>simp [cmpL]
   | cons y b=>
    have:=YM.eq x y
    have:=ih b
    unfold cmpL
    split<;>simp_all
 refine ⟨e,?_,?_⟩
 ·intro a
  induction a with
  | nil=>intro b;cases b<;>simp [cmpL]
  | cons x a ih=>
   intro b
   cases b with
   | nil=>simp [cmpL]
   | cons y b=>
    have h1:=YM.eq x y
    have h2:=YM.eq y x
    have h3:=YM.anti x y
    have h4:=ih b
    unfold cmpL
    by_cases h:x=y
    ·subst h;simp [h1.2 rfl,h4]
    ·rw [if_pos (fun e=>h (h1.1 e)),if_pos (fun e=>h (h2.1 e).symm)];exact h3
 ·intro a
  induction a with
  | nil=>
   intro b d h1 h2
   cases d with
   | nil=>cases b<;>simp [cmpL] at h1 h2
   | cons=>simp [cmpL]
  | cons x a ih=>
   intro b d
   cases b with
   | nil=>simp [cmpL]
   | cons y b=>
    cases d with
    | nil=>simp [cmpL]
    | cons z d=>
     have h1:=YM.eq x y
     have h2:=YM.eq y z
     have h3:=YM.eq x z
     have h4:=YM.trans x y z
     have h5:=ih b d
     unfold cmpL
     by_cases hab:x=y
     ·subst hab
      rw [if_neg (by simp [h1.2 rfl])]
      by_cases hbe:x=z
      ·subst hbe;rw [if_neg (by simp [h1.2 rfl]),if_neg (by simp [h1.2 rfl])];exact h5
      ·rw [if_pos (fun x=>hbe (h2.1 x))];exact fun _ h=>by rw [if_pos (by omega)];exact h
     ·rw [if_pos (fun x=>hab (h1.1 x))]
      by_cases hbe:y=z
      ·subst hbe
       rw [if_neg (by simp [h2.2 rfl]),if_pos (fun x=>hab (h1.1 x))];exact fun h _=>h
      ·rw [if_pos (fun x=>hbe (h2.1 x))]
       intro k1 k2
       have k3:=h4 k1 k2
       rw [if_pos (by omega)];exact k3
def isDig (c:UInt8):Bool:=decide (48≤c.toNat) && decide (c.toNat≤57)
def digs (l:List UInt8):List UInt8:=(l.take 7).takeWhile isDig
def dnum (l:List UInt8):Nat:=l.foldl (fun n c=>n * 10+(c.toNat - 48)) 0
structure Prt where
 ord:Nat
 pos:Nat
 e:Int
def ferr (l:List UInt8) (count:Nat):Int:=
 if count=8 then 9 else if l=[] then 4 else if digs l=[] then 6 else if l.head? = some 48 then 3 else if 6<(digs l).length then 2 else 0
theorem Wg (l:List UInt8):(digs l).length≤7∧(digs l).length≤l.length:=by
 have h1:(digs l).length≤(l.take 7).length:=(List.takeWhile_prefix isDig).length_le
 simp at h1
 omega
theorem digs_pre (l:List UInt8):digs l=l.take (digs l).length:=by
 have h1:digs l <+: l.take 7:=List.takeWhile_prefix isDig
 have h2:=List.prefix_iff_eq_take.1 h1
 rw [List.take_take,Nat.min_eq_left (Wg l).1] at h2
 exact h2
theorem digs_all (l:List UInt8):∀c ∈ digs l,isDig c=true:=fun c hc=>by
 have:=List.all_takeWhile (p:=isDig) (l:=l.take 7)
 exact List.all_eq_true.1 this c hc
def prts (l:List UInt8) (pos count:Nat):List Prt:=
 if ferr l count≠0 then [⟨0,pos,ferr l count⟩]
 else match h:l.drop (digs l).length with
  | []=>[⟨dnum (digs l),pos,0⟩]
  | c::rest=>if c≠46 then [⟨dnum (digs l),pos,0⟩,⟨0,pos+(digs l).length,6⟩] else ⟨dnum (digs l),pos,0⟩::prts rest (pos+(digs l).length+1) (count+1)
termination_by l.length
decreasing_by
 have:=congrArg List.length h
 simp at this;omega
def lparts (s:List UInt8):List Prt:=if s=[] then [] else prts s 0 0
def lvalid (s:List UInt8):Bool:=(lparts s).all fun p=>p.e == 0
def lords (s:List UInt8):List Int:=if lvalid s then (lparts s).map fun p=>(p.ord:Int) else []
theorem UA (l:List UInt8) (c:UInt8):dnum (l++[c])=dnum l * 10+(c.toNat - 48):=by simp [dnum]
theorem dig_inj {a b:UInt8} (ha:isDig a=true) (hb:isDig b=true) (h:a.toNat - 48=b.toNat - 48):a=b:=by
 simp [isDig] at ha hb
 exact UInt8.toNat_inj.1 (by omega)
theorem dig_lt {a:UInt8} (ha:isDig a=true):a.toNat - 48<10:=by simp [isDig] at ha;omega
theorem foldl_pos (l:List UInt8):∀n,0<n→0<l.foldl (fun n c=>n * 10+(c.toNat - 48)) n:=by
 induction l with
 | nil=>intro n h;exact h
 | cons c l ih=>intro n h;exact ih _ (show 0<n * 10+(c.toNat - 48) by omega)
theorem dnum_pos {c:UInt8} {l:List UInt8} (hc:isDig c=true) (h0:c≠48):0<dnum (c::l):=by
 unfold dnum
 simp only [List.foldl_cons]
 refine foldl_pos l _ ?_
 have:c.toNat≠48:=fun e=>h0 (UInt8.toNat_inj.1 e)
 simp [isDig] at hc
 omega
theorem dnum_inj:∀(n:Nat) (a b:List UInt8),a.length=n→(∀c ∈ a,isDig c=true)→(∀c ∈ b,isDig c=true)→a.head?≠some 48→b.head?≠some 48→dnum a=dnum b→a=b:=by
 intro n
 induction n with
 | zero=>
  intro a b hn ha hb h0 h1 h
  cases a with
  | cons=>simp at hn
  | nil=>
   cases b with
   | nil=>rfl
   | cons c b=>
    have:=dnum_pos (l:=b) (hb c (by simp)) (fun e=>h1 (by simp [e]))
    rw [←h] at this
    simp [dnum] at this
 | succ n ih=>
  intro a b hn ha hb h0 h1 h
  have hane:a≠[]:=fun e=>by subst e;simp at hn
  have hbne:b≠[]:=fun e=>by
   subst e
   cases a with
   | nil=>exact hane rfl
   | cons c a=>
    have:=dnum_pos (l:=a) (ha c (by simp)) (fun e=>h0 (by simp [e]))
    rw [h] at this
    simp [dnum] at this
  have ea:=List.dropLast_concat_getLast hane
  have eb:=List.dropLast_concat_getLast hbne
  rw [←ea,←eb] at h ⊢
  rw [UA,UA] at h
  have ka:=ha _ (List.getLast_mem hane)
  have kb:=hb _ (List.getLast_mem hbne)
  have la:=dig_lt ka
  have lb:=dig_lt kb
  have hh:∀l:List UInt8,l.head?≠some 48→l.dropLast.head?≠some 48:=fun l hl=>by
   cases l with
   | nil=>simp
   | cons c l=>
    cases l with
    | nil=>simp
    | cons d l=>simpa using hl
  have e1:a.dropLast=b.dropLast:=ih _ _ (by simp [hn]) (fun c hc=>ha c (List.dropLast_subset _ hc)) (fun c hc=>hb c (List.dropLast_subset _ hc)) (hh _ h0) (hh _ h1) (by omega)
  rw [e1,dig_inj ka kb (by omega)]
theorem prts_ne (l:List UInt8) (pos count:Nat):prts l pos count≠[]:=by
 unfold prts
 split
 ·simp
 ·split
  ·simp
  ·split<;>simp
theorem prts_ok {l:List UInt8} {pos count:Nat} (h:∀p ∈ prts l pos count,p.e=0) :
  digs l≠[]∧l.head?≠some 48∧((l=digs l∧prts l pos count=[⟨dnum (digs l),pos,0⟩])∨
   ∃rest,l=digs l++46::rest∧prts l pos count=⟨dnum (digs l),pos,0⟩::prts rest (pos+(digs l).length+1) (count+1)):=by
 have hp:=digs_pre l
 have hl:=Wg l
 have key:ferr l count=0→digs l≠[]∧l.head?≠some 48:=fun e=>by
  unfold ferr at e
  split at e
  ·cases e
  ·split at e
   ·cases e
   ·split at e
    ·cases e
    ·split at e
     ·cases e
     ·rename_i h1 h2;exact ⟨h1,h2⟩
 unfold prts at h ⊢
 split at h
 ·rename_i h1
  exact absurd (h _ (List.mem_singleton.2 rfl)) h1
 ·rename_i h1
  rw [if_neg h1]
  have h1:ferr l count=0:=Decidable.not_not.1 h1
  refine ⟨(key h1).1,(key h1).2,?_⟩
  split at h
  ·rename_i h2
   left
   have h3:l.length≤(digs l).length:=by simpa using h2
   refine ⟨?_,?_⟩
   ·rw [hp]
    exact (List.take_of_length_le h3).symm
   ·rfl
  ·rename_i c rest h2
   right
   split at h
   ·have:=h ⟨0,pos+(digs l).length,6⟩ (by simp)
    cases this
   ·rename_i hc
    have hc:c=46:=Decidable.not_not.1 hc
    subst hc
    refine ⟨rest,?_,?_⟩
    ·rw [←h2]
     conv=>lhs;rw [←List.take_append_drop (digs l).length l]
     rw [←hp]
    ·rw [if_neg hc]
     congr 1
     rw [prts]
theorem digs_head (l:List UInt8):digs l≠[]→(digs l).head? = l.head?:=by
 intro h
 cases l with
 | nil=>simp [digs] at h
 | cons c l=>
  have h2:digs (c::l)=(c::l.take 6).takeWhile isDig:=rfl
  rw [h2] at h ⊢
  rw [List.takeWhile_cons] at h ⊢
  split at h
  ·rename_i hc;simp [hc]
  ·exact absurd rfl h
theorem prts_inj:∀(n:Nat) (a b:List UInt8) (p q c d:Nat),a.length≤n→(∀x ∈ prts a p c,x.e=0)→(∀x ∈ prts b q d,x.e=0)→(prts a p c).map (fun x=>(x.ord:Int))=(prts b q d).map (fun x=>(x.ord:Int))→a=b:=by
 intro n
 induction n with
 | zero=>
  intro a b p q c d hn ha
  obtain ⟨h1,_,_⟩:=prts_ok ha
  have:a=[]:=List.length_eq_zero_iff.1 (by omega)
  subst this
  simp [digs] at h1
 | succ n ih=>
  intro a b p q c d hn ha hb h
  obtain ⟨a1,a2,a3⟩:=prts_ok ha
  obtain ⟨b1,b2,b3⟩:=prts_ok hb
  have key:dnum (digs a)=dnum (digs b)→digs a=digs b:=fun e=>
   dnum_inj _ _ _ rfl (digs_all a) (digs_all b) (by rw [digs_head a a1];exact a2) (by rw [digs_head b b1];exact b2) e
  rcases a3 with ⟨e1,e2⟩|⟨ra,e1,e2⟩<;>rcases b3 with ⟨f1,f2⟩|⟨rb,f1,f2⟩
  ·rw [e2,f2] at h
   simp at h
   rw [e1,f1];exact key (by omega)
  ·rw [e2,f2] at h
   simp only [List.map_cons,List.map_nil,List.cons.injEq] at h
   have:=h.2.symm
   rw [List.map_eq_nil_iff] at this
   exact absurd this (prts_ne _ _ _)
  ·rw [e2,f2] at h
   simp only [List.map_cons,List.map_nil,List.cons.injEq] at h
   have:=h.2
   rw [List.map_eq_nil_iff] at this
   exact absurd this (prts_ne _ _ _)
  ·rw [e2] at ha h
   rw [f2] at hb h
   simp only [List.map_cons,List.cons.injEq] at h
   have hlen:=congrArg List.length e1
   simp at hlen
   have e3:=ih ra rb _ _ _ _ (by omega) (fun x hx=>ha x (by simp [hx])) (fun x hx=>hb x (by simp [hx])) h.2
   rw [e1,f1,key (by omega),e3]
theorem lords_inj {a b:List UInt8} (ha:lvalid a=true) (hb:lvalid b=true) (h:lords a=lords b):a=b:=by
 unfold lords at h
 rw [if_pos ha,if_pos hb] at h
 unfold lvalid at ha hb
 rw [List.all_eq_true] at ha hb
 simp only [beq_iff_eq] at ha hb
 unfold lparts at *
 by_cases h1:a=[]<;>by_cases h2:b=[]
 ·rw [h1,h2]
 ·rw [if_pos h1,if_neg h2] at h
  have:=h.symm
  simp only [List.map_nil,List.map_eq_nil_iff] at this
  exact absurd this (prts_ne _ _ _)
 ·rw [if_neg h1,if_pos h2] at h
  simp only [List.map_nil,List.map_eq_nil_iff] at h
  exact absurd h (prts_ne _ _ _)
 ·rw [if_neg h1,if_neg h2] at h
  rw [if_neg h1] at ha
  rw [if_neg h2] at hb
  exact prts_inj _ a b _ _ _ _ (Nat.le_refl _) ha hb h
def cmpN (a b:ByteArray):Int:=
 if a=b then 0 else match lvalid a.data.toList,lvalid b.data.toList with
  | true,true=>cmpL (lords a.data.toList) (lords b.data.toList)
  | true,false=>-1
  | false,true=>1
  | false,false=>cmpS a b
def keyN (a:ByteArray):Int×List Int×ByteArray:=if lvalid a.data.toList then (0,lords a.data.toList,⟨#[]⟩) else (1,[],a)
theorem keyN_inj (a b:ByteArray) (h:keyN a=keyN b):a=b:=by
 unfold keyN at h
 split at h<;>split at h
 ·rename_i h1 h2
  simp only [Prod.mk.injEq,and_true,true_and] at h
  exact XN (lords_inj h1 h2 h)
 ·simp at h
 ·simp at h
 ·simp only [Prod.mk.injEq,true_and] at h
  exact h
theorem cmpN_key (a b:ByteArray):cmpN a b=lex cmpI (lex cmpL cmpS) (keyN a) (keyN b):=by
 have ho:=Xa YM (Xa ord_list ord_str)
 unfold cmpN
 by_cases h:a=b
 ·subst h;rw [if_pos rfl];exact (ho.self _).symm
 ·rw [if_neg h]
  unfold keyN
  cases h1:lvalid a.data.toList<;>cases h2:lvalid b.data.toList
  ·simp [lex,cmpI,cmpL]
  ·simp [lex,cmpI]
  ·simp [lex,cmpI]
  ·have h3:cmpS ⟨#[]⟩ ⟨#[]⟩=0:=ord_str.self _
   simp only [lex,cmpI,if_true,h3]
   by_cases h4:cmpL (lords a.data.toList) (lords b.data.toList)=0<;>simp [h4]
theorem ord_lin:Ord3 cmpN:=by
 have h:=ord_map (Xa YM (Xa ord_list ord_str)) keyN keyN_inj
 have e:cmpN=fun a b=>lex cmpI (lex cmpL cmpS) (keyN a) (keyN b):=by funext a b;exact cmpN_key a b
 rw [e];exact h
def cmpO (a b:Nm):Int:=
 if cmpI a.kind b.kind≠0 then cmpI a.kind b.kind
 else if cmpN a.owner b.owner≠0 then cmpN a.owner b.owner
 else if cmpI a.number b.number≠0 then cmpI a.number b.number
 else if cmpI a.index b.index≠0 then cmpI a.index b.index
 else cmpS a.text b.text
theorem ord_obj:Ord3 cmpO:=by
 have h:=ord_map (Xa YM (Xa ord_lin (Xa YM (Xa YM ord_str)))) (fun a:Nm=>(a.kind,a.owner,a.number,a.index,a.text)) (by
  rintro ⟨a,b,c,d,e⟩ ⟨a',b',c',d',e'⟩ h
  simp only [Prod.mk.injEq] at h
  obtain ⟨rfl,rfl,rfl,rfl,rfl⟩:=h
  rfl)
 exact h
set_option maxRecDepth 10000
variable {n:Nat} {C:Cx} {Q:Exit→Act→World→Prop} {E:List (Nat×Value)} {F:List Pf} {R R0:List HP} {k:List Fr}
section
def venc (u:Nat):List UInt8:=if u<128 then [UInt8.ofNat u] else UInt8.ofNat (u % 128+128)::venc (u / 128)
termination_by u
decreasing_by omega
theorem venc_len (k:Nat):∀u,u<128 ^ (k+1)→(venc u).length≤k+1:=by
 induction k with
 | zero=>intro u hu;unfold venc;rw [if_pos (by simpa using hu)];simp
 | succ k ih=>
  intro u hu
  unfold venc
  split
  ·simp
  ·have:=ih (u / 128) (by rw [Nat.div_lt_iff_lt_mul (by omega)];rw [Nat.pow_succ] at hu;exact hu)
   simp;omega
theorem YF (u:Nat) (hu:u<18446744073709551616):(venc u).length≤10:=venc_len 9 u (by simp only [Nat.reducePow,Nat.reduceAdd];omega)
theorem wrap_u8 (u:Nat):IntKind.u8.wrap (u:Int)=((u % 256:Nat):Int):=by
 simp [IntKind.wrap,IntKind.bits,IntKind.signed]
theorem or_128:∀x:Fin 256,x.val ||| 128=x.val % 128+128:=by decide +kernel
theorem or128 (u:Nat):IntKind.u8.wrap ((BitVec.ofInt IntKind.u8.bits (IntKind.u8.wrap (u:Int)) ||| BitVec.ofInt IntKind.u8.bits 128).toNat:Int)=((u % 128+128:Nat):Int):=by
 have h:=or_128 ⟨u % 256,by omega⟩
 simp only at h
 have hx:u % 256 % 2 ^ 8=u % 256:=by omega
 have e:(BitVec.ofInt IntKind.u8.bits (IntKind.u8.wrap (u:Int)) ||| BitVec.ofInt IntKind.u8.bits 128).toNat=u % 256 ||| 128:=by
  rw [wrap_u8]
  show (BitVec.ofInt 8 ((u % 256:Nat):Int) ||| BitVec.ofInt 8 128).toNat=_
  rw [BitVec.toNat_or,BitVec.ofInt_natCast,BitVec.toNat_ofNat,hx]
  rfl
 rw [e,h,wrap_u8]
 congr 1;omega
theorem shr7 (u:Nat):Int.fdiv (u:Int) (2 ^ (min (7:Int).toNat IntKind.u64.bits))=((u / 128:Nat):Int):=by
 show Int.fdiv (u:Int) (2 ^ 7)=_
 rw [Int.fdiv_eq_ediv_of_nonneg _ (by decide)]
 omega
structure VX (m:Nat) (xs:List Value) (u0:Nat) where
 o:Option Addr
 m1:Nat
 cap:Nat
 ys:List Value
 u:Nat
 hk:∃pre,ys=xs++byt pre∧pre++venc u=venc u0∧m1=m+pre.length
 hu:u<18446744073709551616
theorem Xj (o:Option Addr) (m cap:Nat) (xs:List Value) (u:Nat) (hu:u<18446744073709551616) (hm:m≤1099511627776) :
  Enters 132∧Spec prog 132 #[.slice o m cap,.int .u64 (u:Int)] [] [Row 5 1 o m cap xs]
   ⟨Option Addr×Nat,fun q=>.slice q.1 (m+(venc u).length) q.2,fun _=>True,fun _=>[],fun q=>[Row 5 1 q.1 (m+(venc u).length) q.2 (xs++byt (venc u))]⟩:=by
 have hl0:=YF u hu
 refine ZE [_,_] func132 ntmps132 fun G w hp=>?_
 repeat' (first|refine ZC ?_|fail)
 refine Zj (X:=VX m xs u) (fun q=>[(0,.slice q.o q.m1 q.cap),(1,.int .u64 (q.u:Int))]) (fun _=>[]) (fun q=>[Row 5 1 q.o q.m1 q.cap q.ys]) (fun q=>q.u) ⟨o,m,cap,xs,u,⟨[],by simp [byt],rfl,rfl⟩,hu⟩ ⟨rfl,rfl,trivial⟩ ?_
 rintro ⟨o,m1,cap,ys,v,⟨pre,rfl,hv,rfl⟩,hvu⟩
 dsimp only
 have hl:pre.length+(venc v).length≤10:=by rw [←List.length_append,hv];exact hl0
 repeat' (first|refine ZC ?_|refine ZH (fun b=>?_)|refine ZM ?_|refine Zs (fun o' cap'=>?_)|rw [or128]|rw [shr7]|refine ZB (fun hc=>?_) (fun hc=>?_)|fail)
 ·have hv1:128≤v:=by simp at hc;omega
  have hv2:venc v=UInt8.ofNat (v % 128+128)::venc (v / 128):=by rw [venc,if_neg (by omega)]
  refine ZJ ⟨o',m+pre.length+1,cap',_,v / 128,⟨pre++[UInt8.ofNat (v % 128+128)],?_,by simp [←hv,hv2],by simp;omega⟩,by omega⟩ (by show v / 128<v;omega) ⟨rfl,rfl,trivial⟩
  simp [byt]
  omega
 ·have hv1:v<128:=by simp at hc;omega
  have hv2:venc v=[UInt8.ofNat v]:=by rw [venc,if_pos hv1]
  rw [hv2] at hv
  have e1:xs++byt pre++#[Value.int .u8 (IntKind.u8.wrap (v:Int))].toList=xs++byt (venc u):=by
   rw [←hv,wrap_u8];simp [byt]
  have e2:m+pre.length+1=m+(venc u).length:=by simp [←hv,Nat.add_assoc]
  rw [e1,e2]
  exact ZD (o',cap') rfl trivial
def Wtr (b:Nat) (bs:List UInt8):HP:=fun h=>∃q:Option Addr×Nat,Sep [Pt b (.cells #[.slice q.1 bs.length q.2,.int .i64 0] 191),Row 5 1 q.1 bs.length q.2 (byt bs)] h
theorem k_wtr {b:Nat} {bs:List UInt8} (t:∀o cap,Wk n C k Q E F (Pt b (.cells #[.slice o bs.length cap,.int .i64 0] 191)::Row 5 1 o bs.length cap (byt bs)::R0)) (hs:Sel (Wtr b bs) R R0:=by (repeat (first|exact Sel.here|apply Sel.there));first|done|fail):Wk n C k Q E F R:=
 Zq (X:=Option Addr×Nat) (p:=fun _=>True) hs (fun _ ⟨q,h⟩=>⟨q,trivial,h⟩) fun q _=>t q.1 q.2
theorem l_wtr {b:Nat} {bs:List UInt8} {ops l:List Oper} (t:∀o cap,Wl n C ops.toArray k Q l E F (Pt b (.cells #[.slice o bs.length cap,.int .i64 0] 191)::Row 5 1 o bs.length cap (byt bs)::R0)) (hs:Sel (Wtr b bs) R R0:=by (repeat (first|exact Sel.here|apply Sel.there));first|done|fail):Wl n C ops.toArray k Q l E F R:=
 l_open (X:=Option Addr×Nat) (p:=fun _=>True) hs (fun _ ⟨q,h⟩=>⟨q,trivial,h⟩) fun q _=>t q.1 q.2
theorem k_wtr' {b:Nat} {bs:List UInt8} {o:Option Addr} {cap:Nat} (t:Wk n C k Q E F (Wtr b bs::R0)) (hs:Sels [Pt b (.cells #[.slice o bs.length cap,.int .i64 0] 191),Row 5 1 o bs.length cap (byt bs)] R R0:=by (repeat (first|exact Sels.nil|exact Sel.here|apply Sel.there|apply Sels.cons));first|done|fail):Wk n C k Q E F R:=
 ZO (fun _ h=>⟨(o,cap),h⟩) t hs
theorem newWriter_ok:Enters 80∧Spec prog 80 #[] [] [] ⟨Nat,fun b=>.pointer (some ⟨b,0,none⟩),fun _=>True,fun _=>[],fun b=>[Wtr b []]⟩:=by
 refine ZE [] func80 ntmps80 fun G w hp=>?_
 repeat' (first|refine ZC ?_|refine ZH (fun b=>?_)|fail)
 refine ZO (Lx:=[]) (r:=Row 5 1 none 0 0 []) (fun h _=>Zb _ _ h) ?_
 refine k_wtr' (bs:=[]) (o:=none) (cap:=0) (b:=b) ?_
 exact ZD b rfl trivial
theorem Ug (b:Nat) (bs:List UInt8):Enters 131∧Spec prog 131 #[.pointer (some ⟨b,0,none⟩)] [] [Wtr b bs] ⟨Unit,fun _=>.bool true,fun _=>True,fun _=>[],fun _=>[Wtr b bs]⟩:=by
 refine ZE [_] func131 ntmps131 fun G w hp=>?_
 refine k_wtr fun o cap=>?_
 repeat' (first|refine ZC ?_|fail)
 refine k_wtr' ?_
 exact ZD () rfl trivial
theorem wrap64 {u:Nat} (hu:u<18446744073709551616):IntKind.u64.wrap (u:Int)=(u:Int):=by
 simp [IntKind.wrap,IntKind.bits,IntKind.signed];omega
theorem Vn (b:Nat) (bs:List UInt8) (u:Nat) (hu:u<9223372036854775808) (hl:bs.length≤1099511627776):Enters 103∧Spec prog 103 #[.pointer (some ⟨b,0,none⟩),.int .i64 (u:Int)] [] [Wtr b bs] ⟨Unit,fun _=>.tuple #[],fun _=>True,fun _=>[],fun _=>[Wtr b (bs++venc u)]⟩:=by
 have hu':u<18446744073709551616:=by omega
 refine ZE [_,_] func103 ntmps103 fun G w hp=>?_
 repeat' (first|refine ZC ?_|refine ZA (Ug _ _) (fun _ _=>?_)|refine ZA (Xj _ _ _ _ _ (by omega) (by omega)) (fun _ _=>?_)|refine l_wtr (fun o cap=>?_)|rw [wrap64 hu']|fail)
 rename_i q _
 rw [←List.length_append,←VF]
 refine k_wtr' (o:=q.1) (cap:=q.2) ?_
 exact Zw () rfl trivial
theorem wtrText_ok (b:Nat) (bs:List UInt8) (s:ByteArray) (hs:s.size≤16777216) (hl:bs.length≤1000000000000):Enters 104∧Spec prog 104 #[.pointer (some ⟨b,0,none⟩),.string s] [] [Wtr b bs] ⟨Unit,fun _=>.tuple #[],fun _=>True,fun _=>[],fun _=>[Wtr b (bs++venc s.size++s.data.toList)]⟩:=by
 have hu':s.size<18446744073709551616:=by omega
 have hl0:=YF s.size hu'
 have hc:decide ((16777216:Int)<(s.size:Int))=false:=by simp;omega
 refine ZE [_,_] func104 ntmps104 fun G w hp=>?_
 repeat' (first|refine ZC ?_|refine ZA (Ug _ _) (fun _ _=>?_)|refine ZA (Xj _ bs.length _ _ s.size hu' (by omega)) (fun _ _=>?_)|refine l_wtr (fun o cap=>?_)|rw [wrap64 hu']|rw [hc]|refine l_appS (fun o' cap'=>?_)|fail)
 have e1:bs.length+(venc s.size).length+s.size=(bs++venc s.size++s.data.toList).length:=by simp;omega
 have e2:(byt bs++byt (venc s.size)++s.data.toList.map fun b=>.int .u8 b.toNat)=byt (bs++venc s.size++s.data.toList):=by simp [byt]
 rw [e1,e2]
 refine k_wtr' (o:=o') (cap:=cap') ?_
 exact Zw () rfl trivial
theorem clone_ok (o:Option Addr) (bs:List UInt8) (cap:Nat) (hl:bs.length≤1099511627776):Enters 105∧Spec prog 105 #[.slice o bs.length cap] [] [Row 5 1 o bs.length cap (byt bs)]
  ⟨Option Addr×Nat,fun q=>.slice q.1 bs.length q.2,fun _=>True,fun _=>[],fun q=>[Row 5 1 q.1 bs.length q.2 (byt bs),Row 5 1 o bs.length cap (byt bs)]⟩:=by
 refine ZE [_] func105 ntmps105 fun G w hp=>?_
 cases o with
 | none=>
  refine Zq (X:=Unit) (p:=fun _=>bs=[]∧cap=0) (Lx:=fun _=>[]) Sel.here (fun h hr=>⟨(),?_,trivial⟩) (fun _ hb=>?_)
  ·rcases hr with ⟨_,_,h3,h4⟩|⟨_,_,_,h1,_⟩
   ·exact ⟨by simpa [byt] using h4,h3⟩
   ·cases h1
  obtain ⟨rfl,rfl⟩:=hb
  repeat' (first|refine ZC ?_|fail)
  refine ZO (Lx:=[]) (r:=Row 5 1 none 0 0 []) (fun h _=>Zb _ _ h) ?_
  refine ZO (Lx:=[]) (r:=Row 5 1 none 0 0 []) (fun h _=>Zb _ _ h) ?_
  exact ZD (none,0) rfl trivial
 | some a=>
  repeat' (first|refine ZC ?_|refine ZH (fun b=>?_)|refine l_shut (row_zero (sz:=1)) ?_|refine l_appR (fun o' cap'=>?_)|fail)
  rw [Nat.zero_add]
  exact ZD (o',cap') rfl trivial
theorem wtrBytes_ok (b:Nat) (bs:List UInt8) (hl:bs.length≤1099511627776):Enters 82∧Spec prog 82 #[.pointer (some ⟨b,0,none⟩)] [] [Wtr b bs]
  ⟨Option Addr×Nat,fun q=>.tuple #[.slice q.1 bs.length q.2,.int .i64 0],fun _=>True,fun _=>[],fun q=>[Row 5 1 q.1 bs.length q.2 (byt bs),Wtr b bs]⟩:=by
 refine ZE [_] func82 ntmps82 fun G w hp=>?_
 refine k_wtr fun o cap=>?_
 repeat' (first|refine ZC ?_|refine ZA (clone_ok _ _ _ (by omega)) (fun _ _=>?_)|fail)
 rename_i q _
 refine k_wtr' (bs:=bs) (o:=o) (cap:=cap) (b:=b) ?_
 exact ZD q rfl trivial
end
def lastN (bs:List UInt8) (most:Nat):Nat:=((bs.take most).takeWhile fun b=>decide (128≤b.toNat)).length
def dval:List UInt8→Nat
 | []=>0
 | b::l=>b.toNat % 128+128 * dval l
def pnat (bs:List UInt8) (most:Nat):Nat×Nat×Int:=
 let m:=lastN bs most
 if m=most then (0,0,3) else match bs[m]? with
  | none=>(0,0,28)
  | some b=>if 0<m∧b.toNat=0 then (0,0,3) else if m=9∧1<b.toNat then (0,0,3) else (dval (bs.take (m+1)) % 18446744073709551616,m+1,0)
theorem lastN_le (bs:List UInt8) (most:Nat):lastN bs most≤bs.length∧lastN bs most≤most:=by
 have h:=(List.takeWhile_sublist (p:=fun b:UInt8=>decide (128≤b.toNat)) (l:=bs.take most)).length_le
 rw [List.length_take] at h
 unfold lastN
 omega
theorem VS:∀{bs:List UInt8} {most j:Nat},j≤bs.length→j≤most→(∀i<j,∃b,bs[i]? = some b∧128≤b.toNat)→(j=bs.length∨j=most∨∃b,bs[j]? = some b∧b.toNat<128)→lastN bs most=j
 | [],most,j,h1,_,_,_=>by
  have:j=0:=by simpa using h1
  subst this;simp [lastN]
 | b::bs,0,j,_,h2,_,_=>by
  have:j=0:=by omega
  subst this;simp [lastN]
 | b::bs,most+1,0,_,_,_,h4=>by
  rcases h4 with h|h|⟨c,hc,hl⟩
  ·simp at h
  ·omega
  ·simp at hc;subst hc
   have:¬(128≤b.toNat):=by omega
   simp [lastN,this]
 | b::bs,most+1,j+1,h1,h2,h3,h4=>by
  obtain ⟨c,hc,hb⟩:=h3 0 (by omega)
  simp at hc;subst hc
  have ih:=VS (bs:=bs) (most:=most) (j:=j) (by simpa using h1) (by omega) (fun i hi=>by simpa using h3 (i+1) (by omega)) (by
   rcases h4 with h|h|h
   ·left;simpa using h
   ·right;left;omega
   ·right;right;simpa using h)
  unfold lastN at ih ⊢
  simp [hb,ih]
theorem wrapi {z:Int} (h1 : -9223372036854775808≤z) (h2:z<9223372036854775808):IntKind.i64.wrap z=z:=by
 simp [IntKind.wrap,IntKind.bits,IntKind.signed];omega
theorem and_127:∀x:Fin 256,x.val &&& 127=x.val % 128:=by decide +kernel
theorem step7 (u x:Nat) (hx:x<256):IntKind.u64.wrap ((BitVec.ofInt IntKind.u64.bits (IntKind.u64.wrap ((u:Int) * 2 ^ min (Int.toNat 7) IntKind.u64.bits)) ||| BitVec.ofInt IntKind.u64.bits (IntKind.u64.wrap (IntKind.u8.wrap ((BitVec.ofInt IntKind.u8.bits (x:Int) &&& BitVec.ofInt IntKind.u8.bits 127).toNat:Int)))).toNat:Int)
  = (((x % 128+128 * u) % 18446744073709551616:Nat):Int):=by
 have h1:(BitVec.ofInt IntKind.u8.bits (x:Int) &&& BitVec.ofInt IntKind.u8.bits 127).toNat=x % 128:=by
  show (BitVec.ofInt 8 (x:Int) &&& BitVec.ofInt 8 127).toNat=_
  rw [BitVec.toNat_and,BitVec.ofInt_natCast,BitVec.toNat_ofNat,Nat.mod_eq_of_lt (show x<2 ^ 8 by omega)]
  exact and_127 ⟨x,hx⟩
 have h2:IntKind.u64.wrap (IntKind.u8.wrap ((x % 128:Nat):Int))=((x % 128:Nat):Int):=by
  simp [IntKind.wrap,IntKind.bits,IntKind.signed];omega
 have h3:IntKind.u64.wrap ((u:Int) * 2 ^ min (Int.toNat 7) IntKind.u64.bits)=((128 * (u % 144115188075855872):Nat):Int):=by
  have:(2:Int) ^ min (Int.toNat 7) IntKind.u64.bits=128:=by decide
  rw [this]
  simp [IntKind.wrap,IntKind.bits,IntKind.signed];omega
 rw [h1,h2,h3]
 have h4:(BitVec.ofInt IntKind.u64.bits ((128 * (u % 144115188075855872):Nat):Int) ||| BitVec.ofInt IntKind.u64.bits ((x % 128:Nat):Int)).toNat=128 * (u % 144115188075855872)+x % 128:=by
  show (BitVec.ofInt 64 ((128 * (u % 144115188075855872):Nat):Int) ||| BitVec.ofInt 64 ((x % 128:Nat):Int)).toNat=_
  rw [BitVec.toNat_or,BitVec.ofInt_natCast,BitVec.ofInt_natCast,BitVec.toNat_ofNat,BitVec.toNat_ofNat,Nat.mod_eq_of_lt (show 128 * (u % 144115188075855872)<2 ^ 64 by omega),Nat.mod_eq_of_lt (show x % 128<2 ^ 64 by omega)]
  exact (Nat.two_pow_add_eq_or_of_lt (i:=7) (show x % 128<2 ^ 7 by omega) _).symm
 rw [h4]
 simp [IntKind.wrap,IntKind.bits,IntKind.signed];omega
structure DX (bs:List UInt8) (m:Nat) where
 c:Nat
 u:Nat
 z:Int
 hc:c≤m+1
 hz:z=(c:Int) - 1
 hu:u=dval ((bs.take (m+1)).drop c) % 18446744073709551616
theorem Uk (o:Option Addr) (cap:Nat) (bs:List UInt8) (most:Nat) (hlen:bs.length≤1099511627776) :
  Enters 183∧Spec prog 183 #[.slice o bs.length cap,.int .i64 (most:Int)] [Sl 5 bf o cap bs] []
   (RetV (.tuple #[.int .u64 ((pnat bs most).1:Int),.int .i64 ((pnat bs most).2.1:Int),.int .i64 (pnat bs most).2.2])):=by
 refine ZE [_,_] func183 ntmps183 fun G w hp=>?_
 repeat' (first|refine ZC ?_|fail)
 refine YD (X:={j:Nat // j≤bs.length∧j≤most∧∀i<j,∃b,bs[i]? = some b∧128≤b.toNat}) (Y:={j:Nat // lastN bs most=j}) (fun j=>[(0,.slice o bs.length cap),(1,.int .i64 (most:Int)),(7,.int .i64 (j.1:Int))]) (fun _=>[Sl 5 bf o cap bs]) (fun q=>[]) (fun j=>bs.length - j.1)
  (fun j=>[(0,.slice o bs.length cap),(1,.int .i64 (most:Int)),(7,.int .i64 (j.1:Int))]) (fun _=>[Sl 5 bf o cap bs]) (fun q=>[]) ⟨0,by omega,by omega,by omega⟩ ⟨rfl,rfl,rfl,trivial⟩ ?_ ?_
 ·rintro ⟨m,hm⟩
  obtain ⟨hm1,hm2⟩:=lastN_le bs most
  generalize hpn:pnat bs most=p
  unfold pnat at hpn
  rw [hm] at hm1 hm2 hpn
  dsimp only at hpn ⊢
  repeat' (first|refine ZC ?_|refine l_ix bs m (by omega) (fun b off=>?_)|refine ZQ ?_|(refine ZG (fun hc=>?_) (fun hc=>?_)<;>(try simp at hc))|(refine ZB (fun hc=>?_) (fun hc=>?_)<;>(try simp at hc))|fail)
  all_goals try (refine ZD () ?_ trivial;have e1:m=most:=(by omega);rw [if_pos e1] at hpn;rw [←hpn];rfl)
  all_goals have e1:m≠most:=(by omega)
  all_goals rw [if_neg e1] at hpn
  all_goals try (refine ZD () ?_ trivial;have e2:bs[m]? = none:=List.getElem?_eq_none (by omega);rw [e2] at hpn;rw [←hpn];rfl)
  all_goals have e2:bs[m]? = some bs[m]:=List.getElem?_eq_getElem (by omega)
  all_goals rw [e2] at hpn
  all_goals dsimp only at hpn
  all_goals try (refine ZD () ?_ trivial;rw [if_pos (by omega)] at hpn;rw [←hpn];rfl)
  all_goals rw [if_neg (by omega)] at hpn
  all_goals try (refine ZD () ?_ trivial;rw [if_pos (by omega)] at hpn;rw [←hpn];rfl)
  all_goals rw [if_neg (by omega)] at hpn
  all_goals
   refine Zj (X:=DX bs m) (fun q=>[(0,.slice o bs.length cap),(7,.int .i64 (m:Int)),(8,.int .u64 (q.u:Int)),(9,.int .i64 q.z)]) (fun _=>[Sl 5 bf o cap bs]) (fun q=>[]) (fun q=>q.c) ⟨m+1,0,m,by omega,by omega,by simp [dval]⟩ ⟨rfl,rfl,rfl,rfl,trivial⟩ ?_
   rintro ⟨c,u,z,hc1,hc2,hc3⟩
   dsimp only
   repeat' (first|refine ZC ?_|refine ZM ?_|refine l_ix bs (c - 1) (by omega) (fun b off=>?_)|refine ZQ ?_|(refine ZB (fun hc=>?_) (fun hc=>?_)<;>(try simp at hc))|fail)
   ·have hlt:c - 1<bs.length:=by omega
    rw [step7 u _ (UInt8.toNat_lt _),wrapi (z:=z - 1) (by omega) (by omega)]
    refine ZJ ⟨c - 1,_,_,by omega,?_,?_⟩ (by show c - 1<c;omega) ⟨rfl,rfl,rfl,rfl,trivial⟩
    ·omega
    ·have hd:(bs.take (m+1)).drop (c - 1)=bs[c - 1]::(bs.take (m+1)).drop c:=by
      rw [List.drop_eq_getElem_cons (by simp;omega)]
      simp;congr 1;omega
     rw [hd,dval,hc3]
     omega
   ·refine ZD () ?_ trivial
    have hc0:c=0:=by omega
    subst hc0
    rw [←hpn,hc3]
    have e:IntKind.i64.wrap ((m:Int)+1)=((m+1:Nat):Int):=by simp [IntKind.wrap,IntKind.bits,IntKind.signed];omega
    rw [e]
    rfl
 rintro hx ⟨j,hj1,hj2,hj3⟩
 dsimp only
 repeat' (first|refine ZC ?_|refine l_ix bs j (by omega) (fun b off=>?_)|refine ZQ ?_|(refine ZG (fun hc=>?_) (fun hc=>?_)<;>(try simp at hc))|(refine ZB (fun hc=>?_) (fun hc=>?_)<;>(try simp at hc))|fail)
 ·have hlt:j<bs.length:=by omega
  have e:IntKind.i64.wrap ((j:Int)+1)=((j+1:Nat):Int):=by simp [IntKind.wrap,IntKind.bits,IntKind.signed];omega
  rw [e]
  refine ZJ ⟨j+1,by omega,by omega,fun i hi=>?_⟩ (by show bs.length - (j+1)<bs.length - j;omega) ⟨rfl,rfl,rfl,trivial⟩
  by_cases hij:i=j
  ·subst hij;exact ⟨bs[i],List.getElem?_eq_getElem hlt,by omega⟩
  ·exact hj3 i (by omega)
 ·have e:lastN bs most=j:=VS hj1 hj2 hj3 (by right;right;exact ⟨bs[j],List.getElem?_eq_getElem (by omega),by omega⟩)
  exact Z2 hx ⟨j,e⟩ ⟨rfl,rfl,rfl,trivial⟩
 ·have e:lastN bs most=j:=VS hj1 hj2 hj3 (by omega)
  exact Z2 hx ⟨j,e⟩ ⟨rfl,rfl,rfl,trivial⟩
 ·have e:lastN bs most=j:=VS hj1 hj2 hj3 (by omega)
  exact Z2 hx ⟨j,e⟩ ⟨rfl,rfl,rfl,trivial⟩
variable {E':List (Nat×Value)} {F' F1 Fs F0:List Pf} {R' Rs N N' A:List HP} {k':List Fr} {ops:List Oper} {L L':List (Nat×Nat)} {Tl:List Nat} {i d:Nat} {t ty0:TypeId} {x y:Operand} {pos:String} {aft:Array Edge} {gd:Option (Nat×Bool)}
section
variable {l:List Oper}
theorem run_callF {f:FuncId} {fs cs:Array Value} (hf:Enters f) {args:Array Operand} {tys:Array TypeId} {vs:List Value} (hx:ev E x=some (.func (.func f) fs cs)) (hargs:evs (ev E) args.toList some=some vs) {a:Act} {ds:List Deferred} (ha:Agree n ds (look E) a) (w:World) (dst:Option Tmp) :
  (execOp a.eval ⟨dst,.call ⟨.value x,args,tys⟩,ty0,pos,aft,gd⟩).run prog w = .ok (.enter f (fs++vs.toArray++cs)) w:=by
 obtain ⟨us,_,h2,h3⟩:=X3 _ _ _ hargs
 obtain rfl:=Option.some.inj h2
 have e1:=h3 a.eval fun x _ u hu=>ha.ev (by rw [ZF];exact hu)
 have e3:args.map a.eval=us.toArray:=by rw [←Array.toList_inj];simpa using e1
 have e0:=ha.ev (x:=x) (by rw [ZF];exact hx)
 simp only [execOp,resolve,e0,Deferred.ofValue,Sem.run_bind,Sem.run_pure,Result.andThen,invoke]
 have e4:(args.map fun x=>a.eval x)=us.toArray:=e3
 rw [e4]
 exact hf _ w
theorem Yh {f:FuncId} {fs cs:Array Value} {args:Array Operand} {tys:Array TypeId} {vs us:List Value} {post:Post} (spec:Enters f∧Spec prog f us.toArray F1 A post)
  (nx:∀x,post.pure x→Wl n C ops.toArray k Q l ((d,post.val x)::E) (post.F x++F) (post.R x++R')) (hw:wantL ops E ⟨some d,.call ⟨.value x,args,tys⟩,ty0,pos,aft,gd⟩=some true:=by rfl) (hn:Nat.blt d n=true:=by rfl)
  (hx:ev E x=some (.func (.func f) fs cs):=by rfl) (hargs:evs (ev E) args.toList some=some vs:=by rfl) (has:fs.toList++vs++cs.toList=us:=by rfl) (sel:Sels A R R':=by (repeat (first|exact Sels.nil|exact Sel.here|apply Sel.there|apply Sels.cons));first|done|fail)
  (hF:EntF F F1:=by (repeat (first|exact trivial|exact Sel.here|apply Sel.there|apply EntF.cons));first|done|fail) :
  Wl n C ops.toArray k Q (⟨some d,.call ⟨.value x,args,tys⟩,ty0,pos,aft,gd⟩::l) E F R:=
 Zn (fun t ht=>by cases ht;exact Nat.le_of_ble_eq_true hn) (fun c hc=>by cases hc) hw fun a w ha hsat=>by
  unfold OpRes
  rw [run_callF spec.1 hx hargs ha w]
  have e:fs++vs.toArray++cs=us.toArray:=by rw [←has,←Array.toList_inj];simp
  rw [e]
  refine YU spec.2 hsat sel hF.all fun x w' hx hs'=>?_
  exact fun a' ha'=>nx x hx a' w' ha' hs'
end
theorem dval_lt:∀l:List UInt8,dval l<128 ^ l.length
 | []=>by simp [dval]
 | b::l=>by
  have:=dval_lt l
  rw [dval,List.length_cons,Nat.pow_succ]
  omega
theorem Vc (bs:List UInt8):(pnat bs 9).1<9223372036854775808∧(pnat bs 9).2.1≤bs.length:=by
 have hl:=lastN_le bs 9
 have hd:=dval_lt (bs.take (lastN bs 9+1))
 unfold pnat
 dsimp only
 split
 ·simp
 ·rename_i hne
  split
  ·simp
  ·rename_i b hb
   have hlt:=(List.getElem?_eq_some_iff.1 hb).1
   split
   ·simp
   ·split
    ·simp
    ·refine ⟨?_,by dsimp only;omega⟩
     have h1:(bs.take (lastN bs 9+1)).length≤9:=by simp;omega
     have h2:128 ^ (bs.take (lastN bs 9+1)).length≤128 ^ 9:=Nat.pow_le_pow_right (by omega) h1
     have h3:(128:Nat) ^ 9=9223372036854775808:=by decide
     have:=Nat.mod_le (dval (bs.take (lastN bs 9+1))) 18446744073709551616
     dsimp only;omega
theorem parse_ok (o:Option Addr) (cap:Nat) (bs:List UInt8) (hlen:bs.length≤1099511627776) :
  Enters 147∧Spec prog 147 #[.slice o bs.length cap] [Sl 5 bf o cap bs] []
   (RetV (.tuple #[.int .i64 ((pnat bs 9).1:Int),.int .i64 ((pnat bs 9).2.1:Int),.int .i64 (pnat bs 9).2.2])):=by
 have h1:=Vc bs
 refine ZE [_] func147 ntmps147 fun G w hp=>?_
 repeat' (first|refine ZC ?_|refine ZA (Uk _ _ _ 9 hlen) (fun _ _=>?_)|fail)
 rw [wrapi (z:=((pnat bs 9).1:Int)) (by omega) (by omega)]
 exact ZD () rfl trivial
def pnum (bs:List UInt8) (most:Int):Int×Nat×Int:=
 ((pnat bs 9).1,(pnat bs 9).2.1,if (pnat bs 9).2.2=0∧most<(pnat bs 9).1 then 2 else (pnat bs 9).2.2)
theorem numberF_ok (o:Option Addr) (cap:Nat) (bs:List UInt8) (b:Nat) (most:Int) (hlen:bs.length≤1099511627776) :
  Enters 146∧Spec prog 146 #[.slice o bs.length cap,.pointer (some ⟨b,0,none⟩)] [Sl 5 bf o cap bs] [Pt b (.cells #[.int .i64 most] 3)]
   ⟨Unit,fun _=>.tuple #[.int .i64 (pnum bs most).1,.int .i64 ((pnum bs most).2.1:Int),.int .i64 (pnum bs most).2.2],fun _=>True,fun _=>[],fun _=>[Pt b (.cells #[.int .i64 most] 3)]⟩:=by
 refine ZE [_,_] func146 ntmps146 fun G w hp=>?_
 repeat' (first|refine ZC ?_|refine ZA (parse_ok _ _ _ hlen) (fun _ _=>?_)|(refine ZG (fun hc=>?_) (fun hc=>?_)<;>(try simp at hc))|(refine ZB (fun hc=>?_) (fun hc=>?_)<;>(try simp at hc))|fail)
 all_goals (refine ZD () ?_ trivial;simp_all [pnum,resV]<;>omega)
def ptext (bs:List UInt8) (most:Int):ByteArray×Nat×Int:=
 if (pnat bs 9).2.2≠0 then (⟨#[]⟩,0,(pnat bs 9).2.2)
 else if most<(pnat bs 9).1∨16777216<(pnat bs 9).1 then (⟨#[]⟩,0,5)
 else if bs.length<(pnat bs 9).2.1+(pnat bs 9).1 then (⟨#[]⟩,0,28)
 else (⟨((bs.take ((pnat bs 9).2.1+(pnat bs 9).1)).drop (pnat bs 9).2.1).toArray⟩,(pnat bs 9).2.1+(pnat bs 9).1,0)
theorem textF_ok (o:Option Addr) (cap:Nat) (bs:List UInt8) (b:Nat) (most:Int) (hlen:bs.length≤1099511627776) :
  Enters 149∧Spec prog 149 #[.slice o bs.length cap,.pointer (some ⟨b,0,none⟩)] [Sl 5 bf o cap bs] [Pt b (.cells #[.int .i64 most] 3)]
   ⟨Unit,fun _=>.tuple #[.string (ptext bs most).1,.int .i64 ((ptext bs most).2.1:Int),.int .i64 (ptext bs most).2.2],fun _=>True,fun _=>[],fun _=>[Pt b (.cells #[.int .i64 most] 3)]⟩:=by
 obtain ⟨h1,h2⟩:=Vc bs
 refine ZE [_,_] func149 ntmps149 fun G w hp=>?_
 generalize hp:ptext bs most=p
 unfold ptext at hp
 generalize hq:pnat bs 9=q at *
 have hpar:=parse_ok o cap bs hlen
 rw [hq] at hpar
 obtain ⟨u,sz,e⟩:=q
 dsimp only at *
 repeat' (first|refine ZC ?_|refine ZA (hpar) (fun _ _=>?_)|rw [wrapi (z:=(bs.length:Int) - (sz:Int)) (by omega) (by omega)]|rw [wrapi (z:=(sz:Int)+(u:Int)) (by omega) (by omega)]|refine l_slLH (es:=bs) sz (sz+u) (by omega) (by omega) (fun o'=>?_)|refine l_b2s ?_|(refine ZG (fun hc=>?_) (fun hc=>?_)<;>(try simp at hc))|(refine ZB (fun hc=>?_) (fun hc=>?_)<;>(try simp at hc))|fail)
 all_goals refine ZD () ?_ trivial
 all_goals rw [←hp]
 all_goals repeat (first|rw [if_pos (by omega)]|rw [if_neg (by omega)])
 all_goals simp [resV]
structure RS where
 rest:List UInt8
 pos:Nat
 err:Int
def Rdr (b:Nat) (o:Option Addr) (cap:Nat) (s:RS):HP:=Pt b (.cells #[.slice o s.rest.length cap,.int .i64 (s.pos:Int),.int .i64 s.err] 218)
def rstep {α:Type} (zero:α) (s:RS) (p:α×Nat×Int):α×RS:=
 if s.err≠0 then (zero,s) else if p.2.2≠0 then (zero,⟨s.rest,s.pos,p.2.2⟩) else (p.1,⟨s.rest.drop p.2.1,s.pos+p.2.1,0⟩)
theorem readInt_ok (b g:Nat) (o:Option Addr) (cap:Nat) (s:RS) (c:Value) (bx:Nat) (obj:Obj) (p:Int×Nat×Int) (hb:s.pos+s.rest.length≤1099511627776) (hpl:p.2.1≤s.rest.length)
  (hg:Enters g∧Spec prog g #[.slice o s.rest.length cap,c] [Sl 5 bf o cap s.rest] [Pt bx obj] ⟨Unit,fun _=>.tuple #[.int .i64 p.1,.int .i64 (p.2.1:Int),.int .i64 p.2.2],fun _=>True,fun _=>[],fun _=>[Pt bx obj]⟩) :
  Enters 145∧Spec prog 145 #[.pointer (some ⟨b,0,none⟩),.func (.func g) #[] #[c]] [Sl 5 bf o cap s.rest] [Rdr b o cap s,Pt bx obj]
   ⟨Option Addr×Nat,fun _=>.int .i64 (rstep 0 s p).1,fun _=>True,fun q=>[Sl 5 bf q.1 q.2 (rstep 0 s p).2.rest],fun q=>[Rdr b q.1 q.2 (rstep 0 s p).2]⟩:=by
 obtain ⟨bs,at0,er⟩:=s
 obtain ⟨v,sz,e⟩:=p
 generalize hr:rstep 0 (RS.mk bs at0 er) (v,sz,e)=r
 unfold rstep at hr
 unfold Rdr
 dsimp only at *
 refine ZE [_,_] func145 ntmps145 fun G w hp=>?_
 repeat' (first|refine ZC ?_|refine Yh hg (fun _ _=>?_)|refine l_slL (es:=bs) sz hpl (fun o'=>?_)|rw [wrapi (z:=(at0:Int)+(sz:Int)) (by omega) (by omega),←Int.natCast_add]|(refine ZB (fun hc=>?_) (fun hc=>?_)<;>(try simp at hc))|fail)
 ·rw [if_pos hc] at hr
  subst hr
  exact ZD (o,cap) rfl trivial
 ·rw [if_neg (by omega),if_pos hc] at hr
  subst hr
  exact ZD (o,cap) rfl trivial
 ·rename_i h0 _ _
  subst h0
  rw [if_neg (by omega),if_neg (by omega)] at hr
  subst hr
  exact ZD (o',cap - sz) rfl trivial
theorem readStr_ok (b g:Nat) (o:Option Addr) (cap:Nat) (s:RS) (c:Value) (bx:Nat) (obj:Obj) (p:ByteArray×Nat×Int) (hb:s.pos+s.rest.length≤1099511627776) (hpl:p.2.1≤s.rest.length)
  (hg:Enters g∧Spec prog g #[.slice o s.rest.length cap,c] [Sl 5 bf o cap s.rest] [Pt bx obj] ⟨Unit,fun _=>.tuple #[.string p.1,.int .i64 (p.2.1:Int),.int .i64 p.2.2],fun _=>True,fun _=>[],fun _=>[Pt bx obj]⟩) :
  Enters 148∧Spec prog 148 #[.pointer (some ⟨b,0,none⟩),.func (.func g) #[] #[c]] [Sl 5 bf o cap s.rest] [Rdr b o cap s,Pt bx obj]
   ⟨Option Addr×Nat,fun _=>.string (rstep ⟨#[]⟩ s p).1,fun _=>True,fun q=>[Sl 5 bf q.1 q.2 (rstep ⟨#[]⟩ s p).2.rest],fun q=>[Rdr b q.1 q.2 (rstep ⟨#[]⟩ s p).2]⟩:=by
 obtain ⟨bs,at0,er⟩:=s
 obtain ⟨v,sz,e⟩:=p
 generalize hr:rstep ⟨#[]⟩ (RS.mk bs at0 er) (v,sz,e)=r
 unfold rstep at hr
 unfold Rdr
 dsimp only at *
 refine ZE [_,_] func148 ntmps148 fun G w hp=>?_
 repeat' (first|refine ZC ?_|refine Yh hg (fun _ _=>?_)|refine l_slL (es:=bs) sz hpl (fun o'=>?_)|rw [wrapi (z:=(at0:Int)+(sz:Int)) (by omega) (by omega),←Int.natCast_add]|(refine ZB (fun hc=>?_) (fun hc=>?_)<;>(try simp at hc))|fail)
 ·rw [if_pos hc] at hr
  subst hr
  exact ZD (o,cap) rfl trivial
 ·rw [if_neg (by omega),if_pos hc] at hr
  subst hr
  exact ZD (o,cap) rfl trivial
 ·rename_i h0 _ _
  subst h0
  rw [if_neg (by omega),if_neg (by omega)] at hr
  subst hr
  exact ZD (o',cap - sz) rfl trivial
def rnum (s:RS) (most:Int):Int×RS:=rstep 0 s (pnum s.rest most)
def rtext (s:RS) (most:Int):ByteArray×RS:=rstep ⟨#[]⟩ s (ptext s.rest most)
theorem pnum_le (bs:List UInt8) (most:Int):(pnum bs most).2.1≤bs.length:=(Vc bs).2
theorem ptext_le (bs:List UInt8) (most:Int):(ptext bs most).2.1≤bs.length:=by
 have:=(Vc bs).2
 unfold ptext
 split
 ·simp
 ·split
  ·simp
  ·split
   ·simp
   ·dsimp only;omega
theorem rstep_le {α:Type} (z:α) (s:RS) (p:α×Nat×Int) (hp:p.2.1≤s.rest.length):(rstep z s p).2.pos+(rstep z s p).2.rest.length≤s.pos+s.rest.length:=by
 unfold rstep
 split
 ·simp
 ·split
  ·simp
  ·simp;omega
theorem Va (b:Nat) (o:Option Addr) (cap:Nat) (s:RS) (most:Int) (hb:s.pos+s.rest.length≤1099511627776) :
  Enters 124∧Spec prog 124 #[.pointer (some ⟨b,0,none⟩),.int .i64 most] [Sl 5 bf o cap s.rest] [Rdr b o cap s]
   ⟨Option Addr×Nat,fun _=>.int .i64 (rnum s most).1,fun _=>True,fun q=>[Sl 5 bf q.1 q.2 (rnum s most).2.rest],fun q=>[Rdr b q.1 q.2 (rnum s most).2]⟩:=by
 refine ZE [_,_] func124 ntmps124 fun G w hp=>?_
 repeat' (first|refine ZC ?_|refine ZH (fun b=>?_)|refine ZA (readInt_ok _ _ _ _ s _ _ _ (pnum s.rest most) hb (pnum_le _ _) (numberF_ok _ _ _ _ most (by omega))) (fun _ _=>?_)|fail)
 rename_i q _
 exact ZD q rfl trivial
theorem rdrText_ok (b:Nat) (o:Option Addr) (cap:Nat) (s:RS) (most:Int) (hb:s.pos+s.rest.length≤1099511627776) :
  Enters 125∧Spec prog 125 #[.pointer (some ⟨b,0,none⟩),.int .i64 most] [Sl 5 bf o cap s.rest] [Rdr b o cap s]
   ⟨Option Addr×Nat,fun _=>.string (rtext s most).1,fun _=>True,fun q=>[Sl 5 bf q.1 q.2 (rtext s most).2.rest],fun q=>[Rdr b q.1 q.2 (rtext s most).2]⟩:=by
 refine ZE [_,_] func125 ntmps125 fun G w hp=>?_
 repeat' (first|refine ZC ?_|refine ZH (fun b=>?_)|refine ZA (readStr_ok _ _ _ _ s _ _ _ (ptext s.rest most) hb (ptext_le _ _) (textF_ok _ _ _ _ most (by omega))) (fun _ _=>?_)|fail)
 rename_i q _
 exact ZD q rfl trivial
theorem newReader_ok (o:Option Addr) (cap:Nat) (bs:List UInt8) (hlen:bs.length≤1099511627776) :
  Enters 94∧Spec prog 94 #[.slice o bs.length cap] [] [Row 5 1 o bs.length cap (byt bs)]
   ⟨Nat×Option Addr×Nat,fun q=>.pointer (some ⟨q.1,0,none⟩),fun _=>True,fun q=>[Sl 5 bf q.2.1 q.2.2 bs],fun q=>[Rdr q.1 q.2.1 q.2.2 ⟨bs,0,0⟩,Row 5 1 o bs.length cap (byt bs)]⟩:=by
 refine ZE [_] func94 ntmps94 fun G w hp=>?_
 repeat' (first|refine ZC ?_|refine ZH (fun b=>?_)|refine ZA (clone_ok _ _ _ hlen) (fun _ _=>?_)|fail)
 rename_i q _
 refine YA (sz:=1) (f:=bf) (o:=q.1) (cap:=q.2) bs ?_ (byt_flat bs) rfl
 exact ZD (b,q.1,q.2) rfl trivial
theorem rdrClose_ok (b:Nat) (o:Option Addr) (cap:Nat) (s:RS) :
  Enters 96∧Spec prog 96 #[.pointer (some ⟨b,0,none⟩)] [] [Rdr b o cap s]
   ⟨Unit,fun _=>.int .i64 (if s.err≠0 then s.err else if s.rest=[] then 0 else 5),fun _=>True,fun _=>[],fun _=>[Rdr b o cap s]⟩:=by
 refine ZE [_] func96 ntmps96 fun G w hp=>?_
 unfold Rdr
 repeat' (first|refine ZC ?_|(refine ZB (fun hc=>?_) (fun hc=>?_)<;>(try simp at hc))|fail)
 all_goals (refine ZD () ?_ trivial;simp_all [resV,List.length_pos_iff])
section
variable {l:List Oper}
theorem l_sx {s:ByteArray} {z:Int} {rs:TRow} (i:Nat) (hlt:i<s.data.toList.length)
  (nx:Wl n C ops.toArray k Q l ((d,.int .u8 (s.data.toList[i]).toNat)::E) F R)
  (hw:wantL ops E ⟨some d,.index t x y,ty0,pos,aft,gd⟩=some true:=by rfl) (hn:Nat.blt d n=true:=by rfl) (hx:ev E x=some (.string s):=by rfl) (hy:ev E y=some (.int .i64 z):=by rfl)
  (hts:lookT tab t=some rs:=by rfl) (hrs:rs.k = .str:=by rfl) (hz:z=(i:Int):=by first|rfl|omega):Wl n C ops.toArray k Q (⟨some d,.index t x y,ty0,pos,aft,gd⟩::l) E F R:=
 Zu i _ (List.getElem?_eq_getElem hlt) nx hw hn hx hy hts hrs hz
end
theorem V1 {p:UInt8→Bool}:∀(l:List UInt8) (i:Nat),i≤(l.takeWhile p).length→(i<(l.takeWhile p).length↔∃c,l[i]? = some c∧p c=true)
 | [],i,h=>by simp
 | a::l,0,_=>by
  rw [List.takeWhile_cons]
  split
  ·rename_i h;simp [h]
  ·rename_i h;simp [h]
 | a::l,i+1,h=>by
  rw [List.takeWhile_cons] at h ⊢
  split at h
  ·rename_i hp
   simp only [hp,if_true,List.length_cons,List.getElem?_cons_succ] at h ⊢
   have:=V1 (p:=p) l i (by omega)
   rw [←this];omega
  ·simp at h
theorem digs_lt {l:List UInt8} {i:Nat} (h:i≤(digs l).length):i<(digs l).length↔i<7∧∃c,l[i]? = some c∧isDig c=true:=by
 have h1:=V1 (p:=isDig) (l.take 7) i h
 unfold digs
 rw [h1,List.getElem?_take]
 by_cases h7:i<7<;>simp [h7]
theorem digs_get {l:List UInt8} {i:Nat} (h:i<(digs l).length):(digs l)[i]? = l[i]?:=by
 rw [digs_pre l,List.getElem?_take,if_pos h]
theorem dnum_lt:∀(l:List UInt8) (n:Nat),(∀c ∈ l,isDig c=true)→l.foldl (fun n c=>n * 10+(c.toNat - 48)) n<(n+1) * 10 ^ l.length
 | [],n,_=>by simp
 | c::l,n,h=>by
  have h1:=dnum_lt l (n * 10+(c.toNat - 48)) fun d hd=>h d (List.mem_cons_of_mem _ hd)
  have h2:=dig_lt (h c (by simp))
  refine Nat.lt_of_lt_of_le h1 ?_
  rw [List.length_cons,Nat.pow_succ]
  have:(n * 10+(c.toNat - 48)+1)≤(n+1) * 10:=by omega
  calc (n * 10+(c.toNat - 48)+1) * 10 ^ l.length≤((n+1) * 10) * 10 ^ l.length:=Nat.mul_le_mul_right _ this
   _=(n+1) * (10 ^ l.length * 10):=by rw [Nat.mul_assoc,Nat.mul_comm 10]
theorem dnum_take_lt (l:List UInt8) (i:Nat):dnum ((digs l).take i)<10000000:=by
 have h1:=dnum_lt ((digs l).take i) 0 fun c hc=>digs_all l c (List.mem_of_mem_take hc)
 have h2:=(Wg l).1
 have h3:((digs l).take i).length≤7:=by simp;omega
 have h4:10 ^ ((digs l).take i).length≤10 ^ 7:=Nat.pow_le_pow_right (by omega) h3
 unfold dnum
 omega
theorem dnum_succ {l:List UInt8} {i:Nat} {c:UInt8} (h:(digs l)[i]? = some c):dnum ((digs l).take (i+1))=dnum ((digs l).take i) * 10+(c.toNat - 48):=by
 rw [List.take_add_one,h]
 exact UA _ _
def Prt.v (p:Prt):Value:=.agg #[.int .i64 (p.ord:Int),.int .i64 (p.pos:Int),.int .i64 p.e]
def ffirst (l:List UInt8) (pos count:Nat):Prt×Nat:=if ferr l count≠0 then (⟨0,pos,ferr l count⟩,pos) else (⟨dnum (digs l),pos,0⟩,pos+(digs l).length)
theorem wu8 {z:Int} (h:0≤z) (h2:z<256):IntKind.u8.wrap z=z:=by
 simp [IntKind.wrap,IntKind.bits,IntKind.signed];omega
theorem u8eq (c:UInt8):((c.toNat:Int)=48)↔c=48:=by
 constructor
 ·intro h;exact UInt8.toNat_inj.1 (by show c.toNat=48;omega)
 ·intro h;subst h;rfl
theorem first_ok (s:ByteArray) (p count:Nat) (hp:p≤s.size) (hs:s.size≤1099511627776) :
  Enters 144∧Spec prog 144 #[.string s,.int .i64 (p:Int),.int .i64 (count:Int)] [] []
   (RetV (.tuple #[(ffirst (s.data.toList.drop p) p count).1.v,.int .i64 ((ffirst (s.data.toList.drop p) p count).2:Int)])):=by
 have hsz:s.data.toList.length=s.size:=by simp
 generalize hl:s.data.toList.drop p=l
 have hll:l.length=s.size - p:=by rw [←hl];simp
 have hget:∀i,l[i]? = s.data.toList[p+i]?:=fun i=>by rw [←hl,List.getElem?_drop]
 have hd:=Wg l
 refine ZE [_,_,_] func144 ntmps144 fun G w hp=>?_
 repeat' (first|refine ZC ?_|refine ZH (fun b=>?_)|fail)
 refine YD (X:={i:Nat // i≤(digs l).length}) (Y:=Unit) (fun i=>[(0,.string s),(1,.int .i64 (p:Int)),(2,.int .i64 (count:Int)),(6,.pointer (some ⟨b,0,none⟩)),(8,.int .i64 ((p+i.1:Nat):Int)),(9,.int .i64 (dnum ((digs l).take i.1):Int))]) (fun _=>[]) (fun _=>[Pt b (.cells #[.int .i64 0,.int .i64 0,.int .i64 0] 214)]) (fun i=>(digs l).length - i.1)
  (fun _=>[(0,.string s),(1,.int .i64 (p:Int)),(2,.int .i64 (count:Int)),(6,.pointer (some ⟨b,0,none⟩)),(8,.int .i64 ((p+(digs l).length:Nat):Int)),(9,.int .i64 (dnum (digs l):Int))]) (fun _=>[]) (fun _=>[Pt b (.cells #[.int .i64 0,.int .i64 0,.int .i64 0] 214)])
  ⟨0,by omega⟩ ⟨rfl,rfl,rfl,rfl,rfl,rfl,trivial⟩ ?_ ?_
 ·intro _
  generalize hf:ffirst l p count=r
  unfold ffirst at hf
  have h0:∀h:p<s.data.size,l.head? = some s.data[p]:=fun h=>by
   rw [List.head?_eq_getElem?,hget 0,Nat.add_zero];simp
  have hn:l=[]↔p=s.size:=by rw [←List.length_eq_zero_iff];omega
  have hdn:digs l=[]↔(digs l).length=0:=List.length_eq_zero_iff.symm
  have hss:s.data.size=s.size:=rfl
  repeat' (first|refine ZC ?_|refine l_sx (s:=s) p (by omega) ?_|rw [wrapi (z:=((p+(digs l).length:Nat):Int) - (p:Int)) (by omega) (by omega)]|(refine ZB (fun hc=>?_) (fun hc=>?_)<;>(try simp at hc))|fail)
  ·have e:ferr l count=9:=by rw [ferr,if_pos (by omega)]
   rw [e] at hf;subst hf;exact ZD () rfl trivial
  ·have e:ferr l count=4:=by rw [ferr,if_neg (by omega),if_pos (hn.2 (by omega))]
   rw [e] at hf;subst hf;exact ZD () rfl trivial
  ·have e:ferr l count=6:=by rw [ferr,if_neg (by omega),if_neg (fun e=>by have:=hn.1 e;omega),if_pos (hdn.2 (by omega))]
   rw [e] at hf;subst hf;exact ZD () rfl trivial
  ·have e:ferr l count=3:=by
    rw [ferr,if_neg (by omega),if_neg (fun e=>by have:=hn.1 e;omega),if_neg (fun e=>by have:=hdn.1 e;omega),if_pos]
    rw [h0 (by omega)]
    exact congrArg some ((u8eq _).1 hc)
   rw [e] at hf;subst hf;exact ZD () rfl trivial
  ·have e:ferr l count=2:=by
    rw [ferr,if_neg (by omega),if_neg (fun e=>by have:=hn.1 e;omega),if_neg (fun e=>by have:=hdn.1 e;omega),if_neg,if_pos (by omega)]
    rw [h0 (by omega)]
    intro e
    have:=(u8eq _).2 (Option.some.inj e)
    omega
   rw [e] at hf;subst hf;exact ZD () rfl trivial
  ·have e:ferr l count=0:=by
    rw [ferr,if_neg (by omega),if_neg (fun e=>by have:=hn.1 e;omega),if_neg (fun e=>by have:=hdn.1 e;omega),if_neg,if_neg (by omega)]
    rw [h0 (by omega)]
    intro e
    have:=(u8eq _).2 (Option.some.inj e)
    omega
   rw [e] at hf;subst hf;exact ZD () rfl trivial
 rintro hx ⟨i,hi⟩
 dsimp only
 have hlt:=digs_lt hi
 have hdl:=dnum_take_lt l i
 repeat' (first|refine ZC ?_|refine ZA (isDigit_ok _) (fun _ _=>?_)|refine l_sx (s:=s) (p+i) (by omega) ?_|rw [wrapi (z:=((p+i:Nat):Int) - (p:Int)) (by omega) (by omega)]|(refine ZG (fun hc=>?_) (fun hc=>?_)<;>(try simp at hc))|(refine ZB (fun hc=>?_) (fun hc=>?_)<;>(try simp at hc))|fail)
 ·have hpi:p+i<s.data.size:=by have:s.data.size=s.size:=rfl;omega
  have hcc:l[i]? = some s.data[p+i]:=by rw [hget i];simp
  have hic:isDig s.data[p+i]=true:=by simp [isDig];omega
  have hi2:=hlt.2 ⟨by omega,_,hcc,hic⟩
  have hds:=dnum_succ (i:=i) ((digs_get hi2).trans hcc)
  have e1:s.data.toList[p+i]'(by omega)=s.data[p+i]:=by simp
  have e2:IntKind.i64.wrap (IntKind.i64.wrap ((dnum ((digs l).take i):Int) * 10)+IntKind.i64.wrap (IntKind.u8.wrap ((s.data[p+i].toNat:Int) - 48)))=(dnum ((digs l).take (i+1)):Int):=by
   rw [wu8 (by omega) (by omega),wrapi (z:=(dnum ((digs l).take i):Int) * 10) (by omega) (by omega),wrapi (z:=(s.data[p+i].toNat:Int) - 48) (by omega) (by omega),wrapi (by omega) (by omega),hds]
   omega
  rw [e1,e2,wrapi (z:=((p+i:Nat):Int)+1) (by omega) (by omega)]
  refine ZJ ⟨i+1,hi2⟩ (by show (digs l).length - (i+1)<(digs l).length - i;omega) ⟨rfl,rfl,rfl,rfl,rfl,rfl,trivial⟩
 all_goals
  have e:i=(digs l).length:=by
   refine Nat.le_antisymm hi (Nat.le_of_not_lt fun h=>?_)
   obtain ⟨h7,c,hc1,hc2⟩:=hlt.1 h
   rw [hget i] at hc1
   have h8:=(List.getElem?_eq_some_iff.1 hc1).1
   simp [isDig] at hc2
   try (
    have h9:s.data[p+i]? = some c:=by simpa using hc1
    rw [Array.getElem?_eq_getElem (by omega)] at h9
    obtain rfl:=Option.some.inj h9)
   omega
  have e2:dnum ((digs l).take i)=dnum (digs l):=by rw [e,List.take_length]
  exact Z2 hx () ⟨rfl,rfl,rfl,rfl,by rw [←e];rfl,by rw [←e2];rfl,trivial⟩
theorem Xk (s:List UInt8) (p c:Nat) (hp:p≤s.length):p≤(ffirst (s.drop p) p c).2∧(ffirst (s.drop p) p c).2≤s.length∧((ffirst (s.drop p) p c).1.e=0→c≠8)∧
  prts (s.drop p) p c=if (ffirst (s.drop p) p c).1.e≠0 then [(ffirst (s.drop p) p c).1] else match s[(ffirst (s.drop p) p c).2]? with
   | none=>[(ffirst (s.drop p) p c).1]
   | some ch=>if ch≠46 then [(ffirst (s.drop p) p c).1,⟨0,(ffirst (s.drop p) p c).2,6⟩] else (ffirst (s.drop p) p c).1::prts (s.drop ((ffirst (s.drop p) p c).2+1)) ((ffirst (s.drop p) p c).2+1) (c+1):=by
 have hd:=Wg (s.drop p)
 have hl:(s.drop p).length=s.length - p:=by simp
 generalize hl':s.drop p=l at *
 unfold ffirst
 by_cases hf:ferr l c=0
 ·rw [if_neg (by simp [hf])]
  refine ⟨by dsimp only;omega,by dsimp only;omega,fun _ h8=>?_,?_⟩
  ·unfold ferr at hf;rw [if_pos h8] at hf;cases hf
  ·conv=>lhs;unfold prts
   rw [if_neg (by simp [hf])]
   dsimp only
   rw [if_neg (by simp)]
   have e1:l.drop (digs l).length=s.drop (p+(digs l).length):=by rw [←hl',List.drop_drop]
   by_cases hlt:p+(digs l).length<s.length
   ·have e2:=List.getElem?_eq_getElem hlt
    have e3:=List.drop_eq_getElem_cons hlt
    rw [e2]
    dsimp only
    split
    ·rename_i h4;rw [e1,e3] at h4;cases h4
    ·rename_i ch rest h4
     rw [e1,e3] at h4
     injection h4 with h5 h6
     rw [h5,h6]
   ·have e2:s[p+(digs l).length]? = none:=List.getElem?_eq_none (by omega)
    rw [e2]
    dsimp only
    split
    ·rfl
    ·rename_i h4
     rw [e1,List.drop_eq_nil_of_le (by omega)] at h4
     cases h4
 ·rw [if_pos hf]
  refine ⟨by dsimp only;omega,by dsimp only;omega,fun h=>absurd h hf,?_⟩
  unfold prts
  rw [if_pos hf]
  simp [hf]
structure PX (s:List UInt8) where
 pre:List Prt
 p:Nat
 c:Nat
 h1:p≤s.length
 h2:c≤8
 h3:lparts s=pre++(if s=[] then [] else prts (s.drop p) p c)
theorem Uf (s:ByteArray) (b:Nat) (hs:s.size≤1099511627776):Iter 143 [.pointer (some ⟨b,0,none⟩)] Prt.v (lparts s.data.toList) [Blk b (.cells #[.string s] 9)] []:=by
 intro v Y I Ix hy
 have hsz:s.data.toList.length=s.size:=by simp
 refine ZE [_,_] func143 ntmps143 fun G w hp=>?_
 repeat' (first|refine ZC ?_|fail)
 refine Zj (X:=PX s.data.toList) (fun q=>[(0,v),(1,.pointer (some ⟨b,0,none⟩)),(3,.int .i64 (q.p:Int)),(4,.int .i64 (q.c:Int))]) (fun _=>[Y,Blk b (.cells #[.string s] 9)]) (fun q=>[I q.pre]) (fun q=>s.size - q.p) ⟨[],0,0,by omega,by omega,by simp [lparts]⟩ ⟨rfl,rfl,rfl,rfl,trivial⟩ ?_
 rintro ⟨pre,p,c,h1,h2,h3⟩
 dsimp only
 obtain ⟨g1,g2,g3,g4⟩:=Xk s.data.toList p c h1
 have hf:=first_ok s p c (by omega) hs
 generalize hr:ffirst (s.data.toList.drop p) p c=r at *
 obtain ⟨pt,fe⟩:=r
 dsimp only at *
 have hemp:∀h:(!s.toList == ByteArray.toList ⟨#[]⟩)=false,s.data.toList=[]:=fun h=>by
  simpa [toList_data] using h
 have hne:∀h:(!s.toList == ByteArray.toList ⟨#[]⟩)=true,s.data.toList≠[]:=fun h=>by
  simpa [toList_data] using h
 repeat' (first|refine ZC ?_|refine ZH (fun b=>?_)|refine ZA (hf) (fun _ _=>?_)|refine ZB (fun hc=>?_) (fun hc=>?_)|fail)
 ·have hne:=hne hc
  rw [if_neg hne,g4] at h3
  have hpre:pre++[pt] <+: lparts s.data.toList:=by
   rw [h3]
   refine (List.prefix_append_right_inj pre).2 ?_
   split
   ·exact List.prefix_refl _
   ·split
    ·exact List.prefix_refl _
    ·split
     ·exact ⟨_,rfl⟩
     ·exact ⟨_,rfl⟩
  refine YN (hy pre pt hpre) (fun bb _=>?_)
  cases bb with
  | false=>
   repeat' (first|refine ZC ?_|fail)
   exact Zz (Z5 (Zg (some (pre++[pt])) rfl (fun q hq=>by cases hq;exact hpre)))
  | true=>
   repeat' (first|refine ZC ?_|refine ZG (fun hc=>?_) (fun hc=>?_)|fail)
   ·have he:pt.e≠0:=by simpa using hc
    rw [if_pos he] at h3
    rw [h3]
    exact Zz (Z5 (Zg none rfl (fun q hq=>by cases hq)))
   ·have he:pt.e=0:=by simpa using hc
    rw [if_neg (by simp [he])] at h3
    have g3:=g3 he
    refine ZB (fun hc=>?_) (fun hc=>?_)
    ·have hfe:fe=s.size:=by simp at hc;omega
     have e2:s.data.toList[fe]? = none:=List.getElem?_eq_none (by omega)
     rw [e2] at h3
     dsimp only at h3
     rw [h3]
     exact Zz (Z5 (Zg none rfl (fun q hq=>by cases hq)))
    ·have hfe:fe<s.data.toList.length:=by simp at hc;omega
     have e2:=List.getElem?_eq_getElem hfe
     rw [e2] at h3
     dsimp only at h3
     repeat' (first|refine ZC ?_|refine l_sx (s:=s) fe hfe ?_|refine ZB (fun hc=>?_) (fun hc=>?_)|fail)
     ·have h46:s.data.toList[fe]≠46:=fun e=>by rw [e] at hc;simp at hc
      rw [if_pos h46] at h3
      refine YN (hy (pre++[pt]) ⟨0,fe,6⟩ (by rw [h3];simp)) (fun bb _=>?_)
      cases bb with
      | false=>
       repeat' (first|refine ZC ?_|fail)
       exact Zz (Z5 (Zg (some (pre++[pt]++[⟨0,fe,6⟩])) rfl (fun q hq=>by cases hq;rw [h3];simp)))
      | true=>
       repeat' (first|refine ZC ?_|fail)
       have h3:lparts s.data.toList=pre++[pt]++[⟨0,fe,6⟩]:=by rw [h3];simp
       rw [h3]
       exact Zz (Z5 (Zg none rfl (fun q hq=>by cases hq)))
     ·have h46:s.data.toList[fe]=46:=UInt8.toNat_inj.1 (by simp at hc;simp;omega)
      rw [if_neg (by simp [h46])] at h3
      rw [wrapi (z:=(fe:Int)+1) (by omega) (by omega),wrapi (z:=(c:Int)+1) (by omega) (by omega)]
      exact ZJ ⟨pre++[pt],fe+1,c+1,by omega,by omega,by rw [h3,if_neg hne];simp⟩ (by show s.size - (fe+1)<s.size - p;omega) ⟨rfl,rfl,rfl,rfl,trivial⟩
 ·have hemp:=hemp hc
  rw [if_pos hemp,List.append_nil] at h3
  refine ZM ?_
  rw [h3]
  exact Zw none rfl (fun q hq=>by cases hq)
section
variable {l:List Oper}
theorem Y7 {b:Nat} {o:Obj} (t:Wk n C k Q E (Blk b o::F) R0) (hs:Sel (Pt b o) R R0:=by (repeat (first|exact Sel.here|apply Sel.there));first|done|fail):Wk n C k Q E F R:=
 fun a w ha hsat=>t a w ha (hsat.sel hs).freeze
theorem Yw {f:Pf} (h:∀hp,f.p hp) (t:Wk n C k Q E (f::F) R):Wk n C k Q E F R:=fun a w ha ⟨_,_,st⟩=>t a w ha (XP st (h _))
theorem w_add {f:Pf} (h:∀hp,f.p hp) (t:Wret n C Q E (f::F) R):Wret n C Q E F R:=fun a w ha ⟨_,_,st⟩=>t a w ha (XP st (h _))
theorem sl_nil {α:Type} (T:Nat) (f:α→List Value) (h:H):(Sl T f none 0 []).p h:=⟨by simp,.inl rfl⟩
theorem w_rv {fn:Func} {v v':Value} {G:H} {w0:World} {hp0:H} (h:v=v') (t:Wret n C (bodyPost prog fn ((RetV v').holds G w0 hp0)) E F R):Wret n C (bodyPost prog fn ((RetV v).holds G w0 hp0)) E F R:=by subst h;exact t
theorem w_open {X:Type} {r:HP} {Lx:X→List HP} {p:X→Prop} (hs:Sel r R R0) (h:∀hh,r hh→∃x,p x∧Sep (Lx x) hh) (t:∀x,p x→Wret n C Q E F (Lx x++R0)):Wret n C Q E F R:=fun a w ha hsat=>by
 obtain ⟨⟨x,hx⟩,h1⟩:=(hsat.sel hs).open' (X:={x // p x}) (L:=fun x=>Lx x.1) fun hh hr=>let ⟨x,h1,h2⟩:=h hh hr;⟨⟨x,h1⟩,h2⟩
 exact t x hx a w ha h1
end
theorem parts_ok (s:ByteArray):Enters 121∧Spec prog 121 #[.string s] [] []
  ⟨Nat,fun b=>.func (.func 143) #[] #[.pointer (some ⟨b,0,none⟩)],fun _=>True,fun b=>[Blk b (.cells #[.string s] 9)],fun _=>[]⟩:=by
 refine ZE [_] func121 ntmps121 fun G w hp=>?_
 repeat' (first|refine ZC ?_|refine ZH (fun b=>?_)|fail)
 refine Y7 ?_
 exact ZD b rfl trivial
def lparse (s:ByteArray):ByteArray×Nat×Int:=
 match (lparts s.data.toList).find? fun p=>p.e != 0 with
 | none=>(s,0,0)
 | some p=>(⟨#[]⟩,p.pos,p.e)
theorem parse_find {pre:List Prt} {e:Prt} {xs:List Prt} (h:pre++[e] <+: xs) (h0:∀x ∈ pre,x.e=0) (he:e.e≠0):xs.find? (fun p=>p.e != 0)=some e:=by
 obtain ⟨t,rfl⟩:=h
 rw [List.append_assoc,List.find?_append]
 have:pre.find? (fun p=>p.e != 0)=none:=List.find?_eq_none.2 fun x hx=>by simp [h0 x hx]
 simp [this,he]
abbrev JL (b2 b3 b4:Nat) (p e:Int):List HP:=[Pt b2 (.cells #[.string ⟨#[]⟩] 36),Pt b3 (.cells #[.int .i64 p] 3),Pt b4 (.cells #[.int .i64 e] 53)]
def JP (b2 b3 b4:Nat) (pre:List Prt):HP:=fun h=>(∀x ∈ pre,x.e=0)∧Sep (JL b2 b3 b4 0 0) h
def JPx (b2 b3 b4:Nat) (pre:List Prt):HP:=fun h=>∃q:List Prt×Prt,(pre=q.1++[q.2]∧(∀x ∈ q.1,x.e=0)∧q.2.e≠0)∧Sep (JL b2 b3 b4 q.2.pos q.2.e) h
theorem parseL_ok (s:ByteArray) (hs:s.size≤1099511627776):Enters 92∧Spec prog 92 #[.string s] [] []
  (RetV (.tuple #[.string (lparse s).1,.int .i64 ((lparse s).2.1:Int),.int .i64 (lparse s).2.2])):=by
 refine ⟨enters_of func92 (by kernel_rfl) rfl,Wb (vs:=[_]) func92 rfl ntmps92 rfl fun G w hp=>?_⟩
 repeat' (first|refine ZC ?_|refine ZH (fun b=>?_)|refine ZA (parts_ok _) (fun _ _=>?_)|fail)
 rename_i b2 b3 q _
 generalize b=b4
 refine ZO (r:=JP b2 b3 b4 []) (Lx:=JL b2 b3 b4 0 0) (fun h hh=>⟨fun x hx=>(by cases hx),hh⟩) ?_
 refine k_range (α:=Prt) (enc:=Prt.v) (xs:=lparts s.data.toList) (JP b2 b3 b4) (JPx b2 b3 b4) (Uf s q hs) ?_ ?_ ?_
 ·intro lr l pre e hpre G w0 hp0
  refine Zq (X:=Unit) (Lx:=fun _=>JL b2 b3 b4 0 0) (p:=fun _=>∀x ∈ pre,x.e=0) (r:=JP b2 b3 b4 pre) (.there .here) (fun h hh=>⟨(),hh.1,hh.2⟩) (fun _ hall=>?_)
  repeat' (first|refine ZC ?_|refine ZH (fun b=>?_)|refine k_beg ?_|refine ZI 4 [Pt b2 (.cells _ _ _),Pt b3 (.cells _ _ _),Pt b4 (.cells _ _ _)] [(0,0),(1,0),(2,0),(3,0),(4,4),(5,4),(6,4)] [] ?_|refine ZB (fun hc=>?_) (fun hc=>?_)|fail)
  ·have he:e.e≠0:=by simpa using hc
   refine ZO (Lx:=JL b2 b3 b4 e.pos e.e) (r:=JPx b2 b3 b4 (pre++[e])) (fun h hh=>⟨(pre,e),⟨rfl,hall,he⟩,hh⟩) ?_
   exact k_rr
  ·have he:e.e=0:=by simpa using hc
   refine ZO (Lx:=JL b2 b3 b4 0 0) (r:=JP b2 b3 b4 (pre++[e])) (fun h hh=>⟨fun x hx=>?_,hh⟩) ?_
   ·rcases List.mem_append.1 hx with hx|hx
    ·exact hall x hx
    ·simp at hx;subst hx;exact he
   exact k_rn
 ·intro D
  refine Zq (X:=Unit) (Lx:=fun _=>JL b2 b3 b4 0 0) (p:=fun _=>∀x ∈ lparts s.data.toList,x.e=0) (r:=JP b2 b3 b4 (lparts s.data.toList)) .here (fun h hh=>⟨(),hh.1,hh.2⟩) (fun _ hall=>?_)
  have hp:lparse s=(s,0,0):=by
   have:(lparts s.data.toList).find? (fun p=>p.e != 0)=none:=List.find?_eq_none.2 fun x hx=>by simp [hall x hx]
   rw [lparse,this]
  rw [hp]
  repeat' (first|refine ZC ?_|fail)
  exact k_retM () rfl trivial
 ·intro D pre hpre
  refine w_open (X:=List Prt×Prt) (Lx:=fun q=>JL b2 b3 b4 q.2.pos q.2.e) (r:=JPx b2 b3 b4 pre) .here (fun h hh=>hh) (fun q hq=>?_)
  obtain ⟨rfl,h1,h2⟩:=hq
  rw [lparse,parse_find hpre h1 h2]
  exact w_retM () rfl trivial
theorem lparse_valid (s:ByteArray):((lparse s).2.2 == 0)=lvalid s.data.toList:=by
 unfold lparse lvalid
 cases h:(lparts s.data.toList).find? fun p=>p.e != 0 with
 | none=>
  have h1:=List.find?_eq_none.1 h
  simp at h1
  symm
  simpa using h1
 | some p=>
  have h1:=List.find?_some h
  have h2:=List.mem_of_find?_eq_some h
  simp at h1
  have e1:(p.e == 0)=false:=by simpa using h1
  dsimp only
  rw [e1]
  symm
  rw [List.all_eq_false]
  exact ⟨p,h2,by simpa using h1⟩
theorem Zt (s:ByteArray) (hs:s.size≤1099511627776):Enters 64∧Spec prog 64 #[.string s] [] [] (RetV (.bool (lvalid s.data.toList))):=by
 refine ZE [_] func64 ntmps64 fun G w hp=>?_
 repeat' (first|refine ZC ?_|refine ZA (parseL_ok s hs) (fun _ _=>?_)|fail)
 refine ZD () ?_ trivial
 rw [←lparse_valid];rfl
theorem prts_len:∀(m:Nat) (l:List UInt8) (p c:Nat),l.length≤m→(prts l p c).length≤l.length+1:=by
 intro m
 induction m with
 | zero=>
  intro l p c hl
  obtain rfl:=List.length_eq_zero_iff.1 (show l.length=0 by omega)
  unfold prts
  split
  ·simp
  ·rename_i h;simp [ferr] at h;split at h<;>simp_all
 | succ m ih=>
  intro l p c hl
  unfold prts
  split
  ·simp
  ·split
   ·simp
   ·rename_i c' rest h
    have h1:=congrArg List.length h
    simp at h1
    split
    ·simp;omega
    ·have:=ih rest (p+(digs l).length+1) (c+1) (by omega)
     simp;omega
theorem lparts_len (s:List UInt8):(lparts s).length≤s.length+1:=by
 unfold lparts
 split
 ·simp
 ·exact prts_len _ s 0 0 (Nat.le_refl _)
def zf (z:Int):List Value:=[.int .i64 z]
def ords (l:List Prt):List Int:=l.map fun p=>(p.ord:Int)
theorem lords_ok {s:List UInt8} (h:∀x ∈ lparts s,x.e=0):lords s=ords (lparts s):=by
 have:lvalid s=true:=by simpa [lvalid] using h
 rw [lords,if_pos this];rfl
theorem lords_bad {s:List UInt8} (h:∃x ∈ lparts s,x.e≠0):lords s=[]:=by
 have:lvalid s=false:=by simpa [lvalid] using h
 rw [lords,this];rfl
abbrev JOL (b2 b3:Nat) (pre:List Prt) (q:Option Addr×Nat):List HP:=[Pt b2 (.cells #[.slice none 0 0] 267),Pt b3 (.cells #[.slice q.1 pre.length q.2] 267),Row 3 1 q.1 pre.length q.2 ((ords pre).flatMap zf)]
def JO (b2 b3:Nat) (pre:List Prt):HP:=fun h=>∃q,(∀x ∈ pre,x.e=0)∧Sep (JOL b2 b3 pre q) h
def JOx (b2:Nat) (pre:List Prt):HP:=fun h=>(∃x ∈ pre,x.e≠0)∧Sep [Pt b2 (.cells #[.slice none 0 0] 267)] h
theorem UV (s:ByteArray) (hs:s.size≤1099511627776):Enters 172∧Spec prog 172 #[.string s] [] []
  ⟨Option Addr×Nat,fun q=>.slice q.1 (lords s.data.toList).length q.2,fun _=>True,fun q=>[Sl 3 zf q.1 q.2 (lords s.data.toList)],fun _=>[]⟩:=by
 have hlen:=lparts_len s.data.toList
 have hsz:s.data.toList.length=s.size:=by simp
 refine ⟨enters_of func172 (by kernel_rfl) rfl,Wb (vs:=[_]) func172 rfl ntmps172 rfl fun G w hp=>?_⟩
 repeat' (first|refine ZC ?_|refine ZH (fun b=>?_)|refine ZA (parts_ok _) (fun _ _=>?_)|fail)
 rename_i b2 q _
 generalize b=b3
 refine ZO (Lx:=[]) (r:=Row 3 1 none 0 0 []) (fun h _=>Zb _ _ h) ?_
 refine ZO (Lx:=JOL b2 b3 [] (none,0)) (r:=JO b2 b3 []) (fun h hh=>⟨(none,0),fun x hx=>(by cases hx),hh⟩) ?_
 refine k_range (α:=Prt) (enc:=Prt.v) (xs:=lparts s.data.toList) (JO b2 b3) (JOx b2) (Uf s q hs) ?_ ?_ ?_
 ·intro lr l pre e hpre G w0 hp0
  have hple:=hpre.length_le
  simp only [List.length_append,List.length_singleton] at hple
  refine Zq (X:=Option Addr×Nat) (Lx:=fun q=>JOL b2 b3 pre q) (p:=fun _=>∀x ∈ pre,x.e=0) (r:=JO b2 b3 pre) (.there .here) (fun h hh=>hh) (fun q hall=>?_)
  repeat' (first|refine ZC ?_|refine ZH (fun b=>?_)|refine k_beg ?_|refine Zs (fun o' cap'=>?_)|refine ZB (fun hc=>?_) (fun hc=>?_)|fail)
  ·have he:e.e≠0:=by simpa using hc
   refine ZO (Lx:=[Pt b2 (.cells #[.slice none 0 0] 267)]) (r:=JOx b2 (pre++[e])) (fun h hh=>⟨⟨e,by simp,he⟩,hh⟩) ?_
   exact k_rr
  ·have he:e.e=0:=by simpa using hc
   have e1:pre.length+1=(pre++[e]).length:=by simp
   have e2:(ords pre).flatMap zf++#[Value.int .i64 (e.ord:Int)].toList=(ords (pre++[e])).flatMap zf:=by simp [ords,zf]
   rw [e1,e2]
   refine ZO (Lx:=JOL b2 b3 (pre++[e]) (o',cap')) (r:=JO b2 b3 (pre++[e])) (fun h hh=>⟨(o',cap'),fun x hx=>?_,hh⟩) ?_
   ·rcases List.mem_append.1 hx with hx|hx
    ·exact hall x hx
    ·simp at hx;subst hx;exact he
   exact k_rn
 ·intro D
  refine Zq (X:=Option Addr×Nat) (Lx:=fun q=>JOL b2 b3 (lparts s.data.toList) q) (p:=fun _=>∀x ∈ lparts s.data.toList,x.e=0) (r:=JO b2 b3 (lparts s.data.toList)) .here (fun h hh=>hh) (fun q hall=>?_)
  dsimp only [JOL]
  rw [lords_ok hall,show (lparts s.data.toList).length=(ords (lparts s.data.toList)).length by simp [ords]]
  repeat' (first|refine ZC ?_|fail)
  refine YA (sz:=1) (f:=zf) (o:=q.1) (cap:=q.2) (ords (lparts s.data.toList)) ?_ rfl rfl
  exact k_retM q rfl trivial
 ·intro D pre hpre
  refine w_open (X:=Unit) (Lx:=fun _=>[Pt b2 (.cells #[.slice none 0 0] 267)]) (p:=fun _=>∃x ∈ pre,x.e≠0) (r:=JOx b2 pre) .here (fun h hh=>⟨(),hh⟩) (fun q hq=>?_)
  obtain ⟨x,hx,he⟩:=hq
  rw [lords_bad ⟨x,hpre.subset hx,he⟩]
  refine w_add (sl_nil 3 zf) ?_
  exact w_retM (none,0) rfl trivial
theorem cmpSl_ok (o1 o2:Option Addr) (c1 c2:Nat) (e1 e2:List Int) (h1:e1.length≤1099511627776) (h2:e2.length≤1099511627776):Enters 171∧Spec prog 171 #[.slice o1 e1.length c1,.slice o2 e2.length c2]
  [Sl 3 zf o1 c1 e1,Sl 3 zf o2 c2 e2] [] (RetV (.int .i64 (cmpL e1 e2))):=by
 refine ZE [_,_] func171 ntmps171 fun G w hp=>?_
 repeat' (first|refine ZC ?_|fail)
 refine Zj (X:={i:Nat // i≤e1.length∧i≤e2.length∧cmpL e1 e2=cmpL (e1.drop i) (e2.drop i)}) (fun i=>[(0,.slice o1 e1.length c1),(1,.slice o2 e2.length c2),(9,.slice o1 e1.length c1),(10,.int .i64 (e1.length:Int)),(11,.int .i64 (i.1:Int))]) (fun _=>[Sl 3 zf o1 c1 e1,Sl 3 zf o2 c2 e2]) (fun _=>[]) (fun i=>e1.length - i.1) ⟨0,by omega,by omega,rfl⟩ ⟨rfl,rfl,rfl,rfl,rfl,trivial⟩ ?_
 rintro ⟨i,hi1,hi2,hi3⟩
 dsimp only
 repeat' (first|refine ZC ?_|refine ZM ?_|refine ZA (cmp_int _ _) (fun _ _=>?_)|refine l_ix e1 i (by omega) (fun b off=>?_)|refine l_ix e2 i (by omega) (fun b off=>?_)|refine ZQ ?_|(refine ZB (fun hc=>?_) (fun hc=>?_)<;>(try simp at hc))|fail)
 ·have d1:=List.drop_eq_getElem_cons (l:=e1) (i:=i) (by omega)
  have d2:e2.drop i=[]:=List.drop_eq_nil_of_le (by omega)
  have e:cmpL e1 e2=1:=by rw [hi3,d1,d2];rfl
  exact Zz (Z5 (w_rv (congrArg (Value.int .i64) e) (Zg () rfl trivial)))
 ·have d1:=List.drop_eq_getElem_cons (l:=e1) (i:=i) (by omega)
  have d2:=List.drop_eq_getElem_cons (l:=e2) (i:=i) (by omega)
  have e:cmpL e1 e2=cmpI e1[i] e2[i]:=by rw [hi3,d1,d2,cmpL,if_pos hc]
  exact Zz (Z5 (w_rv (congrArg (Value.int .i64) e) (Zg () rfl trivial)))
 ·have d1:=List.drop_eq_getElem_cons (l:=e1) (i:=i) (by omega)
  have d2:=List.drop_eq_getElem_cons (l:=e2) (i:=i) (by omega)
  rw [wrapi (z:=(i:Int)+1) (by omega) (by omega)]
  exact ZJ ⟨i+1,by omega,by omega,by rw [hi3,d1,d2,cmpL,if_neg (by simp [hc])]⟩ (by show e1.length - (i+1)<e1.length - i;omega) ⟨rfl,rfl,rfl,rfl,rfl,trivial⟩
 ·have d1:e1.drop i=[]:=List.drop_eq_nil_of_le (by omega)
  have d2:=List.drop_eq_getElem_cons (l:=e2) (i:=i) (by omega)
  rw [hi3,d1,d2]
  exact ZD () rfl trivial
 ·have d1:e1.drop i=[]:=List.drop_eq_nil_of_le (by omega)
  have d2:e2.drop i=[]:=List.drop_eq_nil_of_le (by omega)
  rw [hi3,d1,d2]
  exact ZD () rfl trivial
theorem lords_len (s:List UInt8):(lords s).length≤s.length+1:=by
 unfold lords
 split
 ·simp;exact lparts_len s
 ·simp
theorem compareN_ok (a b:ByteArray) (ha:a.size≤1099511627770) (hb:b.size≤1099511627770):Enters 133∧Spec prog 133 #[.string a,.string b] [] [] (RetV (.int .i64 (cmpN a b))):=by
 have la:=lords_len a.data.toList
 have lb:=lords_len b.data.toList
 have sa:a.data.toList.length=a.size:=by simp
 have sb:b.data.toList.length=b.size:=by simp
 have va:=Zt a (by omega)
 have vb:=Zt b (by omega)
 have key:(a.toList == b.toList)=decide (a=b):=by
  rw [toList_data,toList_data,Bool.eq_iff_iff]
  simp only [beq_iff_eq,decide_eq_true_eq]
  exact ⟨XN,fun h=>by rw [h]⟩
 generalize hr:cmpN a b=r
 unfold cmpN at hr
 cases hva:lvalid a.data.toList<;>cases hvb:lvalid b.data.toList
 all_goals rw [hva] at va hr
 all_goals rw [hvb] at vb hr
 all_goals dsimp only at hr
 all_goals refine ZE [_,_] func133 ntmps133 fun G w hp=>?_
 all_goals repeat' (first|refine ZC ?_|refine ZA (va) (fun _ _=>?_)|refine ZA (vb) (fun _ _=>?_)|refine ZA (UV a (by omega)) (fun _ _=>?_)|refine ZA (UV b (by omega)) (fun _ _=>?_)|refine ZA (cmpSl_ok _ _ _ _ (lords a.data.toList) (lords b.data.toList) (by omega) (by omega)) (fun _ _=>?_)|refine ZA (cmp_lin _ _) (fun _ _=>?_)|refine ZB (fun hc=>?_) (fun hc=>?_)|fail)
 all_goals first|rw [key,decide_eq_true_eq] at hc|rw [key,decide_eq_false_iff_not] at hc
 all_goals first
  | (rw [if_pos hc] at hr;subst hr;exact ZD () rfl trivial)
  | (rw [if_neg hc] at hr;subst hr;exact ZD () rfl trivial)
abbrev Al:=List (Nm×ByteArray)
inductive Tr where
 | nil
 | node (l:Tr) (a:Nm) (v:ByteArray) (r:Tr)
namespace Tr
def ht:Tr→Nat
 | nil=>0
 | node l _ _ r=>1+max l.ht r.ht
def sz:Tr→Nat
 | nil=>0
 | node l _ _ r=>1+l.sz+r.sz
def by_:Tr→Nat
 | nil=>0
 | node l _ v r=>v.size+l.by_+r.by_
def els:Tr→Al
 | nil=>[]
 | node l a v r=>l.els++(a,v)::r.els
def bal (l:Tr) (a:Nm) (v:ByteArray) (r:Tr):Tr:=
 if r.ht+1<l.ht then
  match l with
  | nil=>node l a v r
  | node ll la lv lr=>
   if lr.ht≤ll.ht then node ll la lv (node lr a v r)
   else match lr with
    | nil=>node l a v r
    | node il ia iv ir=>node (node ll la lv il) ia iv (node ir a v r)
 else if l.ht+1<r.ht then
  match r with
  | nil=>node l a v r
  | node rl ra rv rr=>
   if rl.ht≤rr.ht then node (node l a v rl) ra rv rr
   else match rl with
    | nil=>node l a v r
    | node il ia iv ir=>node (node l a v il) ia iv (node ir ra rv rr)
 else node l a v r
def put (a:Nm) (v:ByteArray):Tr→Tr
 | nil=>node nil a v nil
 | node l b u r=>if cmpO a b<0 then bal (put a v l) b u r else if 0<cmpO a b then bal l b u (put a v r) else node l a v r
def find (a:Nm):Tr→Option ByteArray
 | nil=>none
 | node l b u r=>if cmpO a b=0 then some u else if cmpO a b<0 then find a l else find a r
theorem els_bal (l:Tr) (a:Nm) (v:ByteArray) (r:Tr):(bal l a v r).els=l.els++(a,v)::r.els:=by
 unfold bal
 split
 ·split
  ·rfl
  ·split
   ·simp [els]
   ·split
    ·simp [els]
    ·simp [els]
 ·split
  ·split
   ·rfl
   ·split
    ·simp [els]
    ·split
     ·simp [els]
     ·simp [els]
  ·rfl
theorem sz_els (t:Tr):t.sz=t.els.length:=by
 induction t with
 | nil=>rfl
 | node l a v r hl hr=>simp [sz,els,hl,hr];omega
def ab (l:Al):Nat:=(l.map fun x=>x.2.size).sum
theorem by_els (t:Tr):t.by_=ab t.els:=by
 induction t with
 | nil=>rfl
 | node l a v r hl hr=>simp [by_,els,hl,hr,ab];omega
theorem ht_sz (t:Tr):t.ht≤t.sz:=by
 induction t with
 | nil=>simp [ht]
 | node l a v r hl hr=>simp only [ht,sz];omega
end Tr
def Srt (l:Al):Prop:=l.Pairwise fun x y=>cmpO x.1 y.1<0
def insO (a:Nm) (v:ByteArray):Al→Al
 | []=>[(a,v)]
 | (b,u)::l=>if cmpO a b<0 then (a,v)::(b,u)::l else if 0<cmpO a b then (b,u)::insO a v l else (a,v)::l
def getO (a:Nm):Al→Option ByteArray
 | []=>none
 | (b,u)::l=>if cmpO a b=0 then some u else getO a l
theorem Ys (a b:Nm):cmpO a b<0↔0<cmpO b a:=ord_obj.anti a b
theorem Wx (a b:Nm):cmpO a b=0↔a=b:=ord_obj.eq a b
theorem XT {a b c:Nm} (h:cmpO a b<0) (k:cmpO b c<0):cmpO a c<0:=ord_obj.trans a b c h k
theorem insO_lt (a:Nm) (v:ByteArray) (b:Nm) (u:ByteArray) (ys:Al):∀xs:Al,(∀x ∈ xs,cmpO x.1 b<0)→cmpO a b<0→insO a v (xs++(b,u)::ys)=insO a v xs++(b,u)::ys
 | [],_,h=>by simp [insO,h]
 | (c,w)::xs,hx,h=>by
  have ih:=insO_lt a v b u ys xs (fun x hx'=>hx x (List.mem_cons_of_mem _ hx')) h
  simp only [List.cons_append,insO,ih]
  split
  ·simp
  ·split<;>simp
theorem insO_gt (a:Nm) (v:ByteArray) (b:Nm) (u:ByteArray) (ys:Al):∀xs:Al,(∀x ∈ xs,cmpO x.1 b<0)→0<cmpO a b→insO a v (xs++(b,u)::ys)=xs++(b,u)::insO a v ys
 | [],_,h=>by
  have h1:¬cmpO a b<0:=by omega
  simp [insO,h,h1]
 | (c,w)::xs,hx,h=>by
  have ih:=insO_gt a v b u ys xs (fun x hx'=>hx x (List.mem_cons_of_mem _ hx')) h
  have h0:cmpO c b<0:=hx (c,w) (by simp)
  have h1:cmpO c a<0:=XT h0 ((Ys b a).2 h)
  have h2:0<cmpO a c:=(Ys c a).1 h1
  have h3:¬cmpO a c<0:=by omega
  simp only [List.cons_append,insO,ih,h2,h3,if_true,if_false]
theorem insO_eq (a:Nm) (v:ByteArray) (b:Nm) (u:ByteArray) (ys:Al):∀xs:Al,(∀x ∈ xs,cmpO x.1 b<0)→cmpO a b=0→insO a v (xs++(b,u)::ys)=xs++(a,v)::ys
 | [],_,h=>by simp [insO,h]
 | (c,w)::xs,hx,h=>by
  have ih:=insO_eq a v b u ys xs (fun x hx'=>hx x (List.mem_cons_of_mem _ hx')) h
  obtain rfl:=(Wx a b).1 h
  have h0:cmpO c a<0:=hx (c,w) (by simp)
  have h2:0<cmpO a c:=(Ys c a).1 h0
  have h3:¬cmpO a c<0:=by omega
  simp only [List.cons_append,insO,ih,h2,h3,if_true,if_false]
theorem srt_split {xs ys:Al} {b:Nm} {u:ByteArray} (h:Srt (xs++(b,u)::ys)):Srt xs∧Srt ys∧(∀x ∈ xs,cmpO x.1 b<0)∧∀y ∈ ys,cmpO b y.1<0:=by
 unfold Srt at *
 rw [List.pairwise_append,List.pairwise_cons] at h
 exact ⟨h.1,h.2.1.2,fun x hx=>h.2.2 x hx (b,u) (by simp),fun y hy=>h.2.1.1 y hy⟩
theorem els_put (a:Nm) (v:ByteArray):∀t:Tr,Srt t.els→(Tr.put a v t).els=insO a v t.els
 | .nil,_=>rfl
 | .node l b u r,h=>by
  obtain ⟨h1,h2,h3,h4⟩:=srt_split h
  have il:=els_put a v l h1
  have ir:=els_put a v r h2
  unfold Tr.put
  split
  ·rename_i hc
   rw [Tr.els_bal,il]
   exact (insO_lt a v b u _ _ h3 hc).symm
  ·split
   ·rename_i hc
    rw [Tr.els_bal,ir]
    exact (insO_gt a v b u _ _ h3 hc).symm
   ·exact (insO_eq a v b u _ _ h3 (by omega)).symm
theorem UZ (a:Nm):∀xs ys:Al,getO a (xs++ys)=(getO a xs).or (getO a ys)
 | [],_=>by simp [getO]
 | (b,u)::xs,ys=>by
  simp only [List.cons_append,getO,UZ a xs ys]
  split<;>simp
theorem Xm {a:Nm}:∀{xs:Al},(∀x ∈ xs,cmpO a x.1≠0)→getO a xs=none
 | [],_=>rfl
 | (b,u)::xs,h=>by
  rw [getO,if_neg (h (b,u) (by simp))]
  exact Xm fun x hx=>h x (by simp [hx])
theorem Vi (a:Nm):∀t:Tr,Srt t.els→Tr.find a t=getO a t.els
 | .nil,_=>rfl
 | .node l b u r,h=>by
  obtain ⟨h1,h2,h3,h4⟩:=srt_split h
  have il:=Vi a l h1
  have ir:=Vi a r h2
  unfold Tr.find Tr.els
  rw [UZ,getO]
  by_cases h0:cmpO a b=0
  ·rw [if_pos h0,if_pos h0]
   obtain rfl:=(Wx a b).1 h0
   rw [Xm fun x hx=>by
    have:=(Ys _ _).1 (h3 x hx)
    omega]
   rfl
  ·rw [if_neg h0,if_neg h0]
   by_cases hl:cmpO a b<0
   ·rw [if_pos hl,il]
    rw [Xm (xs:=r.els) fun y hy=>by
     have:=XT hl (h4 y hy)
     omega]
    simp
   ·rw [if_neg hl,ir]
    rw [Xm (xs:=l.els) fun x hx=>by
     have h5:cmpO b a<0:=(Ys b a).2 (by omega)
     have h6:=XT (h3 x hx) h5
     have:=(Ys _ _).1 h6
     omega]
    simp
theorem WZ (a:Nm) (v:ByteArray):∀(l:Al) (x:Nm×ByteArray),x ∈ insO a v l→x=(a,v)∨x ∈ l
 | [],x,h=>by simpa [insO] using h
 | (b,u)::l,x,h=>by
  unfold insO at h
  split at h
  ·simpa using h
  ·split at h
   ·rcases List.mem_cons.1 h with h|h
    ·right;simp [h]
    ·rcases WZ a v l x h with h|h
     ·exact .inl h
     ·right;simp [h]
   ·rcases List.mem_cons.1 h with h|h
    ·exact .inl h
    ·right;simp [h]
theorem srt_ins (a:Nm) (v:ByteArray):∀l:Al,Srt l→Srt (insO a v l)
 | [],_=>by simp [insO,Srt]
 | (b,u)::l,h=>by
  have hp:=List.pairwise_cons.1 h
  unfold insO
  split
  ·rename_i hc
   refine List.pairwise_cons.2 ⟨fun y hy=>?_,h⟩
   rcases List.mem_cons.1 hy with rfl|hy
   ·exact hc
   ·exact XT hc (hp.1 y hy)
  ·split
   ·rename_i hc
    refine List.pairwise_cons.2 ⟨fun y hy=>?_,srt_ins a v l hp.2⟩
    rcases WZ a v l y hy with rfl|hy
    ·exact (Ys b a).2 hc
    ·exact hp.1 y hy
   ·rename_i h1 h2
    obtain rfl:=(Wx a b).1 (by omega)
    exact List.pairwise_cons.2 ⟨hp.1,hp.2⟩
theorem WU (a:Nm) (v:ByteArray):∀l:Al,(insO a v l).length≤l.length+1
 | []=>by simp [insO]
 | (b,u)::l=>by
  have:=WU a v l
  unfold insO
  split
  ·simp
  ·split<;>simp<;>omega
theorem row_pt {T sz m b:Nat} {cs:Array Value} (hm:cs.size=m * sz) (h:H) (hb:Sep [Pt b (.cells cs T)] h):Row T sz (some ⟨b,0,none⟩) m m cs.toList h:=by
 obtain ⟨h1,h2,_,s1,_,hx,_⟩:=hb
 refine .inr ⟨b,[],(0,0),rfl,?_,by simpa using hm,by simpa using hm,Nat.le_refl _,.inl rfl⟩
 simpa using s1 _ _ hx
def or0:List Int→Int
 | []=>0
 | x::l=>if x≠0 then x else or0 l
theorem or_ok (o:Option Addr) (c:Nat) (es:List Int) (h1:es.length≤1099511627776):Spec prog 134 #[.slice o es.length c] [Sl 3 zf o c es] [] (RetV (.int .i64 (or0 es))):=by
 refine (show Enters 134∧Spec prog 134 #[.slice o es.length c] [Sl 3 zf o c es] [] (RetV (.int .i64 (or0 es))) from ?_).2
 refine ZE [_] func134 ntmps134 fun G w hp=>?_
 repeat' (first|refine ZC ?_|fail)
 refine Zj (X:={i:Nat // i≤es.length∧or0 es=or0 (es.drop i)}) (fun i=>[(3,.int .i64 0),(6,.slice o es.length c),(7,.int .i64 (es.length:Int)),(8,.int .i64 (i.1:Int))]) (fun _=>[Sl 3 zf o c es]) (fun _=>[]) (fun i=>es.length - i.1) ⟨0,by omega,rfl⟩ ⟨rfl,rfl,rfl,rfl,trivial⟩ ?_
 rintro ⟨i,hi1,hi3⟩
 dsimp only
 repeat' (first|refine ZC ?_|refine ZM ?_|refine l_ix es i (by omega) (fun b off=>?_)|refine ZQ ?_|(refine ZB (fun hc=>?_) (fun hc=>?_)<;>(try simp at hc))|fail)
 ·have d1:=List.drop_eq_getElem_cons (l:=es) (i:=i) (by omega)
  have e:or0 es=es[i]:=by rw [hi3,d1,or0,if_pos hc]
  exact Zz (Z5 (w_rv (congrArg (Value.int .i64) e) (Zg () rfl trivial)))
 ·have d1:=List.drop_eq_getElem_cons (l:=es) (i:=i) (by omega)
  rw [wrapi (z:=(i:Int)+1) (by omega) (by omega)]
  exact ZJ ⟨i+1,by omega,by rw [hi3,d1,or0,if_neg (by simp [hc])]⟩ (by show es.length - (i+1)<es.length - i;omega) ⟨rfl,rfl,rfl,rfl,trivial⟩
 ·have d1:es.drop i=[]:=List.drop_eq_nil_of_le (by omega)
  rw [hi3,d1]
  exact ZD () rfl trivial
theorem or3_ok (b:Nat) (x y z:Int):Enters 134∧Spec prog 134 #[.slice (some ⟨b,0,none⟩) 3 3] [] [Pt b (.cells #[.int .i64 x,.int .i64 y,.int .i64 z] 3)] (RetV (.int .i64 (or0 [x,y,z]))):=by
 refine ⟨enters_of func134 (by kernel_rfl) rfl,fun G w hp hs=>?_⟩
 have h1:=(hs.shut (R:=[]) (L:=[Pt b (.cells #[.int .i64 x,.int .i64 y,.int .i64 z] 3)]) (x:=Row 3 1 (some ⟨b,0,none⟩) 3 3 [.int .i64 x,.int .i64 y,.int .i64 z]) fun h hh=>row_pt rfl h hh)
 have h2:=frz_row (f:=zf) (es:=[x,y,z]) rfl rfl Sel.here h1
 exact YU (or_ok (some ⟨b,0,none⟩) 3 [x,y,z] (by simp)) h2 .nil (fun hp hF f hf=>by simp at hf;subst hf;exact hF _ (by simp)) fun x w' hx h3=>⟨x,rfl,hx,h3.facts (F':=[]) (fun _ _ _ h=>by cases h)⟩
theorem Uh (a a':Nm) (ha:a.owner.size≤1099511627770) (hb:a'.owner.size≤1099511627770):Enters 110∧Spec prog 110 #[a.v,a'.v] [] [] (RetV (.int .i64 (cmpO a a'))):=by
 generalize hr:cmpO a a'=r
 unfold cmpO at hr
 refine ZE [_,_] func110 ntmps110 fun G w hp=>?_
 repeat' (first|refine ZC ?_|refine ZH (fun b=>?_)|refine ZA (cmp_int _ _) (fun _ _=>?_)|refine ZK (cmp_int _ _) (fun _ _=>?_)|refine ZA (compareN_ok a.owner a'.owner ha hb) (fun _ _=>?_)|refine ZK (cmp_str _ _) (fun _ _=>?_)|refine ZK (or3_ok _ _ _ _) (fun _ _=>?_)|refine ZI 7 [] [(0,0),(1,0),(2,0),(3,0),(5,0),(6,0),(7,0),(8,0),(10,0),(11,0),(12,0),(13,0),(4,4),(9,4),(14,4),(15,1),(16,4),(17,0)] [] ?_|(refine ZB (fun hc=>?_) (fun hc=>?_)<;>(try simp at hc))|fail)
 ·rw [if_pos hc] at hr;subst hr;exact ZD () rfl trivial
 ·rename_i h _ _
  rw [if_neg (by simp [h]),if_pos hc] at hr;subst hr;exact ZD () rfl trivial
 ·rename_i h _ _ _ _ _ _ _ _ _ _ _
  rw [if_neg (by simp_all),if_neg (by simp_all)] at hr
  have e:r=or0 [cmpI a.number a'.number,cmpI a.index a'.index,cmpS a.text a'.text]:=by
   rw [←hr]
   simp only [or0]
   split
   ·rfl
   ·split
    ·rfl
    ·split
     ·rfl
     ·omega
  subst e
  exact ZD () rfl trivial
structure Usage where
 word:ByteArray
 owner:Bool
 number:Bool
 index:Bool
 text:Bool
 most:Int
 deriving Inhabited
def uf (u:Usage):List Value:=[.string u.word,.bool u.owner,.bool u.number,.bool u.index,.bool u.text,.int .i64 u.most]
def usages:List Usage:=[
 ⟨⟨#[]⟩,false,false,false,false,0⟩,
 ⟨⟨#[112,114,111,99,101,115,115]⟩,true,false,false,false,0⟩,
 ⟨⟨#[114,101,103,105,115,116,101,114,115]⟩,true,false,false,false,0⟩,
 ⟨⟨#[112,97,103,101]⟩,true,false,true,false,63⟩,
 ⟨⟨#[116,97,98,108,101]⟩,true,false,false,false,0⟩,
 ⟨⟨#[99,111,117,110,116,101,114]⟩,true,false,false,false,0⟩,
 ⟨⟨#[112,101,110,100,105,110,103]⟩,true,false,false,false,0⟩,
 ⟨⟨#[110,111,100,101]⟩,true,true,false,false,0⟩,
 ⟨⟨#[98,108,111,99,107]⟩,true,true,true,false,63⟩,
 ⟨⟨#[101,110,116,114,121]⟩,true,true,false,true,0⟩,
 ⟨⟨#[108,105,115,116,105,110,103]⟩,true,true,false,false,0⟩,
 ⟨⟨#[112,105,112,101]⟩,true,true,false,false,0⟩,
 ⟨⟨#[108,111,99,107]⟩,true,true,false,false,0⟩,
 ⟨⟨#[116,101,114,109,105,110,97,108]⟩,false,true,false,false,0⟩,
 ⟨⟨#[97,99,99,111,117,110,116]⟩,false,false,false,true,0⟩,
 ⟨⟨#[99,108,111,99,107]⟩,false,false,false,false,0⟩,
 ⟨⟨#[112,111,114,116]⟩,false,true,false,false,0⟩,
 ⟨⟨#[98,111,120]⟩,false,false,false,true,0⟩,
 ⟨⟨#[111,117,116]⟩,true,true,true,false,1073741824⟩,
 ⟨⟨#[115,104,101,108,108]⟩,true,false,false,false,0⟩,
 ⟨⟨#[101,112,111,99,104]⟩,false,false,false,false,0⟩]
def Usg:Pf:=⟨fun h=>∃T fz,h 0=some (.cells (usages.flatMap uf).toArray T fz),fun _ _ s ⟨T,fz,h⟩=>⟨T,fz,s _ _ h⟩⟩
section
variable {l:List Oper}
theorem run_indexArr {T sz m i b:Nat} {w:World} {rs tr:TRow} (hts:lookT tab t=some rs) (hrs:rs.k = .arr m T) (hT:lookT tab T=some tr) (hsz:tr.size=sz) {z:Int} (hz:z=(i:Int)) (hi:i<m) :
  (Instr.indexAt t (.pointer (some ⟨b,0,none⟩)) (.int .i64 z)).run prog w = .ok (.pointer (some ⟨b,i * sz,none⟩)) w:=by
 obtain ⟨d1,hd1,hk1⟩:=ZR.und hts
 rw [hrs] at hk1
 have hu1:(underlying t).run prog w = .ok (.array m T) w:=by
  cases d1<;>simp [chkKind] at hk1
  obtain ⟨rfl,rfl⟩:=hk1
  simp [underlying,hd1,go_sem]
 have hs1:=ZR.sizeOf hT w
 rw [hsz] at hs1
 subst hz
 unfold Instr.indexAt
 simp only [asIntOf,Sem.run_bind,Sem.run_pure,Result.andThen,hu1,Instr.sureAddr]
 have hc:(0:Int)≤(i:Int)∧(i:Int)<((m:Nat):Int):=⟨by omega,by omega⟩
 rw [if_pos hc]
 simp only [Sem.run_bind,hs1,Result.andThen,Sem.run_pure,Int.toNat_natCast]
 rw [Yu rfl,Nat.zero_add]
theorem l_usg {m T:Nat} {z:Int} {rs tr:TRow} (i:Nat) (hlt:i<usages.length)
  (nx:∀T' o,o=i * 6→Wl n C ops.toArray k Q l ((d,.pointer (some ⟨0,o,none⟩))::E) (Cel T' 0 o (uf usages[i])::F) R)
  (hw:wantL ops E ⟨some d,.indexAddr t x y,ty0,pos,aft,gd⟩=some true:=by rfl) (hn:Nat.blt d n=true:=by rfl) (hx:ev E x=some (.pointer (some ⟨0,0,none⟩)):=by rfl) (hy:ev E y=some (.int .i64 z):=by rfl)
  (hs:Sel Usg F F0:=by (repeat (first|exact Sel.here|apply Sel.there));first|done|fail) (hts:lookT tab t=some rs:=by rfl) (hrs:rs.k = .arr m T:=by rfl) (hT:lookT tab T=some tr:=by rfl) (hsz:tr.size=6:=by rfl) (hm:m=usages.length:=by rfl)
  (hz:z=(i:Int):=by first|rfl|omega):Wl n C ops.toArray k Q (⟨some d,.indexAddr t x y,ty0,pos,aft,gd⟩::l) E F R:=
 Zn (fun t ht=>by cases ht;exact Nat.le_of_ble_eq_true hn) (fun c hc=>by cases hc) hw fun a w ha hsat=>by
  obtain ⟨hp,hr,st⟩:=hsat
  obtain ⟨T',fz,h1⟩:=st.f _ hs.mem
  have hr1:=run_indexArr (w:=w) (b:=0) hts hrs hT hsz hz (by rw [hm];exact hlt)
  unfold OpRes
  simp only [execOp,ha.ev (x:=x) (by rw [ZF];exact hx),ha.ev (x:=y) (by rw [ZF];exact hy),Sem.run_bind,Result.andThen,hr1,Sem.run_pure]
  have hc:(Cel T' 0 (i * 6) (uf usages[i])).p hp:=by
   refine ⟨_,(T',fz),(usages.take i).flatMap uf,(usages.drop (i+1)).flatMap uf,h1,?_,?_⟩
   ·simpa using XM (f:=uf) (List.getElem?_eq_getElem hlt)
   ·rw [Za (sz:=6) (fun _=>rfl)]
    simp;omega
  exact fun a' ha'=>nx T' _ rfl a' w ha' (XP st hc)
end
def isE (s:ByteArray):Bool:=s.toList == ByteArray.toList ⟨#[]⟩
def badc (c:UInt8):Bool:=decide ((c.toNat:Int)<33) || (decide ((126:Int)<c.toNat) || ((c.toNat:Int) == 47))
def oword (s:ByteArray):Bool:=!isE s && decide (s.size≤32) && s.data.toList.all fun c=>!badc c
def within (x m:Int):Bool:=decide (0≤x) && decide (x≤m)
def uchk (u:Usage) (a:Nm):Int:=
 if (!u.owner && !isE a.owner) || (!u.number && a.number != 0) || (!u.index && a.index != 0) || (!u.text && !isE a.text) then 1
 else if u.owner && !lvalid a.owner.data.toList then 12
 else if (u.number && !within a.number 1073741824) || (u.index && !within a.index u.most) then 2
 else if u.text && !oword a.text then 12
 else 0
def nchk (a:Nm):Int:=if 1≤a.kind∧a.kind≤20 then uchk (usages.getD a.kind.toNat default) a else 11
theorem XX (s:ByteArray) (hs:s.size≤1099511627776):Enters 108∧Spec prog 108 #[.string s] [] [] (RetV (.bool (oword s))):=by
 have hsz:s.data.toList.length=s.size:=by simp
 generalize hr:oword s=r
 unfold oword at hr
 refine ZE [_] func108 ntmps108 fun G w hp=>?_
 repeat' (first|refine ZC ?_|refine ZG (fun hc=>?_) (fun hc=>?_)|refine ZB (fun hc=>?_) (fun hc=>?_)|fail)
 ·have hc:isE s=true:=hc
  rw [hc] at hr;simp at hr;subst hr
  exact ZD () rfl trivial
 ·rename_i h1
  have h1:isE s=false:=h1
  have h2:¬s.size≤32:=by simp at hc;omega
  rw [h1,decide_eq_false h2] at hr;simp at hr;subst hr
  exact ZD () rfl trivial
 rename_i h1
 have h1:isE s=false:=h1
 have h2:s.size≤32:=by simp at hc;omega
 rw [h1,decide_eq_true h2] at hr;simp only [Bool.not_false,Bool.and_self,Bool.true_and] at hr
 refine Zj (X:={i:Nat // i≤s.size∧∀j,j<i→∀c,s.data.toList[j]? = some c→badc c=false}) (fun i=>[(0,.string s),(12,.int .i64 (s.size:Int)),(13,.int .i64 (i.1:Int))]) (fun _=>[]) (fun _=>[]) (fun i=>s.size - i.1) ⟨0,by omega,fun j hj=>by omega⟩ ⟨rfl,rfl,rfl,trivial⟩ ?_
 rintro ⟨i,hi1,hi2⟩
 dsimp only
 by_cases hlt:i<s.data.toList.length
 ·obtain ⟨c,hcc⟩:∃c,s.data.toList[i]? = some c:=⟨_,List.getElem?_eq_getElem hlt⟩
  have bad:badc c=true→r=false:=fun hb=>by
   rw [←hr,List.all_eq_false]
   exact ⟨c,List.mem_of_getElem? hcc,by simp [hb]⟩
  repeat' (first|refine ZC ?_|refine Zu (s:=s) i c hcc ?_|(refine ZG (fun hc=>?_) (fun hc=>?_)<;>(try simp at hc)<;>(try omega))|(refine ZB (fun hc=>?_) (fun hc=>?_)<;>(try simp at hc)<;>(try omega))|fail)
  all_goals try (
   have e:=bad (by simp [badc];omega)
   exact Zz (Z5 (w_rv (congrArg Value.bool e) (Zg () rfl trivial))))
  rw [wrapi (z:=(i:Int)+1) (by omega) (by omega)]
  refine ZJ ⟨i+1,by omega,fun j hj c' hc'=>?_⟩ (by show s.size - (i+1)<s.size - i;omega) ⟨rfl,rfl,rfl,trivial⟩
  by_cases hij:j=i
  ·subst hij
   obtain rfl:=Option.some.inj (hcc.symm.trans hc')
   simp [badc];omega
  ·exact hi2 j (by omega) c' hc'
 ·have e:r=true:=by
   rw [←hr,List.all_eq_true]
   intro c hc
   obtain ⟨j,hj,rfl⟩:=List.mem_iff_getElem.1 hc
   rw [hi2 j (by omega) _ (List.getElem?_eq_getElem hj)];rfl
  repeat' (first|refine ZC ?_|refine ZM ?_|(refine ZB (fun hc=>?_) (fun hc=>?_)<;>(try simp at hc)<;>(try omega))|fail)
  subst e
  exact ZD () rfl trivial
end Go.Proofs.YtcjfciifhdfjkaaGreatDoor
set_option maxRecDepth 10000
set_option maxHeartbeats 4000000
namespace Go.Proofs.YtcjfciifhdfjkaaGreatDoor
open Go.Proofs.Tryz
open Go.RowKit
theorem klt {a:Nm} (hk:1≤a.kind∧a.kind≤20):a.kind.toNat<usages.length:=by show a.kind.toNat<21;omega
theorem chk_TFFF (a:Nm) (ha:a.owner.size≤1099511627776) (ht:a.text.size≤1099511627776) (hk:1≤a.kind∧a.kind≤20) (uw:ByteArray) (um:Int) (hu:usages[a.kind.toNat]'(klt hk)=⟨uw,true,false,false,false,um⟩) :
  Enters 83∧Spec prog 83 #[a.v] [Usg] [] (RetV (.int .i64 (uchk ⟨uw,true,false,false,false,um⟩ a))):=by
 have v1:=Zt a.owner ha
 have v2:=XX a.text ht
 have v3:=YP a.kind
 have e3:(decide (1≤a.kind) && decide (a.kind≤20))=true:=by simp [hk]
 rw [e3] at v3
 generalize hr:uchk ⟨uw,true,false,false,false,um⟩ a=r
 unfold uchk at hr
 simp only [Bool.not_false,Bool.not_true,Bool.true_and,Bool.false_and,Bool.or_false,Bool.false_or] at hr
 refine ZE [_] func83 ntmps83 fun G w hp=>?_
 repeat' (first|refine ZC ?_|refine ZH (fun b=>?_)|refine ZA (v3) (fun _ _=>?_)|fail)
 refine l_usg a.kind.toNat (klt hk) (fun T' o ho=>?_)
 rw [hu]
 repeat' (first|refine ZC ?_|refine ZH (fun b=>?_)|refine ZA (v1) (fun _ _=>?_)|refine ZQ ?_|refine ZB (fun hc=>?_) (fun hc=>?_)|fail)
 all_goals (refine ZD () ?_ trivial;rw [←hr];clear hr v1 v2 v3 hu hk e3;simp only [cond_true,Bool.not_false] at *;simp_all [isE,resV,RetV])
theorem chk_TFTF (a:Nm) (ha:a.owner.size≤1099511627776) (ht:a.text.size≤1099511627776) (hk:1≤a.kind∧a.kind≤20) (uw:ByteArray) (um:Int) (hu:usages[a.kind.toNat]'(klt hk)=⟨uw,true,false,true,false,um⟩) :
  Enters 83∧Spec prog 83 #[a.v] [Usg] [] (RetV (.int .i64 (uchk ⟨uw,true,false,true,false,um⟩ a))):=by
 have v1:=Zt a.owner ha
 have v2:=XX a.text ht
 have v3:=YP a.kind
 have e3:(decide (1≤a.kind) && decide (a.kind≤20))=true:=by simp [hk]
 rw [e3] at v3
 generalize hr:uchk ⟨uw,true,false,true,false,um⟩ a=r
 unfold uchk at hr
 simp only [Bool.not_false,Bool.not_true,Bool.true_and,Bool.false_and,Bool.or_false,Bool.false_or] at hr
 refine ZE [_] func83 ntmps83 fun G w hp=>?_
 repeat' (first|refine ZC ?_|refine ZH (fun b=>?_)|refine ZA (v3) (fun _ _=>?_)|fail)
 refine l_usg a.kind.toNat (klt hk) (fun T' o ho=>?_)
 rw [hu]
 repeat' (first|refine ZC ?_|refine ZH (fun b=>?_)|refine ZA (v1) (fun _ _=>?_)|refine ZA (Xo _ _) (fun _ _=>?_)|refine ZQ ?_|refine ZB (fun hc=>?_) (fun hc=>?_)|fail)
 all_goals (refine ZD () ?_ trivial;rw [←hr];clear hr v1 v2 v3 hu hk e3;simp only [cond_true,Bool.not_false] at *;simp_all [isE,within,resV,RetV])
theorem chk_TTFF (a:Nm) (ha:a.owner.size≤1099511627776) (ht:a.text.size≤1099511627776) (hk:1≤a.kind∧a.kind≤20) (uw:ByteArray) (um:Int) (hu:usages[a.kind.toNat]'(klt hk)=⟨uw,true,true,false,false,um⟩) :
  Enters 83∧Spec prog 83 #[a.v] [Usg] [] (RetV (.int .i64 (uchk ⟨uw,true,true,false,false,um⟩ a))):=by
 have v1:=Zt a.owner ha
 have v2:=XX a.text ht
 have v3:=YP a.kind
 have e3:(decide (1≤a.kind) && decide (a.kind≤20))=true:=by simp [hk]
 rw [e3] at v3
 generalize hr:uchk ⟨uw,true,true,false,false,um⟩ a=r
 unfold uchk at hr
 simp only [Bool.not_false,Bool.not_true,Bool.true_and,Bool.false_and,Bool.or_false,Bool.false_or] at hr
 refine ZE [_] func83 ntmps83 fun G w hp=>?_
 repeat' (first|refine ZC ?_|refine ZH (fun b=>?_)|refine ZA (v3) (fun _ _=>?_)|fail)
 refine l_usg a.kind.toNat (klt hk) (fun T' o ho=>?_)
 rw [hu]
 repeat' (first|refine ZC ?_|refine ZH (fun b=>?_)|refine ZA (v1) (fun _ _=>?_)|refine ZA (Xo _ _) (fun _ _=>?_)|refine ZQ ?_|refine ZB (fun hc=>?_) (fun hc=>?_)|fail)
 all_goals (refine ZD () ?_ trivial;rw [←hr];clear hr v1 v2 v3 hu hk e3;simp only [cond_true,Bool.not_false] at *;simp_all [isE,within,resV,RetV])
theorem chk_TTTF (a:Nm) (ha:a.owner.size≤1099511627776) (ht:a.text.size≤1099511627776) (hk:1≤a.kind∧a.kind≤20) (uw:ByteArray) (um:Int) (hu:usages[a.kind.toNat]'(klt hk)=⟨uw,true,true,true,false,um⟩) :
  Enters 83∧Spec prog 83 #[a.v] [Usg] [] (RetV (.int .i64 (uchk ⟨uw,true,true,true,false,um⟩ a))):=by
 have v1:=Zt a.owner ha
 have v2:=XX a.text ht
 have v3:=YP a.kind
 have e3:(decide (1≤a.kind) && decide (a.kind≤20))=true:=by simp [hk]
 rw [e3] at v3
 generalize hr:uchk ⟨uw,true,true,true,false,um⟩ a=r
 unfold uchk at hr
 simp only [Bool.not_false,Bool.not_true,Bool.true_and,Bool.false_and,Bool.or_false,Bool.false_or] at hr
 refine ZE [_] func83 ntmps83 fun G w hp=>?_
 repeat' (first|refine ZC ?_|refine ZH (fun b=>?_)|refine ZA (v3) (fun _ _=>?_)|fail)
 refine l_usg a.kind.toNat (klt hk) (fun T' o ho=>?_)
 rw [hu]
 repeat' (first|refine ZC ?_|refine ZH (fun b=>?_)|refine ZA (v1) (fun _ _=>?_)|refine ZA (Xo _ _) (fun _ _=>?_)|refine ZQ ?_|refine ZB (fun hc=>?_) (fun hc=>?_)|fail)
 all_goals (refine ZD () ?_ trivial;rw [←hr];clear hr v1 v2 v3 hu hk e3;simp only [cond_true,Bool.not_false] at *;simp_all [isE,within,resV,RetV])
theorem chk_TTFT (a:Nm) (ha:a.owner.size≤1099511627776) (ht:a.text.size≤1099511627776) (hk:1≤a.kind∧a.kind≤20) (uw:ByteArray) (um:Int) (hu:usages[a.kind.toNat]'(klt hk)=⟨uw,true,true,false,true,um⟩) :
  Enters 83∧Spec prog 83 #[a.v] [Usg] [] (RetV (.int .i64 (uchk ⟨uw,true,true,false,true,um⟩ a))):=by
 have v1:=Zt a.owner ha
 have v2:=XX a.text ht
 have v3:=YP a.kind
 have e3:(decide (1≤a.kind) && decide (a.kind≤20))=true:=by simp [hk]
 rw [e3] at v3
 generalize hr:uchk ⟨uw,true,true,false,true,um⟩ a=r
 unfold uchk at hr
 simp only [Bool.not_false,Bool.not_true,Bool.true_and,Bool.false_and,Bool.or_false,Bool.false_or] at hr
 refine ZE [_] func83 ntmps83 fun G w hp=>?_
 repeat' (first|refine ZC ?_|refine ZH (fun b=>?_)|refine ZA (v3) (fun _ _=>?_)|fail)
 refine l_usg a.kind.toNat (klt hk) (fun T' o ho=>?_)
 rw [hu]
 repeat' (first|refine ZC ?_|refine ZH (fun b=>?_)|refine ZA (v1) (fun _ _=>?_)|refine ZA (v2) (fun _ _=>?_)|refine ZA (Xo _ _) (fun _ _=>?_)|refine ZQ ?_|refine ZB (fun hc=>?_) (fun hc=>?_)|fail)
 all_goals (refine ZD () ?_ trivial;rw [←hr];clear hr v1 v2 v3 hu hk e3;simp only [cond_true,Bool.not_false] at *;simp_all [within,resV,RetV])
theorem chk_FTFF (a:Nm) (ha:a.owner.size≤1099511627776) (ht:a.text.size≤1099511627776) (hk:1≤a.kind∧a.kind≤20) (uw:ByteArray) (um:Int) (hu:usages[a.kind.toNat]'(klt hk)=⟨uw,false,true,false,false,um⟩) :
  Enters 83∧Spec prog 83 #[a.v] [Usg] [] (RetV (.int .i64 (uchk ⟨uw,false,true,false,false,um⟩ a))):=by
 have v1:=Zt a.owner ha
 have v2:=XX a.text ht
 have v3:=YP a.kind
 have e3:(decide (1≤a.kind) && decide (a.kind≤20))=true:=by simp [hk]
 rw [e3] at v3
 generalize hr:uchk ⟨uw,false,true,false,false,um⟩ a=r
 unfold uchk at hr
 simp only [Bool.not_false,Bool.not_true,Bool.true_and,Bool.false_and,Bool.or_false] at hr
 refine ZE [_] func83 ntmps83 fun G w hp=>?_
 repeat' (first|refine ZC ?_|refine ZH (fun b=>?_)|refine ZA (v3) (fun _ _=>?_)|fail)
 refine l_usg a.kind.toNat (klt hk) (fun T' o ho=>?_)
 rw [hu]
 repeat' (first|refine ZC ?_|refine ZH (fun b=>?_)|refine ZA (Xo _ _) (fun _ _=>?_)|refine ZQ ?_|refine ZB (fun hc=>?_) (fun hc=>?_)|fail)
 all_goals (refine ZD () ?_ trivial;rw [←hr];clear hr v1 v2 v3 hu hk e3;simp only [cond_true,Bool.not_false] at *;simp_all [isE,within,resV,RetV])
theorem chk_FFFT (a:Nm) (ha:a.owner.size≤1099511627776) (ht:a.text.size≤1099511627776) (hk:1≤a.kind∧a.kind≤20) (uw:ByteArray) (um:Int) (hu:usages[a.kind.toNat]'(klt hk)=⟨uw,false,false,false,true,um⟩) :
  Enters 83∧Spec prog 83 #[a.v] [Usg] [] (RetV (.int .i64 (uchk ⟨uw,false,false,false,true,um⟩ a))):=by
 have v1:=Zt a.owner ha
 have v2:=XX a.text ht
 have v3:=YP a.kind
 have e3:(decide (1≤a.kind) && decide (a.kind≤20))=true:=by simp [hk]
 rw [e3] at v3
 generalize hr:uchk ⟨uw,false,false,false,true,um⟩ a=r
 unfold uchk at hr
 simp only [Bool.not_false,Bool.not_true,Bool.true_and,Bool.false_and,Bool.or_false] at hr
 refine ZE [_] func83 ntmps83 fun G w hp=>?_
 repeat' (first|refine ZC ?_|refine ZH (fun b=>?_)|refine ZA (v3) (fun _ _=>?_)|fail)
 refine l_usg a.kind.toNat (klt hk) (fun T' o ho=>?_)
 rw [hu]
 repeat' (first|refine ZC ?_|refine ZH (fun b=>?_)|refine ZA (v2) (fun _ _=>?_)|refine ZQ ?_|refine ZB (fun hc=>?_) (fun hc=>?_)|fail)
 all_goals (refine ZD () ?_ trivial;rw [←hr];clear hr v1 v2 v3 hu hk e3;simp only [cond_true,Bool.not_false] at *;simp_all [isE,resV,RetV])
theorem chk_FFFF (a:Nm) (ha:a.owner.size≤1099511627776) (ht:a.text.size≤1099511627776) (hk:1≤a.kind∧a.kind≤20) (uw:ByteArray) (um:Int) (hu:usages[a.kind.toNat]'(klt hk)=⟨uw,false,false,false,false,um⟩) :
  Enters 83∧Spec prog 83 #[a.v] [Usg] [] (RetV (.int .i64 (uchk ⟨uw,false,false,false,false,um⟩ a))):=by
 have v1:=Zt a.owner ha
 have v2:=XX a.text ht
 have v3:=YP a.kind
 have e3:(decide (1≤a.kind) && decide (a.kind≤20))=true:=by simp [hk]
 rw [e3] at v3
 generalize hr:uchk ⟨uw,false,false,false,false,um⟩ a=r
 unfold uchk at hr
 simp only [Bool.not_false,Bool.true_and,Bool.false_and,Bool.or_false] at hr
 refine ZE [_] func83 ntmps83 fun G w hp=>?_
 repeat' (first|refine ZC ?_|refine ZH (fun b=>?_)|refine ZA (v3) (fun _ _=>?_)|fail)
 refine l_usg a.kind.toNat (klt hk) (fun T' o ho=>?_)
 rw [hu]
 repeat' (first|refine ZC ?_|refine ZH (fun b=>?_)|refine ZQ ?_|refine ZB (fun hc=>?_) (fun hc=>?_)|fail)
 all_goals (refine ZD () ?_ trivial;rw [←hr];clear hr v1 v2 v3 hu hk e3;simp only [cond_true,Bool.not_false] at *;simp_all [isE,resV,RetV])
def okf (u:Usage):Bool:=(u.owner || !u.index) && (u.owner || !(u.number && u.text)) && !(u.index && u.text) && (!(u.owner && u.text) || u.number)
theorem okf_all:usages.all okf=true:=by decide
theorem nameCheck_ok (a:Nm) (ha:a.owner.size≤1099511627776) (ht:a.text.size≤1099511627776):Enters 83∧Spec prog 83 #[a.v] [Usg] [] (RetV (.int .i64 (nchk a))):=by
 by_cases hk:1≤a.kind∧a.kind≤20
 ·have hn:nchk a=uchk (usages[a.kind.toNat]'(klt hk)) a:=by
   rw [nchk,if_pos hk,List.getD_eq_getElem?_getD,List.getElem?_eq_getElem (klt hk),Option.getD_some]
  rw [hn]
  have hu:okf (usages[a.kind.toNat]'(klt hk))=true:=List.all_eq_true.1 okf_all _ (List.getElem_mem (klt hk))
  generalize hus:usages[a.kind.toNat]'(klt hk)=u at *
  obtain ⟨uw,uo,un,ui,ut,um⟩:=u
  cases uo<;>cases un<;>cases ui<;>cases ut
  all_goals first
   | (simp [okf] at hu;done)
   | exact chk_TFFF a ha ht hk _ _ hus
   | exact chk_TFTF a ha ht hk _ _ hus
   | exact chk_TTFF a ha ht hk _ _ hus
   | exact chk_TTTF a ha ht hk _ _ hus
   | exact chk_TTFT a ha ht hk _ _ hus
   | exact chk_FTFF a ha ht hk _ _ hus
   | exact chk_FFFT a ha ht hk _ _ hus
   | exact chk_FFFF a ha ht hk _ _ hus
 ·have hn:nchk a=11:=by rw [nchk,if_neg hk]
  rw [hn]
  have v3:=YP a.kind
  have e3:(decide (1≤a.kind) && decide (a.kind≤20))=false:=by simp;omega
  rw [e3] at v3
  refine ZE [_] func83 ntmps83 fun G w hp=>?_
  repeat' (first|refine ZC ?_|refine ZH (fun b=>?_)|refine ZA (v3) (fun _ _=>?_)|fail)
  exact ZD () rfl trivial
end Go.Proofs.YtcjfciifhdfjkaaGreatDoor
namespace Go.Proofs.YtcjfciifhdfjkaaGreatDoor
open Go.RowKit Go.Proofs.Tryz
variable {n:Nat} {C:Cx} {Q:Exit→Act→World→Prop} {E E':List (Nat×Value)} {F F1:List Pf} {R R0:List HP} {k:List Fr} {ops:List Oper}
section
variable {l:List Oper}
theorem Zx {f:Pf} (h:∀hp,(∀x ∈ F1,x.p hp)→f.p hp) (t:Wk n C k Q E (f::F) R) (hF:EntF F F1:=by (repeat (first|exact trivial|exact Sel.here|apply Sel.there|apply EntF.cons));first|done|fail):Wk n C k Q E F R:=
 fun a w ha ⟨hp,_,st⟩=>t a w ha (XP st (h hp (hF.all hp st.f)))
end
abbrev ndc (pl pr:Option Addr) (a:Nm) (v:ByteArray) (h s b:Int):Obj:=.cells #[.pointer pl,.pointer pr,.int .i64 a.kind,.string a.owner,.int .i64 a.number,.int .i64 a.index,.string a.text,.string v,.int .i64 h,.int .i64 s,.int .i64 b] 166
def TrP:Option Addr→Tr→H→Prop
 | p,.nil,_=>p=none
 | p,.node l a v r,h=>∃b pl pr,p=some ⟨b,0,none⟩∧h b=some (ndc pl pr a v (Tr.node l a v r).ht (Tr.node l a v r).sz (Tr.node l a v r).by_)∧TrP pl l h∧TrP pr r h
theorem Vt:∀(t:Tr) (p:Option Addr) (h k:H),Sub h k→TrP p t h→TrP p t k
 | .nil,_,_,_,_,hh=>hh
 | .node l _ _ r,_,h,k,s,⟨b,pl,pr,h1,h2,h3,h4⟩=>⟨b,pl,pr,h1,s _ _ h2,Vt l pl h k s h3,Vt r pr h k s h4⟩
def TrF (p:Option Addr) (t:Tr):Pf:=⟨TrP p t,Vt t p⟩
def Nd (p:Option Addr) (a:Nm) (v:ByteArray):Pf:=⟨fun h=>∃b pl pr x y z,p=some ⟨b,0,none⟩∧h b=some (ndc pl pr a v x y z),fun _ _ s ⟨b,pl,pr,x,y,z,h1,h2⟩=>⟨b,pl,pr,x,y,z,h1,s _ _ h2⟩⟩
theorem ZX (p:Option Addr) (t:Tr):Enters 136∧Spec prog 136 #[.pointer p] [TrF p t] [] (RetV (.int .i64 (t.ht:Int))):=by
 refine ZE [_] func136 ntmps136 fun G w hp=>?_
 cases t with
 | nil=>
  refine Zm (X:=Unit) (Fx:=fun _=>[]) (p:=fun _=>p=none) (f:=TrF p .nil) .here (fun h hh=>⟨(),hh,fun _ hx=>by cases hx⟩) (fun _ hp=>?_)
  subst hp
  repeat' (first|refine ZC ?_|fail)
  exact ZD () rfl trivial
 | node l a v r=>
  refine Zm (X:=Nat×Option Addr×Option Addr) (Fx:=fun x=>[Blk x.1 (ndc x.2.1 x.2.2 a v (Tr.node l a v r).ht (Tr.node l a v r).sz (Tr.node l a v r).by_)]) (p:=fun x=>p=some ⟨x.1,0,none⟩) (f:=TrF p (.node l a v r)) .here (fun h ⟨b,pl,pr,h1,h2,_,_⟩=>⟨(b,pl,pr),h1,fun f hf=>by simp at hf;subst hf;exact h2⟩) (fun x hp=>?_)
  subst hp
  repeat' (first|refine ZC ?_|fail)
  exact ZD () rfl trivial
theorem V8 (p:Option Addr) (t:Tr):Enters 109∧Spec prog 109 #[.pointer p] [TrF p t] [] (RetV (.int .i64 (t.sz:Int))):=by
 refine ZE [_] func109 ntmps109 fun G w hp=>?_
 cases t with
 | nil=>
  refine Zm (X:=Unit) (Fx:=fun _=>[]) (p:=fun _=>p=none) (f:=TrF p .nil) .here (fun h hh=>⟨(),hh,fun _ hx=>by cases hx⟩) (fun _ hp=>?_)
  subst hp
  repeat' (first|refine ZC ?_|fail)
  exact ZD () rfl trivial
 | node l a v r=>
  refine Zm (X:=Nat×Option Addr×Option Addr) (Fx:=fun x=>[Blk x.1 (ndc x.2.1 x.2.2 a v (Tr.node l a v r).ht (Tr.node l a v r).sz (Tr.node l a v r).by_)]) (p:=fun x=>p=some ⟨x.1,0,none⟩) (f:=TrF p (.node l a v r)) .here (fun h ⟨b,pl,pr,h1,h2,_,_⟩=>⟨(b,pl,pr),h1,fun f hf=>by simp at hf;subst hf;exact h2⟩) (fun x hp=>?_)
  subst hp
  repeat' (first|refine ZC ?_|fail)
  exact ZD () rfl trivial
theorem bytesOf_ok (p:Option Addr) (t:Tr):Enters 137∧Spec prog 137 #[.pointer p] [TrF p t] [] (RetV (.int .i64 (t.by_:Int))):=by
 refine ZE [_] func137 ntmps137 fun G w hp=>?_
 cases t with
 | nil=>
  refine Zm (X:=Unit) (Fx:=fun _=>[]) (p:=fun _=>p=none) (f:=TrF p .nil) .here (fun h hh=>⟨(),hh,fun _ hx=>by cases hx⟩) (fun _ hp=>?_)
  subst hp
  repeat' (first|refine ZC ?_|fail)
  exact ZD () rfl trivial
 | node l a v r=>
  refine Zm (X:=Nat×Option Addr×Option Addr) (Fx:=fun x=>[Blk x.1 (ndc x.2.1 x.2.2 a v (Tr.node l a v r).ht (Tr.node l a v r).sz (Tr.node l a v r).by_)]) (p:=fun x=>p=some ⟨x.1,0,none⟩) (f:=TrF p (.node l a v r)) .here (fun h ⟨b,pl,pr,h1,h2,_,_⟩=>⟨(b,pl,pr),h1,fun f hf=>by simp at hf;subst hf;exact h2⟩) (fun x hp=>?_)
  subst hp
  repeat' (first|refine ZC ?_|fail)
  exact ZD () rfl trivial
theorem YO (pl pm pr:Option Addr) (l r:Tr) (a:Nm) (v:ByteArray) (hs:l.sz+r.sz≤1099511627776) (hb:v.size+l.by_+r.by_≤1152921504606846976):Enters 111∧Spec prog 111 #[.pointer pl,.pointer pm,.pointer pr] [TrF pl l,Nd pm a v,TrF pr r] []
  ⟨Nat,fun b=>.pointer (some ⟨b,0,none⟩),fun _=>True,fun b=>[TrF (some ⟨b,0,none⟩) (.node l a v r)],fun _=>[]⟩:=by
 have hl:=l.ht_sz
 have hr:=r.ht_sz
 refine ZE [_,_,_] func111 ntmps111 fun G w hp=>?_
 refine Zm (X:=Nat×Option Addr×Option Addr×Int×Int×Int) (Fx:=fun x=>[Blk x.1 (ndc x.2.1 x.2.2.1 a v x.2.2.2.1 x.2.2.2.2.1 x.2.2.2.2.2)]) (p:=fun x=>pm=some ⟨x.1,0,none⟩) (f:=Nd pm a v) (.there .here) (fun h ⟨b,pl,pr,x,y,z,h1,h2⟩=>⟨(b,pl,pr,x,y,z),h1,fun f hf=>by simp at hf;subst hf;exact h2⟩) (fun x hp=>?_)
 subst hp
 repeat' (first|refine ZC ?_|refine ZH (fun b=>?_)|refine ZK (ZX pl l) (fun _ _=>?_)|refine ZK (ZX pr r) (fun _ _=>?_)|refine ZK (V8 pl l) (fun _ _=>?_)|refine ZK (V8 pr r) (fun _ _=>?_)|refine ZK (bytesOf_ok pl l) (fun _ _=>?_)|refine ZK (bytesOf_ok pr r) (fun _ _=>?_)|refine ZI 1 [] [(0,0),(1,0),(2,0),(3,0),(4,0),(5,0),(6,0),(7,0),(8,0),(9,0),(10,0),(12,0),(16,0),(19,0),(22,0),(23,0),(24,0),(25,0),(26,0),(27,0),(30,0),(11,4),(13,4),(14,0),(15,0),(17,4),(18,0),(20,4),(21,0),(28,4),(29,0),(31,4),(32,0),(33,0),(34,1),(35,0)] [] ?_|fail)
 have e1:IntKind.i64.wrap (1+if (l.ht:Int)<r.ht then (r.ht:Int) else l.ht)=((Tr.node l a v r).ht:Int):=by
  rw [wrapi (by split<;>omega) (by split<;>omega)];simp only [Tr.ht];split<;>omega
 have e2:IntKind.i64.wrap (IntKind.i64.wrap (1+(l.sz:Int))+r.sz)=((Tr.node l a v r).sz:Int):=by
  rw [wrapi (z:=1+(l.sz:Int)) (by omega) (by omega),wrapi (by omega) (by omega)];simp only [Tr.sz];omega
 have e3:IntKind.i64.wrap (IntKind.i64.wrap ((v.size:Int)+l.by_)+r.by_)=((Tr.node l a v r).by_:Int):=by
  rw [wrapi (z:=(v.size:Int)+l.by_) (by omega) (by omega),wrapi (by omega) (by omega)];simp only [Tr.by_];omega
 rw [e1,e2,e3]
 refine Y7 ?_
 refine Zx (F1:=[Blk b (ndc pl pr a v (Tr.node l a v r).ht (Tr.node l a v r).sz (Tr.node l a v r).by_),TrF pl l,TrF pr r]) (f:=TrF (some ⟨b,0,none⟩) (.node l a v r)) (fun hp hF=>⟨b,pl,pr,rfl,hF (Blk b (ndc pl pr a v (Tr.node l a v r).ht (Tr.node l a v r).sz (Tr.node l a v r).by_)) (by simp),hF (TrF pl l) (by simp),hF (TrF pr r) (by simp)⟩) ?_
 exact ZD b rfl trivial
theorem nd_of {p:Option Addr} {l r:Tr} {a:Nm} {v:ByteArray} {h:H} (hh:TrP p (.node l a v r) h):(Nd p a v).p h:=
 let ⟨b,pl,pr,h1,h2,_,_⟩:=hh
 ⟨b,pl,pr,_,_,_,h1,h2⟩
variable {F0:List Pf}
section
variable {l:List Oper}
theorem k_tr {p:Option Addr} {l r:Tr} {a:Nm} {v:ByteArray} (t:∀b pl pr,p=some ⟨b,0,none⟩→Wk n C k Q E (Blk b (ndc pl pr a v (Tr.node l a v r).ht (Tr.node l a v r).sz (Tr.node l a v r).by_)::Nd p a v::TrF pl l::TrF pr r::F) R) (hs:Sel (TrF p (.node l a v r)) F F0:=by (repeat (first|exact Sel.here|apply Sel.there));first|done|fail):Wk n C k Q E F R:=by
 refine Zm (X:=Nat×Option Addr×Option Addr) (Fx:=fun x=>[Blk x.1 (ndc x.2.1 x.2.2 a v (Tr.node l a v r).ht (Tr.node l a v r).sz (Tr.node l a v r).by_),Nd p a v,TrF x.2.1 l,TrF x.2.2 r]) (p:=fun x=>p=some ⟨x.1,0,none⟩) (f:=TrF p (.node l a v r)) hs (fun h hh=>?_) (fun x hp=>t x.1 x.2.1 x.2.2 hp)
 have hn:=nd_of hh
 obtain ⟨b,pl,pr,h1,h2,h3,h4⟩:=hh
 refine ⟨(b,pl,pr),h1,fun f hf=>?_⟩
 simp only [List.mem_cons,List.not_mem_nil,or_false] at hf
 rcases hf with rfl|rfl|rfl|rfl
 ·exact h2
 ·exact hn
 ·exact h3
 ·exact h4
theorem k_trn {p:Option Addr} (t:p=none→Wk n C k Q E F R) (hs:Sel (TrF p .nil) F F0:=by (repeat (first|exact Sel.here|apply Sel.there));first|done|fail):Wk n C k Q E F R:=
 Zm (X:=Unit) (Fx:=fun _=>[]) (p:=fun _=>p=none) (f:=TrF p .nil) hs (fun h hh=>⟨(),hh,fun _ hx=>by cases hx⟩) (fun _ hp=>t hp)
end
set_option maxHeartbeats 2000000 in
theorem balance_ok (pl pm pr:Option Addr) (l r:Tr) (a:Nm) (v:ByteArray) (hs:l.sz+r.sz≤1099511627776) (hb:v.size+l.by_+r.by_≤1152921504606846976):Enters 112∧Spec prog 112 #[.pointer pl,.pointer pm,.pointer pr] [TrF pl l,Nd pm a v,TrF pr r] []
  ⟨Nat,fun b=>.pointer (some ⟨b,0,none⟩),fun _=>True,fun b=>[TrF (some ⟨b,0,none⟩) (Tr.bal l a v r)],fun _=>[]⟩:=by
 have hl:=l.ht_sz
 have hr:=r.ht_sz
 have w1:=wrapi (z:=(l.ht:Int) - r.ht) (by omega) (by omega)
 refine ZE [_,_,_] func112 ntmps112 fun G w hp=>?_
 generalize hbal:Tr.bal l a v r=t
 unfold Tr.bal at hbal
 have k1:=hs
 have k2:=hb
 by_cases h1:r.ht+1<l.ht
 ·rw [if_pos h1] at hbal
  cases l with
  | nil=>simp [Tr.ht] at h1
  | node ll la lv lr=>
   dsimp only at hbal
   simp only [Tr.sz] at k1
   simp only [Tr.by_] at k2
   refine k_tr (p:=pl) (l:=ll) (r:=lr) (a:=la) (v:=lv) (fun b pll plr hp=>?_)
   subst hp
   by_cases h2:lr.ht≤ll.ht
   ·rw [if_pos h2] at hbal
    subst hbal
    repeat' (first|refine ZC ?_|refine ZA (ZX _ (Tr.node ll la lv lr)) (fun _ _=>?_)|refine ZA (ZX pr r) (fun _ _=>?_)|refine ZK (ZX pll ll) (fun _ _=>?_)|refine ZK (ZX plr lr) (fun _ _=>?_)|refine ZK (YO plr pm pr lr r a v (by first|omega|(simp only [Tr.sz];omega)) (by first|omega|(simp only [Tr.by_];omega))) (fun _ _=>?_)|refine ZK (YO pll _ _ ll (.node lr a v r) la lv (by first|omega|(simp only [Tr.sz];omega)) (by first|omega|(simp only [Tr.by_];omega))) (fun _ _=>?_)|rw [w1]|(refine ZS (fun hc=>?_) (fun hc=>?_)<;>(try simp at hc)<;>(try omega))|refine ZI 2 [] [(0,0),(1,0),(2,0),(3,0),(4,0),(5,0),(6,0),(8,0),(9,0),(10,0),(11,0),(7,4),(12,4),(13,0),(14,0),(15,0)] [] ?_|refine ZI 3 [] [(0,0),(1,0),(2,0),(3,0),(4,0),(5,0),(6,0),(7,0),(8,0),(9,0),(10,0),(11,4),(12,4),(13,0)] [] ?_|(refine ZB (fun hc=>?_) (fun hc=>?_)<;>(try simp at hc)<;>(try omega))|fail)
    rename_i q _
    exact ZD q rfl trivial
   ·rw [if_neg h2] at hbal
    cases lr with
    | nil=>simp [Tr.ht] at h2
    | node il ia iv ir=>
     dsimp only at hbal
     subst hbal
     simp only [Tr.sz] at k1
     simp only [Tr.by_] at k2
     refine k_tr (p:=plr) (l:=il) (r:=ir) (a:=ia) (v:=iv) (fun b2 pil pir hp=>?_)
     subst hp
     repeat' (first|refine ZC ?_|refine ZA (ZX _ (Tr.node ll la lv (Tr.node il ia iv ir))) (fun _ _=>?_)|refine ZA (ZX pr r) (fun _ _=>?_)|refine ZK (ZX pll ll) (fun _ _=>?_)|refine ZK (ZX _ (Tr.node il ia iv ir)) (fun _ _=>?_)|refine ZK (YO pll _ pil ll il la lv (by first|omega|(simp only [Tr.sz];omega)) (by first|omega|(simp only [Tr.by_];omega))) (fun _ _=>?_)|refine ZK (YO pir pm pr ir r a v (by first|omega|(simp only [Tr.sz];omega)) (by first|omega|(simp only [Tr.by_];omega))) (fun _ _=>?_)|refine ZK (YO _ _ _ (.node ll la lv il) (.node ir a v r) ia iv (by first|omega|(simp only [Tr.sz];omega)) (by first|omega|(simp only [Tr.by_];omega))) (fun _ _=>?_)|rw [w1]|(refine ZS (fun hc=>?_) (fun hc=>?_)<;>(try simp at hc)<;>(try omega))|refine ZI 2 [] [(0,0),(1,0),(2,0),(3,0),(4,0),(5,0),(6,0),(8,0),(9,0),(10,0),(11,0),(7,4),(12,4),(13,0),(14,0),(15,0)] [] ?_|refine ZI 6 [] [(0,0),(1,0),(2,0),(3,0),(4,0),(5,0),(6,0),(7,0),(8,0),(10,0),(11,0),(12,0),(13,0),(14,0),(15,0),(16,0),(9,4),(17,4),(18,4),(19,0)] [] ?_|(refine ZB (fun hc=>?_) (fun hc=>?_)<;>(try simp at hc)<;>(try omega))|fail)
     rename_i q _
     exact ZD q rfl trivial
 ·rw [if_neg h1] at hbal
  by_cases h3:l.ht+1<r.ht
  ·rw [if_pos h3] at hbal
   cases r with
   | nil=>simp [Tr.ht] at h3
   | node rl ra rv rr=>
    dsimp only at hbal
    simp only [Tr.sz] at k1
    simp only [Tr.by_] at k2
    refine k_tr (p:=pr) (l:=rl) (r:=rr) (a:=ra) (v:=rv) (fun b prl prr hp=>?_)
    subst hp
    by_cases h2:rl.ht≤rr.ht
    ·rw [if_pos h2] at hbal
     subst hbal
     repeat' (first|refine ZC ?_|refine ZA (ZX pl l) (fun _ _=>?_)|refine ZA (ZX _ (Tr.node rl ra rv rr)) (fun _ _=>?_)|refine ZK (ZX prl rl) (fun _ _=>?_)|refine ZK (ZX prr rr) (fun _ _=>?_)|refine ZK (YO pl pm prl l rl a v (by first|omega|(simp only [Tr.sz];omega)) (by first|omega|(simp only [Tr.by_];omega))) (fun _ _=>?_)|refine ZK (YO _ _ prr (.node l a v rl) rr ra rv (by first|omega|(simp only [Tr.sz];omega)) (by first|omega|(simp only [Tr.by_];omega))) (fun _ _=>?_)|rw [w1]|(refine ZS (fun hc=>?_) (fun hc=>?_)<;>(try simp at hc)<;>(try omega))|refine ZI 2 [] [(0,0),(1,0),(2,0),(3,0),(4,0),(5,0),(6,0),(8,0),(9,0),(10,0),(11,0),(7,4),(12,4),(13,0),(14,0),(15,0)] [] ?_|refine ZI 7 [] [(0,0),(1,0),(2,0),(3,0),(4,0),(5,0),(6,0),(8,0),(9,0),(10,0),(11,0),(7,4),(12,4),(13,0),(14,0),(15,0)] [] ?_|refine ZI 8 [] [(0,0),(1,0),(2,0),(3,0),(4,0),(5,0),(7,0),(8,0),(9,0),(10,0),(11,0),(6,4),(12,4),(13,0)] [] ?_|(refine ZB (fun hc=>?_) (fun hc=>?_)<;>(try simp at hc)<;>(try omega))|fail)
     rename_i q _
     exact ZD q rfl trivial
    ·rw [if_neg h2] at hbal
     cases rl with
     | nil=>simp [Tr.ht] at h2
     | node il ia iv ir=>
      dsimp only at hbal
      subst hbal
      simp only [Tr.sz] at k1
      simp only [Tr.by_] at k2
      refine k_tr (p:=prl) (l:=il) (r:=ir) (a:=ia) (v:=iv) (fun b2 pil pir hp=>?_)
      subst hp
      repeat' (first|refine ZC ?_|refine ZA (ZX pl l) (fun _ _=>?_)|refine ZA (ZX _ (Tr.node (Tr.node il ia iv ir) ra rv rr)) (fun _ _=>?_)|refine ZK (ZX prr rr) (fun _ _=>?_)|refine ZK (ZX _ (Tr.node il ia iv ir)) (fun _ _=>?_)|refine ZK (YO pl pm pil l il a v (by first|omega|(simp only [Tr.sz];omega)) (by first|omega|(simp only [Tr.by_];omega))) (fun _ _=>?_)|refine ZK (YO pir _ prr ir rr ra rv (by first|omega|(simp only [Tr.sz];omega)) (by first|omega|(simp only [Tr.by_];omega))) (fun _ _=>?_)|refine ZK (YO _ _ _ (.node l a v il) (.node ir ra rv rr) ia iv (by first|omega|(simp only [Tr.sz];omega)) (by first|omega|(simp only [Tr.by_];omega))) (fun _ _=>?_)|rw [w1]|(refine ZS (fun hc=>?_) (fun hc=>?_)<;>(try simp at hc)<;>(try omega))|refine ZI 2 [] [(0,0),(1,0),(2,0),(3,0),(4,0),(5,0),(6,0),(8,0),(9,0),(10,0),(11,0),(7,4),(12,4),(13,0),(14,0),(15,0)] [] ?_|refine ZI 7 [] [(0,0),(1,0),(2,0),(3,0),(4,0),(5,0),(6,0),(8,0),(9,0),(10,0),(11,0),(7,4),(12,4),(13,0),(14,0),(15,0)] [] ?_|refine ZI 11 [] [(0,0),(1,0),(2,0),(3,0),(4,0),(5,0),(7,0),(8,0),(9,0),(10,0),(11,0),(12,0),(13,0),(14,0),(15,0),(16,0),(6,4),(17,4),(18,4),(19,0)] [] ?_|(refine ZB (fun hc=>?_) (fun hc=>?_)<;>(try simp at hc)<;>(try omega))|fail)
      rename_i q _
      exact ZD q rfl trivial
  ·rw [if_neg h3] at hbal
   subst hbal
   repeat' (first|refine ZC ?_|refine ZA (ZX pl l) (fun _ _=>?_)|refine ZA (ZX pr r) (fun _ _=>?_)|refine ZA (YO pl pm pr l r a v hs hb) (fun _ _=>?_)|rw [w1]|(refine ZS (fun hc=>?_) (fun hc=>?_)<;>(try simp at hc)<;>(try omega))|refine ZI 2 [] [(0,0),(1,0),(2,0),(3,0),(4,0),(5,0),(6,0),(8,0),(9,0),(10,0),(11,0),(7,4),(12,4),(13,0),(14,0),(15,0)] [] ?_|refine ZI 7 [] [(0,0),(1,0),(2,0),(3,0),(4,0),(5,0),(6,0),(8,0),(9,0),(10,0),(11,0),(7,4),(12,4),(13,0),(14,0),(15,0)] [] ?_|(refine ZB (fun hc=>?_) (fun hc=>?_)<;>(try simp at hc)<;>(try omega))|fail)
   rename_i q _
   exact ZD q rfl trivial
theorem sz_bal (l:Tr) (a:Nm) (v:ByteArray) (r:Tr):(Tr.bal l a v r).sz=1+l.sz+r.sz:=by
 rw [Tr.sz_els,Tr.els_bal,Tr.sz_els l,Tr.sz_els r];simp;omega
theorem by_bal (l:Tr) (a:Nm) (v:ByteArray) (r:Tr):(Tr.bal l a v r).by_=v.size+l.by_+r.by_:=by
 rw [Tr.by_els,Tr.els_bal,Tr.by_els l,Tr.by_els r];simp [Tr.ab];omega
theorem sz_put (a:Nm) (v:ByteArray):∀t:Tr,(Tr.put a v t).sz≤t.sz+1
 | .nil=>by simp [Tr.put,Tr.sz]
 | .node l b u r=>by
  have:=sz_put a v l
  have:=sz_put a v r
  unfold Tr.put
  split
  ·rw [sz_bal];simp only [Tr.sz];omega
  ·split
   ·rw [sz_bal];simp only [Tr.sz];omega
   ·simp only [Tr.sz];omega
theorem by_put (a:Nm) (v:ByteArray):∀t:Tr,(Tr.put a v t).by_≤t.by_+v.size
 | .nil=>by simp [Tr.put,Tr.by_]
 | .node l b u r=>by
  have:=by_put a v l
  have:=by_put a v r
  unfold Tr.put
  split
  ·rw [by_bal];simp only [Tr.by_];omega
  ·split
   ·rw [by_bal];simp only [Tr.by_];omega
   ·simp only [Tr.by_];omega
structure Okt (t:Tr):Prop where
 s:t.sz≤1000000
 b:t.by_≤1000000000000
 o:∀x ∈ t.els,x.1.owner.size≤1099511627770
theorem Okt.l {l r:Tr} {b:Nm} {u:ByteArray} (h:Okt (.node l b u r)):Okt l:=by
 have h1:=h.s
 have h2:=h.b
 simp only [Tr.sz] at h1
 simp only [Tr.by_] at h2
 exact ⟨by omega,by omega,fun x hx=>h.o x (by simp [Tr.els,hx])⟩
theorem Okt.r {l r:Tr} {b:Nm} {u:ByteArray} (h:Okt (.node l b u r)):Okt r:=by
 have h1:=h.s
 have h2:=h.b
 simp only [Tr.sz] at h1
 simp only [Tr.by_] at h2
 exact ⟨by omega,by omega,fun x hx=>h.o x (by simp [Tr.els,hx])⟩
theorem Okt.m {l r:Tr} {b:Nm} {u:ByteArray} (h:Okt (.node l b u r)):b.owner.size≤1099511627770:=h.o (b,u) (by simp [Tr.els])
section
theorem l_nd {ops l:List Oper} {p:Option Addr} {a:Nm} {v:ByteArray} (t:∀b pl pr x y z,p=some ⟨b,0,none⟩→Wl n C ops.toArray k Q l E (Blk b (ndc pl pr a v x y z)::F) R) (hs:Sel (Nd p a v) F F0:=by (repeat (first|exact Sel.here|apply Sel.there));first|done|fail):Wl n C ops.toArray k Q l E F R:=
 l_fact (X:=Nat×Option Addr×Option Addr×Int×Int×Int) (Fx:=fun x=>[Blk x.1 (ndc x.2.1 x.2.2.1 a v x.2.2.2.1 x.2.2.2.2.1 x.2.2.2.2.2)]) (p:=fun x=>p=some ⟨x.1,0,none⟩) (f:=Nd p a v) hs (fun h ⟨b,pl,pr,x,y,z,h1,h2⟩=>⟨(b,pl,pr,x,y,z),h1,fun f hf=>by simp at hf;subst hf;exact h2⟩) (fun x hp=>t x.1 x.2.1 x.2.2.1 x.2.2.2.1 x.2.2.2.2.1 x.2.2.2.2.2 hp)
theorem k_nd {p:Option Addr} {a:Nm} {v:ByteArray} (t:∀b pl pr x y z,p=some ⟨b,0,none⟩→Wk n C k Q E (Blk b (ndc pl pr a v x y z)::F) R) (hs:Sel (Nd p a v) F F0:=by (repeat (first|exact Sel.here|apply Sel.there));first|done|fail):Wk n C k Q E F R:=
 Zm (X:=Nat×Option Addr×Option Addr×Int×Int×Int) (Fx:=fun x=>[Blk x.1 (ndc x.2.1 x.2.2.1 a v x.2.2.2.1 x.2.2.2.2.1 x.2.2.2.2.2)]) (p:=fun x=>p=some ⟨x.1,0,none⟩) (f:=Nd p a v) hs (fun h ⟨b,pl,pr,x,y,z,h1,h2⟩=>⟨(b,pl,pr,x,y,z),h1,fun f hf=>by simp at hf;subst hf;exact h2⟩) (fun x hp=>t x.1 x.2.1 x.2.2.1 x.2.2.2.1 x.2.2.2.2.1 x.2.2.2.2.2 hp)
end
def PtrPost (t:Tr):Post:=⟨Nat,fun b=>.pointer (some ⟨b,0,none⟩),fun _=>True,fun b=>[TrF (some ⟨b,0,none⟩) t],fun _=>[]⟩
set_option maxHeartbeats 1000000 in
theorem with_ok (a:Nm) (v:ByteArray) (pm:Option Addr) (ha:a.owner.size≤1099511627770) (hv:v.size≤1000000):∀(t:Tr) (p:Option Addr),Okt t→Enters 86∧Spec prog 86 #[.pointer p,.pointer pm] [TrF p t,Nd pm a v] [] (PtrPost (Tr.put a v t)):=by
 intro t
 induction t with
 | nil=>
  intro p hok
  refine ZE [_,_] func86 ntmps86 fun G w hp=>?_
  refine k_trn fun hp=>?_
  subst hp
  refine Yw (f:=TrF none .nil) (fun _=>rfl) ?_
  repeat' (first|refine ZC ?_|refine ZA (YO none pm none .nil .nil a v (by simp [Tr.sz]) (by simp [Tr.by_];omega)) (fun _ _=>?_)|fail)
  rename_i q _
  exact ZD q rfl trivial
 | node l b u r ihl ihr=>
  intro p hok
  have hl:=ihl
  have h1:=hok.s
  have h2:=hok.b
  simp only [Tr.sz] at h1
  simp only [Tr.by_] at h2
  have s1:=sz_put a v l
  have s2:=sz_put a v r
  have b1:=by_put a v l
  have b2:=by_put a v r
  refine ZE [_,_] func86 ntmps86 fun G w hp=>?_
  refine k_tr (p:=p) (l:=l) (r:=r) (a:=b) (v:=u) (fun bb pl pr hp=>?_)
  subst hp
  refine k_nd (p:=pm) (a:=a) (v:=v) (fun bm pl' pr' x y z hp=>?_)
  subst hp
  generalize hput:Tr.put a v (.node l b u r)=t
  unfold Tr.put at hput
  repeat' (first|refine ZC ?_|refine ZK (Uh a b ha hok.m) (fun _ _=>?_)|refine ZK (ihl pl hok.l) (fun _ _=>?_)|refine ZK (ihr pr hok.r) (fun _ _=>?_)|refine ZK (balance_ok _ _ pr (Tr.put a v l) r b u (by omega) (by omega)) (fun _ _=>?_)|refine ZK (balance_ok pl _ _ l (Tr.put a v r) b u (by omega) (by omega)) (fun _ _=>?_)|refine ZK (YO pl _ pr l r a v (by omega) (by omega)) (fun _ _=>?_)|refine ZI 3 [] [(0,0),(1,0),(2,0),(3,0),(4,0),(5,0),(6,0),(7,0),(8,4),(9,0)] [] ?_|refine ZI 5 [] [(0,0),(1,0),(2,0),(3,0),(4,0),(6,0),(7,0),(8,0),(9,0),(10,0),(5,4),(11,4),(12,0)] [] ?_|refine ZI 7 [] [(0,0),(1,0),(2,0),(3,0),(4,0),(5,0),(6,0),(7,0),(8,0),(9,0),(10,4),(11,4),(12,0)] [] ?_|refine ZI 8 [] [(0,0),(1,0),(2,0),(3,0),(4,0),(5,0),(6,0),(7,0),(8,0),(9,4),(10,0)] [] ?_|(refine ZB (fun hc=>?_) (fun hc=>?_)<;>(try simp at hc))|fail)
  all_goals rename_i q _
  ·rw [if_pos hc] at hput
   subst hput
   exact ZD q rfl trivial
  ·rw [if_neg (by omega),if_pos hc] at hput
   subst hput
   exact ZD q rfl trivial
  ·rw [if_neg (by omega),if_neg (by omega)] at hput
   subst hput
   exact ZD q rfl trivial
def FdF (q:Option Addr) (r:Option ByteArray):Pf:=
 match r with
 | none=>⟨fun _=>q=none,fun _ _ _ h=>h⟩
 | some v=>⟨fun h=>∃a,(Nd q a v).p h,fun _ _ s ⟨a,h⟩=>⟨a,(Nd q a v).m _ _ s h⟩⟩
structure FX (a:Nm) (t:Tr) where
 q:Option Addr
 s:Tr
 h1:Tr.find a t=Tr.find a s
 h2:Okt s
set_option maxHeartbeats 1000000 in
theorem find_ok (a:Nm) (ha:a.owner.size≤1099511627770) (t:Tr) (p:Option Addr) (ht:Okt t):Enters 85∧Spec prog 85 #[.pointer p,a.v] [TrF p t] [] ⟨Option Addr,fun q=>.pointer q,fun _=>True,fun q=>[FdF q (Tr.find a t)],fun _=>[]⟩:=by
 refine ZE [_,_] func85 ntmps85 fun G w hp=>?_
 repeat' (first|refine ZC ?_|refine ZH (fun b=>?_)|fail)
 refine Zj (X:=FX a t) (fun x=>[(0,.pointer x.q),(3,.pointer (some ⟨b,0,none⟩))]) (fun x=>[TrF x.q x.s]) (fun _=>[Pt b (.cells #[.int .i64 a.kind,.string a.owner,.int .i64 a.number,.int .i64 a.index,.string a.text] 120)]) (fun x=>x.s.sz) ⟨p,t,rfl,ht⟩ ⟨rfl,rfl,trivial⟩ ?_
 rintro ⟨q,s,h1,h2⟩
 dsimp only
 cases s with
 | nil=>
  refine k_trn fun hp=>?_
  subst hp
  rw [Tr.find] at h1
  repeat' (first|refine ZC ?_|refine ZM ?_|fail)
  rw [h1]
  refine Zx (F1:=[]) (f:=FdF none none) (fun _ _=>rfl) ?_
  exact ZD none rfl trivial
 | node l c u r=>
  refine k_tr (p:=q) (l:=l) (r:=r) (a:=c) (v:=u) (fun bb pl pr hp=>?_)
  subst hp
  rw [Tr.find] at h1
  repeat' (first|refine ZC ?_|refine ZK (Uh a c ha h2.m) (fun _ _=>?_)|refine ZI 2 [] [(0,0),(1,0),(2,0),(3,0),(4,0),(5,4),(6,0)] [] ?_|(refine ZB (fun hc=>?_) (fun hc=>?_)<;>(try simp at hc))|fail)
  ·rw [if_pos hc] at h1
   refine Zx (F1:=[Nd (some ⟨bb,0,none⟩) c u]) (f:=FdF (some ⟨bb,0,none⟩) (Tr.find a t)) (fun hp hF=>by rw [h1];exact ⟨c,hF _ (by simp)⟩) ?_
   exact Zz (Z5 (Zg (some ⟨bb,0,none⟩) rfl trivial))
  ·rw [if_neg (by omega),if_pos hc] at h1
   exact ZJ ⟨pl,l,h1,h2.l⟩ (by simp only [Tr.sz];omega) ⟨rfl,rfl,trivial⟩
  ·rw [if_neg (by omega),if_neg (by omega)] at h1
   exact ZJ ⟨pr,r,h1,h2.r⟩ (by simp only [Tr.sz];omega) ⟨rfl,rfl,trivial⟩
def StF (ps:Option Addr) (t:Tr):Pf:=⟨fun h=>∃b p,ps=some ⟨b,0,none⟩∧h b=some (.cells #[.pointer p] 126)∧TrP p t h,fun h k s ⟨b,p,h1,h2,h3⟩=>⟨b,p,h1,s _ _ h2,Vt t p h k s h3⟩⟩
structure StOK (es:Al):Prop where
 srt:Srt es
 len:es.length≤65536
 own:∀x ∈ es,x.1.owner.size≤1099511627770
 val:∀x ∈ es,x.2.size≤65536
def St (ps:Option Addr) (es:Al):Pf:=⟨fun h=>∃t:Tr,t.els=es∧StOK es∧(StF ps t).p h,fun _ _ s ⟨t,h1,h2,h3⟩=>⟨t,h1,h2,(StF ps t).m _ _ s h3⟩⟩
theorem ab_le {m:Nat}:∀{l:Al},(∀x ∈ l,x.2.size≤m)→Tr.ab l≤l.length * m
 | [],_=>by simp [Tr.ab]
 | x::l,h=>by
  have h1:=ab_le (l:=l) fun y hy=>h y (List.mem_cons_of_mem _ hy)
  have h2:=h x (by simp)
  simp only [Tr.ab,List.map_cons,List.sum_cons,List.length_cons] at h1 ⊢
  rw [Nat.succ_mul];omega
theorem StOK.okt {t:Tr} (h:StOK t.els):Okt t:=by
 have h1:=ab_le h.val
 have h2:=h.len
 refine ⟨by rw [Tr.sz_els];omega,?_,h.own⟩
 rw [Tr.by_els]
 have:t.els.length * 65536≤65536 * 65536:=Nat.mul_le_mul_right _ h2
 omega
section
theorem k_st {ps:Option Addr} {es:Al} (t:∀b p (t:Tr),ps=some ⟨b,0,none⟩→t.els=es→StOK es→Wk n C k Q E (Blk b (.cells #[.pointer p] 126)::TrF p t::F) R) (hs:Sel (St ps es) F F0:=by (repeat (first|exact Sel.here|apply Sel.there));first|done|fail):Wk n C k Q E F R:=
 Zm (X:=Nat×Option Addr×Tr) (Fx:=fun x=>[Blk x.1 (.cells #[.pointer x.2.1] 126),TrF x.2.1 x.2.2]) (p:=fun x=>ps=some ⟨x.1,0,none⟩∧x.2.2.els=es∧StOK es) (f:=St ps es) hs
  (fun h ⟨t,h1,h2,b,p,h3,h4,h5⟩=>⟨(b,p,t),⟨h3,h1,h2⟩,fun f hf=>by
   simp only [List.mem_cons,List.not_mem_nil,or_false] at hf
   rcases hf with rfl|rfl
   ·exact h4
   ·exact h5⟩) (fun x hp=>t x.1 x.2.1 x.2.2 hp.1 hp.2.1 hp.2.2)
end
theorem UW:Enters 23∧Spec prog 23 #[] [] [] ⟨Nat,fun b=>.pointer (some ⟨b,0,none⟩),fun _=>True,fun b=>[St (some ⟨b,0,none⟩) []],fun _=>[]⟩:=by
 refine ZE [] func23 ntmps23 fun G w hp=>?_
 repeat' (first|refine ZC ?_|refine ZH (fun b=>?_)|fail)
 refine Y7 ?_
 refine Zx (F1:=[Blk b (.cells #[.pointer none] 126)]) (f:=St (some ⟨b,0,none⟩) []) (fun hp hF=>⟨.nil,rfl,⟨List.Pairwise.nil,by simp,by simp,by simp⟩,b,none,rfl,hF (Blk b (.cells #[.pointer none] 126)) (by simp),rfl⟩) ?_
 exact ZD b rfl trivial
theorem UY (ps:Option Addr) (es:Al):Enters 84∧Spec prog 84 #[.pointer ps] [St ps es] [] (RetV (.int .i64 (es.length:Int))):=by
 refine ZE [_] func84 ntmps84 fun G w hp=>?_
 refine k_st (ps:=ps) (es:=es) (fun b p t hp he hok=>?_)
 subst hp
 subst he
 rw [←Tr.sz_els]
 repeat' (first|refine ZC ?_|refine ZA (V8 p t) (fun _ _=>?_)|fail)
 exact ZD () rfl trivial
theorem stateGet_ok (ps:Option Addr) (es:Al) (a:Nm) (ha:a.owner.size≤1099511627770):Enters 67∧Spec prog 67 #[.pointer ps,a.v] [St ps es] [] (RetV (.tuple #[.string ((getO a es).getD ⟨#[]⟩),.bool (getO a es).isSome])):=by
 refine ZE [_,_] func67 ntmps67 fun G w hp=>?_
 refine k_st (ps:=ps) (es:=es) (fun b p t hp he hok=>?_)
 subst hp
 subst he
 rw [←Vi a t hok.srt]
 have hf:=find_ok a ha t p hok.okt
 cases hfd:Tr.find a t with
 | none=>
  rw [hfd] at hf
  repeat' (first|refine ZC ?_|refine ZH (fun b=>?_)|refine ZK (hf) (fun _ _=>?_)|refine ZI 3 [] [(0,0),(1,0),(2,0),(3,0),(4,0),(5,4),(6,0)] [] ?_|fail)
  rename_i q _
  refine l_fact (X:=Unit) (Fx:=fun _=>[]) (p:=fun _=>q=none) (f:=FdF q none) .here (fun h hh=>⟨(),hh,fun _ hx=>by cases hx⟩) (fun _ hp=>?_)
  subst hp
  repeat' (first|refine ZC ?_|fail)
  exact ZD () rfl trivial
 | some v=>
  rw [hfd] at hf
  repeat' (first|refine ZC ?_|refine ZH (fun b=>?_)|refine ZK (hf) (fun _ _=>?_)|refine ZI 3 [] [(0,0),(1,0),(2,0),(3,0),(4,0),(5,4),(6,0)] [] ?_|fail)
  rename_i q _
  refine l_fact (X:=Nm) (Fx:=fun a=>[Nd q a v]) (p:=fun _=>True) (f:=FdF q (some v)) .here (fun h ⟨a,hh⟩=>⟨a,trivial,fun f hf=>by simp at hf;subst hf;exact hh⟩) (fun a' _=>?_)
  refine l_nd (p:=q) (a:=a') (v:=v) (fun bm pl' pr' x y z hp=>?_)
  subst hp
  repeat' (first|refine ZC ?_|fail)
  exact ZD () rfl trivial
variable {F' Fs:List Pf} {R' Rs N N' A:List HP} {k':List Fr} {L L':List (Nat×Nat)} {Tl:List Nat}
section
def ImpR (F:List Pf) (N:List HP) (F':List Pf) (N':List HP):Prop:=∀G w hp w',Sat G w hp F N w'→Sat G w hp F' N' w'
theorem ImpR.more {F F':List Pf} {N N':List HP} (h:ImpR F N F' N') (r:HP):ImpR F (r::N) F' (r::N'):=by
 intro G w hp w' hs
 have h0:Sat G w hp F (N++[r]) w':=hs.res fun k hk=>by
  have:=(WN N r []).sep (h:=k) (by simpa using hk)
  simpa using this
 obtain ⟨G',hp',h1,h2⟩:=W1 (F1:=F) (A:=N) (R':=[r]) (hs:=h0) (sel:=by
  have:∀(A B:List HP),Sels A (A++B) B:=fun A B=>by
   induction A with
   | nil=>exact .nil
   | cons x A ih=>exact .cons .here ih
  exact this N [r]) fun _ h=>h
 have h3:=h2 _ _ _ (h _ _ _ _ h1)
 refine (h3.facts (F':=F') fun hp hF x hx=>hF x (List.mem_append_left _ hx)).res fun k hk=>?_
 obtain ⟨k1,k2,d,s1,s2,a1,a2⟩:=YV hk
 obtain ⟨j1,j2,d',t1,t2,b1,_⟩:=a2
 exact ⟨j1,k1,(d.symm.sub t1),t1.trans s2,s1,b1,a1⟩
section
variable {P:Program} {T:Tab} {ds:List Deferred} {ops:Array Oper} {End:Env→List Pf→List HP→Prop}
theorem WS.imp (hEnd:∀e F N F' N',ImpR F N F' N'→End e F' N'→End e F N):∀(L:List (Nat×Nat)) (hs:H) (e:Env) (F:List Pf) (N:List HP) (F':List Pf) (N':List HP),(L.all fun y=>y.2 != 5)=true→ImpR F N F' N'→WS P T n ds ops hs End L e F' N'→WS P T n ds ops hs End L e F N
 | [],_,e,F,N,F',N',_,p,h=>hEnd e F N F' N' p h
 | (i,k)::L,hs,e,F,N,F',N',h5,p,h=>by
  rw [List.all_cons,Bool.and_eq_true] at h5
  obtain ⟨h50,h5⟩:=h5
  intro o ho
  have h:=h o ho
  cases hw:wantF ops e o with
  | none=>simp only [hw] at h
  | some b=>
   cases b with
   | false=>
    simp only [hw] at h
    exact WS.imp hEnd L _ _ F N F' N' h5 p h
   | true=>
    simp only [hw] at h
    split at h
    ·obtain ⟨v,h1,h2⟩:=h
     exact ⟨v,h1,WS.imp hEnd L _ _ F N F' N' h5 p h2⟩
    ·obtain ⟨obj,mk,h1,h2⟩:=h
     exact ⟨obj,mk,h1,fun b=>WS.imp hEnd L _ _ F (Pt b obj::N) F' (Pt b obj::N') h5 (p.more _) (h2 b)⟩
    ·obtain ⟨obj,mk,h1,h2⟩:=h
     exact ⟨obj,mk,h1,fun b hb=>WS.imp hEnd L _ _ F N F' N' h5 p (h2 b hb)⟩
    ·obtain ⟨v,h1,h2⟩:=h
     exact ⟨v,fun a G w hp ha hsub hsat=>h1 a G w hp ha hsub (p _ _ _ _ hsat),WS.imp hEnd L _ _ F N F' N' h5 p h2⟩
    ·obtain ⟨post,h1,h2⟩:=h
     exact ⟨post,fun a G w hp ha hsub hsat=>h1 a G w hp ha hsub (p _ _ _ _ hsat),h2⟩
    ·cases h50
    ·exact h.elim
end
variable {l:List Oper}
theorem r_imp (p:ImpR F N F' N') (t:Wr n C ops k Q Tl Fs R L E F' N') (h5:(L.all fun y=>y.2 != 5)=true):Wr n C ops k Q Tl Fs R L E F N:=fun hp hr w st hz sb=>
 WS.imp (fun _ _ _ _ _ p h a w ha hs=>h a w ha (p _ _ _ _ hs)) L _ _ F N F' N' h5 p (t hp hr w st hz sb)
theorem r_fz {b:Nat} {o:Obj} (t:Wr n C ops k Q Tl Fs R L E (Blk b o::F) N') (hs:Sel (Pt b o) N N':=by (repeat (first|exact Sel.here|apply Sel.there));first|done|fail) (h5:(L.all fun y=>y.2 != 5)=true:=by rfl):Wr n C ops k Q Tl Fs R L E F N:=
 r_imp (fun _ _ _ _ h=>(h.sel hs).freeze) t h5
theorem r_mk {f:Pf} (h:∀hp,(∀x ∈ F1,x.p hp)→f.p hp) (t:Wr n C ops k Q Tl Fs R L E (f::F) N) (hF:EntF F F1:=by (repeat (first|exact trivial|exact Sel.here|apply Sel.there|apply EntF.cons));first|done|fail) (h5:(L.all fun y=>y.2 != 5)=true:=by rfl):Wr n C ops k Q Tl Fs R L E F N:=
 r_imp (fun _ _ _ _ ⟨hp,_,st⟩=>XP st (h hp (hF.all hp st.f))) t h5
theorem Spec.imp {P:Program} {f:FuncId} {args:Array Value} {post post':Post} (h:Spec P f args F R post)
  (k:∀G w hp x w',post.pure x→Sat G w hp (post.F x) (post.R x) w'→post'.holds G w hp (.returned (post.val x)) w'):Spec P f args F R post':=fun G w hp hs=>
 (h G w hp hs).mono (by rintro e w' ⟨x,rfl,hx,hs⟩;exact k G w hp x w' hx hs)
end
theorem find_none {a:Nm} (ha:a.owner.size≤1099511627770) {t:Tr} (p:Option Addr) (ht:Okt t) (hf:Tr.find a t=none):Enters 85∧Spec prog 85 #[.pointer p,a.v] [TrF p t] [] (RetV (.pointer none)):=by
 have h:=find_ok a ha t p ht
 rw [hf] at h
 refine ⟨h.1,h.2.imp ?_⟩
 rintro G w hp q w' _ ⟨hp',hr,st⟩
 have hq:q=none:=st.f (FdF q none) (by simp)
 subst hq
 exact ⟨(),rfl,trivial,hp',hr,st.inp,st.inr,st.ing,st.d1,st.d2,st.d3,st.sub,(fun _ h=>by cases h),st.r,st.same⟩
theorem find_some {a:Nm} (ha:a.owner.size≤1099511627770) {t:Tr} (p:Option Addr) (ht:Okt t) {v:ByteArray} (hf:Tr.find a t=some v):Enters 85∧Spec prog 85 #[.pointer p,a.v] [TrF p t] []
  ⟨Nat,fun b=>.pointer (some ⟨b,0,none⟩),fun _=>True,fun b=>[FdF (some ⟨b,0,none⟩) (some v)],fun _=>[]⟩:=by
 have h:=find_ok a ha t p ht
 rw [hf] at h
 refine ⟨h.1,h.2.imp ?_⟩
 rintro G w hp q w' _ hs
 obtain ⟨hp',hr,st⟩:=hs
 obtain ⟨a',b,pl,pr,x,y,z,hq,h2⟩:∃a',(Nd q a' v).p hp':=st.f (FdF q (some v)) (by simp)
 subst hq
 exact ⟨b,rfl,trivial,hp',hr,st⟩
theorem insO_same (a:Nm) (v:ByteArray):∀l:Al,Srt l→getO a l≠none→(insO a v l).length=l.length
 | [],_,h=>absurd rfl h
 | (b,u)::l,hs,h=>by
  have hp:=List.pairwise_cons.1 hs
  rw [getO] at h
  unfold insO
  by_cases h0:cmpO a b=0
  ·rw [if_neg (by omega),if_neg (by omega)];simp
  ·rw [if_neg h0] at h
   split
   ·rename_i hc
    exact absurd (Xm fun x hx=>by have:=XT hc (hp.1 x hx);omega) h
   ·rw [if_pos (by omega)]
    simp [insO_same a v l hp.2 h]
def withE (es:Al) (a:Nm) (v:ByteArray):Int:=if nchk a≠0 then 12 else if 65536<v.size then 5 else if 65536≤es.length∧getO a es=none then 9 else 0
def StR (q:Option Addr) (e:Int) (es:Al):Pf:=if e=0 then St q es else ⟨fun _=>q=none,fun _ _ _ h=>h⟩
theorem stOK_ins {es:Al} {a:Nm} {v:ByteArray} (h:StOK es) (ha:a.owner.size≤1099511627770) (he:withE es a v=0):StOK (insO a v es):=by
 have hl:=h.len
 have h1:=WU a v es
 unfold withE at he
 split at he
 ·cases he
 ·split at he
  ·cases he
  ·split at he
   ·cases he
   ·rename_i h3 h4 h5
    refine ⟨srt_ins a v es h.srt,?_,fun x hx=>?_,fun x hx=>?_⟩
    ·by_cases h6:getO a es=none
     ·have:¬65536≤es.length:=fun h7=>h5 ⟨h7,h6⟩
      omega
     ·rw [insO_same a v es h.srt h6];exact hl
    ·rcases WZ a v es x hx with rfl|hx
     ·exact ha
     ·exact h.own x hx
    ·rcases WZ a v es x hx with rfl|hx
     ·show v.size≤65536;omega
     ·exact h.val x hx
set_option maxHeartbeats 1000000 in
theorem Ve (ps:Option Addr) (es:Al) (a:Nm) (v:ByteArray) (ha:a.owner.size≤1099511627770) (hat:a.text.size≤1099511627776):Enters 53∧Spec prog 53 #[.pointer ps,a.v,.string v] [St ps es,Usg] []
  ⟨Option Addr,fun q=>.tuple #[.pointer q,.int .i64 (withE es a v)],fun _=>True,fun q=>[StR q (withE es a v) (insO a v es)],fun _=>[]⟩:=by
 have hchk:=nameCheck_ok a (by omega) hat
 refine ZE [_,_,_] func53 ntmps53 fun G w hp=>?_
 refine Zx (F1:=[St ps es]) (f:=St ps es) (fun hp hF=>hF _ (by simp)) ?_
 refine k_st (ps:=ps) (es:=es) (fun bs p t hp he hok=>?_)
 have hst:∀q:Option Addr,q=none→withE es a v≠0→∀hp:H,(StR q (withE es a v) (insO a v es)).p hp:=fun q hq hne hp=>by
  unfold StR;rw [if_neg hne];exact hq
 subst hp
 by_cases h1:nchk a=0
 ·rw [h1] at hchk
  by_cases h2:65536<v.size
  ·have he:withE es a v=5:=by rw [withE,if_neg (by simp [h1]),if_pos h2]
   rw [he] at hst ⊢
   repeat' (first|refine ZC ?_|refine ZH (fun b=>?_)|refine ZA (hchk) (fun _ _=>?_)|(refine ZB (fun hc=>?_) (fun hc=>?_)<;>(try simp at hc)<;>(try omega))|fail)
   refine Yw (hst none rfl (by decide)) ?_
   exact ZD none rfl trivial
  ·have hfd:=Vi a t (he ▸ hok.srt)
   by_cases h3:65536≤es.length∧getO a es=none
   ·have he9:withE es a v=9:=by rw [withE,if_neg (by simp [h1]),if_neg h2,if_pos h3]
    rw [he9] at hst ⊢
    repeat' (first|refine ZC ?_|refine ZH (fun b=>?_)|refine ZA (hchk) (fun _ _=>?_)|refine ZK (UY (some ⟨bs,0,none⟩) es) (fun _ _=>?_)|refine ZK (find_none ha p (StOK.okt (he ▸ hok)) (by rw [hfd,he];exact h3.2)) (fun _ _=>?_)|(refine ZS (fun hc=>?_) (fun hc=>?_)<;>(try simp at hc)<;>(try omega))|refine ZI 7 [] [(0,0),(1,4),(2,0),(3,0),(4,0),(5,0),(6,0),(7,0),(8,0),(9,4),(10,0),(11,0),(12,0)] [] ?_|(refine ZB (fun hc=>?_) (fun hc=>?_)<;>(try simp at hc)<;>(try omega))|fail)
    refine Yw (hst none rfl (by decide)) ?_
    exact ZD none rfl trivial
   ·have he0:withE es a v=0:=by rw [withE,if_neg (by simp [h1]),if_neg h2,if_neg h3]
    have hok2:=stOK_ins hok ha he0
    rw [he0]
    have hokt:Okt t:=StOK.okt (he ▸ hok)
    have hels:(Tr.put a v t).els=insO a v es:=by rw [els_put a v t (he ▸ hok.srt),he]
    have hX:65536≤es.length→Tr.find a t=some ((getO a es).getD ⟨#[]⟩):=fun h4=>by
     rw [hfd,he]
     cases hg:getO a es with
     | none=>exact absurd ⟨h4,hg⟩ h3
     | some v0=>rfl
    repeat' (first|refine ZC ?_|refine ZH (fun b=>?_)|refine ZA (hchk) (fun _ _=>?_)|refine ZK (UY (some ⟨bs,0,none⟩) es) (fun _ _=>?_)|refine ZK (find_some ha p hokt (hX (by omega))) (fun _ _=>?_)|(refine ZS (fun hc=>?_) (fun hc=>?_)<;>(try simp at hc)<;>(try omega))|refine ZI 7 [] [(0,0),(1,4),(2,0),(3,0),(4,0),(5,0),(6,0),(7,0),(8,0),(9,4),(10,0),(11,0),(12,0)] [] ?_|(refine ZB (fun hc=>?_) (fun hc=>?_)<;>(try simp at hc)<;>(try omega))|fail)
    all_goals refine ZI 9 [] [(0,0),(1,0),(2,0),(3,0),(4,0),(5,0),(6,0),(7,1),(8,4),(9,0),(10,1),(11,0),(12,0)] [] ?_
    all_goals repeat' (first|refine ZC ?_|refine ZH (fun b=>?_)|fail)
    all_goals
     refine r_fz (b:=b) ?_
     refine r_mk (F1:=[Blk b (ndc none none a v 0 0 0)]) (f:=Nd (some ⟨b,0,none⟩) a v) (fun hp hF=>⟨b,none,none,0,0,0,rfl,hF (Blk b (ndc none none a v 0 0 0)) (by simp)⟩) ?_
     refine ZK (with_ok a v (some ⟨b,0,none⟩) ha (by omega) t p hokt) (fun q _=>?_)
    all_goals repeat' (first|refine ZC ?_|refine ZH (fun b=>?_)|fail)
    all_goals
     rename_i q _ _
     refine Y7 (b:=b) ?_
     refine Zx (F1:=[Blk b (.cells #[.pointer (some ⟨q,0,none⟩)] 126),TrF (some ⟨q,0,none⟩) (Tr.put a v t)]) (f:=StR (some ⟨b,0,none⟩) 0 (insO a v es)) (fun hp hF=>⟨Tr.put a v t,hels,hok2,b,_,rfl,hF (Blk b (.cells #[.pointer (some ⟨q,0,none⟩)] 126)) (by simp),hF (TrF (some ⟨q,0,none⟩) (Tr.put a v t)) (by simp)⟩) ?_
     exact ZD (some ⟨b,0,none⟩) rfl trivial
 ·have he:withE es a v=12:=by rw [withE,if_pos h1]
  rw [he] at hst ⊢
  have hb:(nchk a != 0)=true:=by simp [h1]
  repeat' (first|refine ZC ?_|refine ZH (fun b=>?_)|refine ZA (hchk) (fun _ _=>?_)|(refine ZB (fun hc=>?_) (fun hc=>?_)<;>(try simp at hc)<;>(try omega))|fail)
  refine Yw (hst none rfl (by decide)) ?_
  exact ZD none rfl trivial
abbrev El:=Nat×Nm×ByteArray
def elv (e:El):Value:=.pointer (some ⟨e.1,0,none⟩)
inductive AT where
 | nil
 | node (b:Nat) (l:AT) (a:Nm) (v:ByteArray) (r:AT)
namespace AT
def ptr:AT→Option Addr
 | nil=>none
 | node b _ _ _ _=>some ⟨b,0,none⟩
def tr:AT→Tr
 | nil=>.nil
 | node _ l a v r=>.node l.tr a v r.tr
def els:AT→List El
 | nil=>[]
 | node b l a v r=>l.els++(b,a,v)::r.els
def P:AT→H→Prop
 | nil,_=>True
 | node b l a v r,h=>h b=some (ndc l.ptr r.ptr a v (Tr.node l.tr a v r.tr).ht (Tr.node l.tr a v r.tr).sz (Tr.node l.tr a v r.tr).by_)∧l.P h∧r.P h
theorem mono:∀(t:AT) (h k:H),Sub h k→t.P h→t.P k
 | nil,_,_,_,_=>trivial
 | node _ l _ _ r,h,k,s,⟨h1,h2,h3⟩=>⟨s _ _ h1,mono l h k s h2,mono r h k s h3⟩
theorem tr_els:∀t:AT,t.tr.els=t.els.map (·.2)
 | nil=>rfl
 | node _ l a v r=>by simp [tr,els,Tr.els,tr_els l,tr_els r]
theorem of_tr:∀(t:Tr) (p:Option Addr) (h:H),TrP p t h→∃x:AT,x.tr=t∧p=x.ptr∧x.P h
 | .nil,p,h,hh=>⟨nil,rfl,hh,trivial⟩
 | .node l a v r,p,h,⟨b,pl,pr,h1,h2,h3,h4⟩=>by
  obtain ⟨xl,rfl,rfl,ql⟩:=of_tr l pl h h3
  obtain ⟨xr,rfl,rfl,qr⟩:=of_tr r pr h h4
  exact ⟨node b xl a v xr,rfl,h1,h2,ql,qr⟩
theorem nd:∀(t:AT) (h:H),t.P h→∀e ∈ t.els,(Nd (some ⟨e.1,0,none⟩) e.2.1 e.2.2).p h
 | nil,_,_,e,he=>by cases he
 | node b l a v r,h,⟨h1,h2,h3⟩,e,he=>by
  rcases List.mem_append.1 he with he|he
  ·exact nd l h h2 e he
  ·rcases List.mem_cons.1 he with rfl|he
   ·exact ⟨b,_,_,_,_,_,rfl,h1⟩
   ·exact nd r h h3 e he
end AT
def AtF (t:AT):Pf:=⟨t.P,t.mono⟩
def EPost {α:Type} (I Ix:List α→HP) (ys xs:List α):Post:=⟨Option (List α),fun r=>.bool r.isNone,fun r=>∀q,r=some q→q <+: xs,fun _=>[],fun r=>[match r with|none=>I ys|some q=>Ix q]⟩
set_option maxHeartbeats 1000000 in
theorem each_ok (v:Value) (Y:Pf) (I Ix:List El→HP) (xs:List El) (hy:∀pre e,pre++[e] <+: xs→SpecV v [elv e] [Y] [I pre] (YPost I Ix pre e)):∀(t:AT) (pre:List El),pre++t.els <+: xs→
  Enters 123∧Spec prog 123 #[.pointer t.ptr,v] [Y,AtF t] [I pre] (EPost I Ix (pre++t.els) xs):=by
 intro t
 induction t with
 | nil=>
  intro pre hpre
  refine ZE [_,_] func123 ntmps123 fun G w hp=>?_
  repeat' (first|refine ZC ?_|refine ZH (fun b=>?_)|refine ZM ?_|refine ZG (fun hc=>?_) (fun hc=>?_)|refine ZB (fun hc=>?_) (fun hc=>?_))
  simp only [AT.els,List.append_nil]
  exact ZD none rfl (fun q hq=>by cases hq)
 | node b l a u r ihl ihr=>
  intro pre hpre
  have e0:pre++(AT.node b l a u r).els=pre++l.els++[(b,a,u)]++r.els:=by simp [AT.els]
  rw [e0] at hpre ⊢
  have p1:pre++l.els <+: xs:=List.IsPrefix.trans ⟨[(b,a,u)]++r.els,by simp⟩ hpre
  have p2:pre++l.els++[(b,a,u)] <+: xs:=List.IsPrefix.trans ⟨r.els,by simp⟩ hpre
  have hl:=ihl pre p1
  have hr:=ihr (pre++l.els++[(b,a,u)]) hpre
  have hyy:=hy (pre++l.els) (b,a,u) p2
  refine ZE [_,_] func123 ntmps123 fun G w hp=>?_
  refine Zm (X:=Unit) (Fx:=fun _=>[Blk b (ndc l.ptr r.ptr a u (Tr.node l.tr a u r.tr).ht (Tr.node l.tr a u r.tr).sz (Tr.node l.tr a u r.tr).by_),AtF l,AtF r]) (p:=fun _=>True) (f:=AtF (.node b l a u r)) (.there .here) (fun h ⟨h1,h2,h3⟩=>⟨(),trivial,fun f hf=>by
   simp only [List.mem_cons,List.not_mem_nil,or_false] at hf
   rcases hf with rfl|rfl|rfl
   ·exact h1
   ·exact h2
   ·exact h3⟩) (fun _ _=>?_)
  repeat' (first|refine ZC ?_|refine ZH (fun b=>?_)|refine ZM ?_|refine ZG (fun hc=>?_) (fun hc=>?_)|refine ZB (fun hc=>?_) (fun hc=>?_))
  refine ZA hl (fun q hq=>?_)
  cases q with
  | some q=>
   repeat' (first|refine ZC ?_|refine ZH (fun b=>?_)|refine ZM ?_|refine ZG (fun hc=>?_) (fun hc=>?_)|refine ZB (fun hc=>?_) (fun hc=>?_))
   exact ZD (some q) rfl hq
  | none=>
   repeat' (first|refine ZC ?_|refine ZH (fun b=>?_)|refine ZM ?_|refine ZG (fun hc=>?_) (fun hc=>?_)|refine ZB (fun hc=>?_) (fun hc=>?_))
   refine YN hyy (fun bb _=>?_)
   cases bb with
   | false=>
    repeat' (first|refine ZC ?_|refine ZH (fun b=>?_)|refine ZM ?_|refine ZG (fun hc=>?_) (fun hc=>?_)|refine ZB (fun hc=>?_) (fun hc=>?_))
    exact ZD (some (pre++l.els++[(b,a,u)])) rfl (fun q hq=>by cases hq;exact p2)
   | true=>
    repeat' (first|refine ZC ?_|refine ZH (fun b=>?_)|refine ZM ?_|refine ZG (fun hc=>?_) (fun hc=>?_)|refine ZB (fun hc=>?_) (fun hc=>?_))
    refine ZA hr (fun q hq=>?_)
    repeat' (first|refine ZC ?_|refine ZH (fun b=>?_)|refine ZM ?_|refine ZG (fun hc=>?_) (fun hc=>?_)|refine ZB (fun hc=>?_) (fun hc=>?_))
    exact ZD q rfl hq
theorem nodes_ok (ps:Option Addr):Enters 93∧Spec prog 93 #[.pointer ps] [] []
  ⟨Nat,fun b=>.func (.func 122) #[] #[.pointer (some ⟨b,0,none⟩)],fun _=>True,fun b=>[Blk b (.cells #[.pointer ps] 32)],fun _=>[]⟩:=by
 refine ZE [_] func93 ntmps93 fun G w hp=>?_
 repeat' (first|refine ZC ?_|refine ZH (fun b=>?_)|refine ZM ?_|refine ZG (fun hc=>?_) (fun hc=>?_)|refine ZB (fun hc=>?_) (fun hc=>?_))
 refine Y7 ?_
 exact ZD b rfl trivial
theorem nodes1_iter (b bs:Nat) (t:AT):Iter 122 [.pointer (some ⟨b,0,none⟩)] elv t.els [Blk b (.cells #[.pointer (some ⟨bs,0,none⟩)] 32),Blk bs (.cells #[.pointer t.ptr] 126),AtF t] []:=by
 intro v Y I Ix hy
 have he:=each_ok v Y I Ix t.els hy t [] (by simp)
 refine ZE [_,_] func122 ntmps122 fun G w hp=>?_
 repeat' (first|refine ZC ?_|refine ZH (fun b=>?_)|refine ZM ?_|refine ZA (he) (fun _ _=>?_)|refine ZP (he) (fun _ _=>?_)|refine ZG (fun hc=>?_) (fun hc=>?_)|refine ZB (fun hc=>?_) (fun hc=>?_))
 rename_i r hr
 cases r with
 | none=>exact Zw none rfl (fun q hq=>by cases hq)
 | some q=>exact Zw (some q) rfl (fun q' hq=>by cases hq;exact hr q rfl)
def nmf (a:Nm):List Value:=[.int .i64 a.kind,.string a.owner,.int .i64 a.number,.int .i64 a.index,.string a.text]
def kn (es:Al) (k:Int):List Nm:=(es.filter fun x=>x.1.kind == k).map (·.1)
def kne (l:List El) (k:Int):List Nm:=(l.filter fun x=>x.2.1.kind == k).map (·.2.1)
theorem kne_eq (t:AT) (k:Int):kne t.els k=kn t.tr.els k:=by
 rw [AT.tr_els,kn,kne,List.filter_map,List.map_map];rfl
abbrev JKL (bk b5:Nat) (k:Int) (pre:List El) (q:Option Addr×Nat):List HP:=[Pt bk (.cells #[.int .i64 k] 3),Pt b5 (.cells #[.slice q.1 (kne pre k).length q.2] 140),Row 120 5 q.1 (kne pre k).length q.2 ((kne pre k).flatMap nmf)]
def JK (bk b5:Nat) (k:Int) (pre:List El):HP:=fun h=>∃q,True∧Sep (JKL bk b5 k pre q) h
set_option maxHeartbeats 1000000 in
theorem kind_ok (ps:Option Addr) (es:Al) (k:Int):Enters 66∧Spec prog 66 #[.pointer ps,.int .i64 k] [St ps es] []
  ⟨Option Addr×Nat,fun q=>.slice q.1 (kn es k).length q.2,fun _=>True,fun q=>[Sl 120 nmf q.1 q.2 (kn es k)],fun _=>[]⟩:=by
 refine ⟨enters_of func66 (by kernel_rfl) rfl,Wb (vs:=[_,_]) func66 rfl ntmps66 rfl fun G w hp=>?_⟩
 refine k_st (ps:=ps) (es:=es) (fun bs p t hp he hok=>?_)
 subst hp
 refine Zm (X:=AT) (Fx:=fun x=>[AtF x]) (p:=fun x=>x.tr=t∧p=x.ptr) (f:=TrF p t) (.there .here) (fun h hh=>let ⟨x,h1,h2,h3⟩:=AT.of_tr t p h hh;⟨x,⟨h1,h2⟩,fun f hf=>by simp at hf;subst hf;exact h3⟩) (fun x hx=>?_)
 obtain ⟨rfl,rfl⟩:=hx
 have hlen:x.els.length≤65536:=by
  have:=hok.len
  rw [←he,AT.tr_els] at this
  simpa using this
 repeat' (first|refine ZC ?_|refine ZH (fun b=>?_)|refine ZM ?_|refine ZA (nodes_ok _) (fun _ _=>?_)|refine ZP (nodes_ok _) (fun _ _=>?_)|refine ZK (nodes_ok _) (fun _ _=>?_)|refine ZG (fun hc=>?_) (fun hc=>?_)|refine ZS (fun hc=>?_) (fun hc=>?_)|refine ZI 4 [] [(0,0),(1,0),(2,0),(3,0),(4,0),(5,0),(6,0)] [] ?_|refine ZI 5 [] [(0,0),(1,0),(2,0),(3,0),(4,0),(5,1),(6,4)] [7] ?_|refine ZB (fun hc=>?_) (fun hc=>?_))
 rename_i bk q _
 generalize b=b5
 refine ZO (Lx:=[]) (r:=Row 120 5 none 0 0 []) (fun h _=>Zb _ _ h) ?_
 refine ZO (Lx:=JKL bk b5 k [] (none,0)) (r:=JK bk b5 k []) (fun h hh=>⟨(none,0),trivial,hh⟩) ?_
 refine k_range (α:=El) (enc:=elv) (xs:=x.els) (JK bk b5 k) (fun _ _=>False) (nodes1_iter q bs x) ?_ ?_ ?_
 ·intro lr l pre e hpre G w0 hp0
  have hple:=hpre.length_le
  simp only [List.length_append,List.length_singleton] at hple
  have hkl:(kne pre k).length≤pre.length:=by simp only [kne,List.length_map];exact List.length_filter_le ..
  refine Zq (X:=Option Addr×Nat) (Lx:=fun q=>JKL bk b5 k pre q) (p:=fun _=>True) (r:=JK bk b5 k pre) (.there .here) (fun h hh=>hh) (fun q _=>?_)
  refine Zx (F1:=[AtF x]) (f:=Nd (some ⟨e.1,0,none⟩) e.2.1 e.2.2) (fun hp hF=>x.nd hp (hF (AtF x) (by simp)) e (hpre.subset (by simp))) ?_
  refine k_nd (p:=some ⟨e.1,0,none⟩) (a:=e.2.1) (v:=e.2.2) (fun bm pl' pr' y0 y1 y2 hp=>?_)
  obtain ⟨eb,ea,ev⟩:=e
  dsimp only at hp ⊢
  obtain rfl:eb=bm:=by injection hp with hp;injection hp
  repeat' (first|refine ZC ?_|refine ZH (fun b=>?_)|refine ZM ?_|refine k_beg ?_|refine Xd (fun o' cap'=>?_)|refine ZG (fun hc=>?_) (fun hc=>?_)|refine ZS (fun hc=>?_) (fun hc=>?_)|refine ZI 4 [] [(0,0),(1,0),(2,0),(3,0),(4,0),(5,0),(6,0)] [] ?_|refine ZI 5 [Row _ _ _ _ _ _] [(0,0),(1,0),(2,0),(3,0),(4,0),(5,1),(6,4)] [7] ?_|refine ZB (fun hc=>?_) (fun hc=>?_))
  ·have hkk:ea.kind=k:=by simpa using hc
   have e1:kne (pre++[(eb,ea,ev)]) k=kne pre k++[ea]:=by simp [kne,hkk]
   have e2:(kne pre k).length+1=(kne (pre++[(eb,ea,ev)]) k).length:=by rw [e1];simp
   have e3:(kne pre k).flatMap nmf++#[Value.int .i64 ea.kind,.string ea.owner,.int .i64 ea.number,.int .i64 ea.index,.string ea.text].toList=(kne (pre++[(eb,ea,ev)]) k).flatMap nmf:=by rw [e1];simp [nmf]
   rw [e2,e3]
   refine ZO (Lx:=JKL bk b5 k (pre++[(eb,ea,ev)]) (o',cap')) (r:=JK bk b5 k (pre++[(eb,ea,ev)])) (fun h hh=>⟨(o',cap'),trivial,hh⟩) ?_
   exact k_rn
  ·have hkk:ea.kind≠k:=by simpa using hc
   have e1:kne (pre++[(eb,ea,ev)]) k=kne pre k:=by simp [kne,hkk]
   refine ZO (Lx:=JKL bk b5 k pre q) (r:=JK bk b5 k (pre++[(eb,ea,ev)])) (fun h hh=>⟨q,trivial,by rw [JKL,e1];exact hh⟩) ?_
   exact k_rn
 ·intro D
  refine Zq (X:=Option Addr×Nat) (Lx:=fun q=>JKL bk b5 k x.els q) (p:=fun _=>True) (r:=JK bk b5 k x.els) .here (fun h hh=>hh) (fun q _=>?_)
  dsimp only [JKL]
  rw [kne_eq,he]
  repeat' (first|refine ZC ?_|refine ZH (fun b=>?_)|refine ZM ?_|refine ZG (fun hc=>?_) (fun hc=>?_)|refine ZS (fun hc=>?_) (fun hc=>?_)|refine ZI 4 [] [(0,0),(1,0),(2,0),(3,0),(4,0),(5,0),(6,0)] [] ?_|refine ZI 5 [] [(0,0),(1,0),(2,0),(3,0),(4,0),(5,1),(6,4)] [7] ?_|refine ZB (fun hc=>?_) (fun hc=>?_))
  refine YA (sz:=5) (f:=nmf) (o:=q.1) (cap:=q.2) (kn es k) ?_ rfl rfl
  exact k_retM q rfl trivial
 ·intro D pre hpre
  exact w_open (X:=Empty) (Lx:=fun _=>[]) (p:=fun _=>False) .here (fun h hh=>hh.elim) (fun q hq=>hq.elim)
structure Ou where
 ch:Int
 tg:ByteArray
 tx:ByteArray
 us:Int
 deriving DecidableEq
def ouf (o:Ou):List Value:=[.int .i64 o.ch,.string o.tg,.string o.tx,.int .i64 o.us]
def Ou.v (o:Ou):Value:=.agg #[.int .i64 o.ch,.string o.tg,.string o.tx,.int .i64 o.us]
def bad2 (c:UInt8):Bool:=decide ((c.toNat:Int)<33) || decide ((126:Int)<c.toNat)
def ochk (o:Ou):Int:=
 if o.ch<1∨4<o.ch then 11
 else if isE o.tg then 4
 else if 64<o.tg.size then 5
 else if o.tg.data.toList.any bad2 then 6
 else if 4096<o.tx.size then 5
 else if o.us<0∨65535<o.us then 2
 else 0
set_option maxHeartbeats 1000000 in
theorem YK (o:Ou):Enters 65∧Spec prog 65 #[o.v] [] [] (RetV (.int .i64 (ochk o))):=by
 have hsz:o.tg.data.toList.length=o.tg.size:=by simp
 generalize hr:ochk o=r
 unfold ochk at hr
 refine ZE [_] func65 ntmps65 fun G w hp=>?_
 repeat' (first|refine ZC ?_|refine ZH (fun b=>?_)|(refine ZG (fun hc=>?_) (fun hc=>?_)<;>(try simp at hc))|(refine ZB (fun hc=>?_) (fun hc=>?_)<;>(try simp at hc))|fail)
 ·rw [if_pos (by omega)] at hr;subst hr;exact ZD () rfl trivial
 ·rw [if_pos (by omega)] at hr;subst hr;exact ZD () rfl trivial
 ·have hc:isE o.tg=true:=by simpa [isE] using hc
  rw [if_neg (by omega),if_pos hc] at hr;subst hr;exact ZD () rfl trivial
 ·rename_i h1
  have h1:isE o.tg=false:=by simpa [isE] using h1
  rw [if_neg (by omega),if_neg (by simp [h1]),if_pos (by omega)] at hr;subst hr;exact ZD () rfl trivial
 rename_i h1
 have h1:isE o.tg=false:=by simpa [isE] using h1
 rw [if_neg (by omega),if_neg (by simp [h1]),if_neg (by omega)] at hr
 refine Zj (X:={i:Nat // i≤o.tg.size∧∀j,j<i→∀c,o.tg.data.toList[j]? = some c→bad2 c=false}) (fun i=>[(1,.pointer (some ⟨b,0,none⟩)),(21,.int .i64 (o.tg.size:Int)),(22,.int .i64 (i.1:Int))]) (fun _=>[]) (fun _=>[Pt b (.cells #[.int .i64 o.ch,.string o.tg,.string o.tx,.int .i64 o.us] 38)]) (fun i=>o.tg.size - i.1) ⟨0,by omega,fun j hj=>by omega⟩ ⟨rfl,rfl,rfl,trivial⟩ ?_
 rintro ⟨i,hi1,hi2⟩
 dsimp only
 by_cases hlt:i<o.tg.data.toList.length
 ·obtain ⟨c,hcc⟩:∃c,o.tg.data.toList[i]? = some c:=⟨_,List.getElem?_eq_getElem hlt⟩
  have bad:bad2 c=true→r=6:=fun hb=>by
   rw [←hr,if_pos]
   rw [List.any_eq_true]
   exact ⟨c,List.mem_of_getElem? hcc,hb⟩
  repeat' (first|refine ZC ?_|refine Zu (s:=o.tg) i c hcc ?_|(refine ZG (fun hc=>?_) (fun hc=>?_)<;>(try simp at hc)<;>(try omega))|(refine ZB (fun hc=>?_) (fun hc=>?_)<;>(try simp at hc)<;>(try omega))|fail)
  all_goals try (
   have e:=bad (by simp [bad2];omega)
   exact Zz (Z5 (w_rv (congrArg (Value.int .i64) e) (Zg () rfl trivial))))
  rw [wrapi (z:=(i:Int)+1) (by omega) (by omega)]
  refine ZJ ⟨i+1,by omega,fun j hj c' hc'=>?_⟩ (by show o.tg.size - (i+1)<o.tg.size - i;omega) ⟨rfl,rfl,rfl,trivial⟩
  by_cases hij:j=i
  ·subst hij
   obtain rfl:=Option.some.inj (hcc.symm.trans hc')
   simp [bad2];omega
  ·exact hi2 j (by omega) c' hc'
 ·have e:¬(o.tg.data.toList.any bad2=true):=by
   rw [List.any_eq_true]
   rintro ⟨c,hc,hb⟩
   obtain ⟨j,hj,rfl⟩:=List.mem_iff_getElem.1 hc
   rw [hi2 j (by omega) _ (List.getElem?_eq_getElem hj)] at hb
   cases hb
  rw [if_neg e] at hr
  repeat' (first|refine ZC ?_|refine ZM ?_|(refine ZG (fun hc=>?_) (fun hc=>?_)<;>(try simp at hc)<;>(try omega))|(refine ZB (fun hc=>?_) (fun hc=>?_)<;>(try simp at hc)<;>(try omega))|fail)
  ·rw [if_pos (by omega)] at hr;subst hr;exact ZD () rfl trivial
  ·rw [if_neg (by omega),if_pos (by omega)] at hr;subst hr;exact ZD () rfl trivial
  ·rw [if_neg (by omega),if_pos (by omega)] at hr;subst hr;exact ZD () rfl trivial
  ·rw [if_neg (by omega),if_neg (by omega)] at hr;subst hr;exact ZD () rfl trivial
def oenc (o:Ou):List UInt8:=venc o.ch.toNat++(venc o.tg.size++o.tg.data.toList)++(venc o.tx.size++o.tx.data.toList)++venc o.us.toNat
theorem Wo {o:Ou} (h:ochk o=0):(1≤o.ch∧o.ch≤4)∧o.tg.size≤64∧o.tx.size≤4096∧0≤o.us∧o.us≤65535:=by
 unfold ochk at h
 split at h
 ·cases h
 ·split at h
  ·cases h
  ·split at h
   ·cases h
   ·split at h
    ·cases h
    ·split at h
     ·cases h
     ·split at h
      ·cases h
      ·omega
theorem outWrite_ok (o:Ou) (b:Nat) (bs:List UInt8) (h:ochk o=0) (hb:bs.length≤1000000000):Enters 81∧Spec prog 81 #[o.v,.pointer (some ⟨b,0,none⟩)] [] [Wtr b bs] ⟨Unit,fun _=>.tuple #[],fun _=>True,fun _=>[],fun _=>[Wtr b (bs++oenc o)]⟩:=by
 obtain ⟨h1,h2,h3,h4⟩:=Wo h
 have l1:=YF o.ch.toNat (by omega)
 have l2:=YF o.tg.size (by omega)
 have l3:=YF o.tx.size (by omega)
 have e1:o.ch=((o.ch.toNat:Nat):Int):=by omega
 have e2:o.us=((o.us.toNat:Nat):Int):=by omega
 have s1:o.tg.data.toList.length=o.tg.size:=by simp
 have s2:o.tx.data.toList.length=o.tx.size:=by simp
 have n1:=Vn b bs o.ch.toNat (by omega) (by omega)
 rw [←e1] at n1
 have n2:=wtrText_ok b (bs++venc o.ch.toNat) o.tg (by omega) (by simp only [List.length_append];omega)
 have n3:=wtrText_ok b (bs++venc o.ch.toNat++venc o.tg.size++o.tg.data.toList) o.tx (by omega) (by simp only [List.length_append];omega)
 have n4:=Vn b (bs++venc o.ch.toNat++venc o.tg.size++o.tg.data.toList++venc o.tx.size++o.tx.data.toList) o.us.toNat (by omega) (by simp only [List.length_append];omega)
 rw [←e2] at n4
 have e3:bs++oenc o=bs++venc o.ch.toNat++venc o.tg.size++o.tg.data.toList++venc o.tx.size++o.tx.data.toList++venc o.us.toNat:=by simp [oenc]
 rw [e3]
 generalize b=bw at *
 refine ZE [_,_] func81 ntmps81 fun G w hp=>?_
 repeat' (first|refine ZC ?_|refine ZH (fun b=>?_)|refine ZA (n1) (fun _ _=>?_)|refine ZA (n2) (fun _ _=>?_)|refine ZA (n3) (fun _ _=>?_)|refine ZA (n4) (fun _ _=>?_)|fail)
 exact Zw () rfl trivial
def oencS (o:Ou):ByteArray:=if ochk o=0 then ⟨(oenc o).toArray⟩ else ⟨#[]⟩
theorem oenc_len {o:Ou} (h:ochk o=0):(oenc o).length≤5000:=by
 obtain ⟨h1,h2,h3,h4⟩:=Wo h
 have l1:=YF o.ch.toNat (by omega)
 have l2:=YF o.tg.size (by omega)
 have l3:=YF o.tx.size (by omega)
 have l4:=YF o.us.toNat (by omega)
 have s1:o.tg.data.toList.length=o.tg.size:=by simp
 have s2:o.tx.data.toList.length=o.tx.size:=by simp
 simp only [oenc,List.length_append];omega
theorem VT (o:Ou):Enters 52∧Spec prog 52 #[o.v] [] [] (RetV (.tuple #[.string (oencS o),.int .i64 (ochk o)])):=by
 have hc0:=YK o
 refine ZE [_] func52 ntmps52 fun G w hp=>?_
 by_cases h:ochk o=0
 ·have hw:∀bw,_:=fun bw=>outWrite_ok o bw [] h (by simp)
  have hl:=oenc_len h
  rw [oencS,if_pos h,h]
  rw [h] at hc0
  repeat' (first|refine ZC ?_|refine ZH (fun b=>?_)|refine ZA (hc0) (fun _ _=>?_)|refine ZA (newWriter_ok) (fun _ _=>?_)|refine ZA (hw _) (fun _ _=>?_)|refine ZA (wtrBytes_ok _ ([]++oenc o) (by simp;omega)) (fun _ _=>?_)|fail)
  refine l_frz (sz:=1) (f:=bf) ([]++oenc o) ?_ (byt_flat _) rfl
  refine l_b2s ?_
  repeat' (first|refine ZC ?_|fail)
  exact ZD () rfl trivial
 ·rw [oencS,if_neg h]
  repeat' (first|refine ZC ?_|refine ZH (fun b=>?_)|refine ZA (hc0) (fun _ _=>?_)|(refine ZB (fun hc=>?_) (fun hc=>?_)<;>(try simp at hc)<;>(try omega))|fail)
  exact ZD () rfl trivial
def oread (s:RS):Ou×RS:=
 let (ch,s1):=rnum s 4
 let (tg,s2):=rtext s1 64
 let (tx,s3):=rtext s2 4096
 let (us,s4):=rnum s3 65535
 (⟨ch,tg,tx,us⟩,s4)
def odec (s:ByteArray):Option Ou:=
 let r:=oread ⟨s.data.toList,0,0⟩
 if r.2.err=0∧r.2.rest=[]∧ochk r.1=0 then some r.1 else none
theorem outRead_ok (b:Nat) (o:Option Addr) (cap:Nat) (s:RS) (hb:s.pos+s.rest.length≤1099511627776):Enters 95∧Spec prog 95 #[.pointer (some ⟨b,0,none⟩)] [Sl 5 bf o cap s.rest] [Rdr b o cap s]
  ⟨Option Addr×Nat,fun _=>(oread s).1.v,fun _=>True,fun q=>[Sl 5 bf q.1 q.2 (oread s).2.rest],fun q=>[Rdr b q.1 q.2 (oread s).2]⟩:=by
 have g1:=rstep_le 0 s (pnum s.rest 4) (pnum_le _ _)
 have n1:=Va b o cap s 4 hb
 unfold oread
 generalize hr1:rnum s 4=r1 at *
 obtain ⟨v1,s1⟩:=r1
 have g1:s1.pos+s1.rest.length≤1099511627776:=by
  have:(rnum s 4).2.pos+(rnum s 4).2.rest.length≤s.pos+s.rest.length:=g1
  rw [hr1] at this;dsimp only at this;omega
 have g2:=rstep_le ⟨#[]⟩ s1 (ptext s1.rest 64) (ptext_le _ _)
 have n2:=fun o cap=>rdrText_ok b o cap s1 64 g1
 dsimp only at *
 generalize hr2:rtext s1 64=r2 at *
 obtain ⟨v2,s2⟩:=r2
 have g2:s2.pos+s2.rest.length≤1099511627776:=by
  have:(rtext s1 64).2.pos+(rtext s1 64).2.rest.length≤s1.pos+s1.rest.length:=g2
  rw [hr2] at this;dsimp only at this;omega
 have g3:=rstep_le ⟨#[]⟩ s2 (ptext s2.rest 4096) (ptext_le _ _)
 have n3:=fun o cap=>rdrText_ok b o cap s2 4096 g2
 dsimp only at *
 generalize hr3:rtext s2 4096=r3 at *
 obtain ⟨v3,s3⟩:=r3
 have g3:s3.pos+s3.rest.length≤1099511627776:=by
  have:(rtext s2 4096).2.pos+(rtext s2 4096).2.rest.length≤s2.pos+s2.rest.length:=g3
  rw [hr3] at this;dsimp only at this;omega
 have n4:=fun o cap=>Va b o cap s3 65535 g3
 dsimp only at *
 generalize hr4:rnum s3 65535=r4 at *
 obtain ⟨v4,s4⟩:=r4
 dsimp only at *
 generalize b=br at *
 refine ZE [_] func95 ntmps95 fun G w hp=>?_
 repeat' (first|refine ZC ?_|refine ZH (fun b=>?_)|refine ZA (n1) (fun _ _=>?_)|refine ZA (n2 _ _) (fun _ _=>?_)|refine ZA (n3 _ _) (fun _ _=>?_)|refine ZA (n4 _ _) (fun _ _=>?_)|fail)
 rename_i q _
 exact ZD q rfl trivial
def Ou.z:Ou:=⟨0,⟨#[]⟩,⟨#[]⟩,0⟩
theorem close0 (e:Int) (r:List UInt8):(if e≠0 then e else if r=[] then 0 else 5)=0↔e=0∧r=[]:=by
 by_cases h1:e=0<;>by_cases h2:r=[]<;>simp [h1,h2]
theorem outDecode_ok (s:ByteArray) (hs:s.size≤1099511627776):Enters 68∧Spec prog 68 #[.string s] [] [] (RetV (.tuple #[((odec s).getD Ou.z).v,.int .i64 (if (odec s).isSome then 0 else 3)])):=by
 have hsz:s.data.toList.length=s.size:=by simp
 have n1:=fun b o cap=>outRead_ok b o cap ⟨s.data.toList,0,0⟩ (by dsimp only;omega)
 generalize hd:odec s=d
 unfold odec at hd
 dsimp only at hd n1
 generalize hr:oread ⟨s.data.toList,0,0⟩=r at *
 obtain ⟨ou,s4⟩:=r
 dsimp only at hd n1
 have n2:=fun b o cap=>rdrClose_ok b o cap s4
 have n3:=YK ou
 refine ZE [_] func68 ntmps68 fun G w hp=>?_
 repeat' (first|refine ZC ?_|refine ZH (fun b=>?_)|refine ZA (newReader_ok _ _ s.data.toList (by omega)) (fun _ _=>?_)|refine ZA (n1 _ _ _) (fun _ _=>?_)|refine ZA (n2 _ _ _) (fun _ _=>?_)|refine ZA (n3) (fun _ _=>?_)|refine l_s2b (fun o cap=>?_)|refine ZG (fun hc=>?_) (fun hc=>?_)|refine ZB (fun hc=>?_) (fun hc=>?_)|fail)
 ·have hc:¬(s4.err=0∧s4.rest=[]):=fun h=>by rw [(close0 _ _).2 h] at hc;simp at hc
  rw [if_neg fun h=>hc ⟨h.1,h.2.1⟩] at hd;subst hd;exact ZD () rfl trivial
 ·have hc:ochk ou≠0:=by simpa using hc
  rw [if_neg fun h=>hc h.2.2] at hd;subst hd;exact ZD () rfl trivial
 ·rename_i h0 _ _
  have h0:=(close0 _ _).1 (by simpa using h0)
  have hc:ochk ou=0:=by simpa using hc
  rw [if_pos ⟨h0.1,h0.2,hc⟩] at hd;subst hd;exact ZD () rfl trivial
variable {i d:Nat} {t ty0:TypeId} {x y:Operand} {pos:String} {aft:Array Edge} {gd:Option (Nat×Bool)}
section
variable {l:List Oper} {b off:Nat} {cs:Array Value} {ty:TypeId} {fzn:Nat×Nat} {v:Value}
theorem r_ixP {T sz m cap:Nat} {z:Int} {rs tr:TRow} (j:Nat) (hlt:j<m) (nx:Wr n C ops k Q Tl Fs R L ((d,.pointer (some ⟨b,j * sz,none⟩))::E) F N)
  (ho:nth ops i=some ⟨some d,.indexAddr t x y,ty0,pos,aft,gd⟩:=by rfl) (hw:wantL ops E ⟨some d,.indexAddr t x y,ty0,pos,aft,gd⟩=some true:=by rfl) (hx:ev E x=some (.slice (some ⟨b,0,none⟩) m cap):=by rfl) (hy:ev E y=some (.int .i64 z):=by rfl)
  (hts:lookT tab t=some rs:=by rfl) (hrs:rs.k = .slice T:=by rfl) (hT:lookT tab T=some tr:=by rfl) (hsz:tr.size=sz:=by rfl) (hz:z=(j:Int):=by first|rfl|omega):Wr n C ops k Q Tl Fs R ((i,0)::L) E F N:=
 r_q (fun a w ha=>by
  have hr1:=XW (o:=some ⟨b,0,none⟩) (m:=m) (cap:=cap) (w:=w) hts hrs hT hsz hz hlt (p:=⟨b,j * sz,none⟩) (by simp [Yu rfl])
  simp only [execOp,ha.ev (x:=x) (by rw [ZF];exact hx),ha.ev (x:=y) (by rw [ZF];exact hy),Sem.run_bind,Result.andThen,hr1,Sem.run_pure]) nx ho hw
theorem r_ldX {off' o:Nat} {pre xs post:List Value} (nx:Wr n C ops k Q Tl Fs R L ((d,v)::E) F N) (hcs:cs.toList=pre++(xs++post)) (ho:off'=pre.length+o) (hop:nth ops i=some ⟨some d,.load t x,ty0,pos,aft,gd⟩:=by rfl) (hw:wantL ops E ⟨some d,.load t x,ty0,pos,aft,gd⟩=some true:=by rfl)
  (hx:ev E x=some (.pointer (some ⟨b,off',none⟩)):=by rfl) (hs:Sel (Pt b (.cells cs ty fzn)) R R0:=by (repeat (first|exact Sel.here|apply Sel.there));first|done|fail) (hv:ldv t xs o=some v:=by rfl) :
  Wr n C ops k Q Tl Fs R ((i,0)::L) E F N:=
 Z6 hop fun hp hr w st hz sb=>by
  simp only [ZW hw]
  refine ⟨v,fun a w ha hin=>?_,nx hp hr w st hz sb⟩
  have hr:=Yp (off:=off') (t:=t) (v:=v) (hin _ _ (sb _ _ (stat_pt st hs))) (by rw [hcs,ho];exact ldv_in hv)
  simp only [execOp,Instr.loadAt,ha.ev (by rw [ZF];exact hx),Instr.sureAddr,Sem.run_bind,Sem.run_pure,Result.andThen,hr]
end
structure En where
 who:ByteArray
 nu:Int
 tk:Int
 o:Ou
 deriving DecidableEq
def enf (e:En):List Value:=[.string e.who,.int .i64 e.nu,.int .i64 e.tk,.int .i64 e.o.ch,.string e.o.tg,.string e.o.tx,.int .i64 e.o.us]
structure Lf where
 e:En
 tm:Int
 rd:Int
 deriving DecidableEq
def lff (x:Lf):List Value:=[.string x.e.who,.int .i64 x.e.nu,.int .i64 x.e.tk,.int .i64 x.e.o.ch,.string x.e.o.tg,.string x.e.o.tx,.int .i64 x.e.o.us,.int .i64 x.tm,.int .i64 x.rd]
def Lf.v (x:Lf):Value:=.agg #[.string x.e.who,.int .i64 x.e.nu,.int .i64 x.e.tk,.int .i64 x.e.o.ch,.string x.e.o.tg,.string x.e.o.tx,.int .i64 x.e.o.us,.int .i64 x.tm,.int .i64 x.rd]
def tick (z:Int):Bool:=decide (0≤z) && decide (z≤1073741824)
def lchk (x:Lf):Int:=
 if lvalid x.e.who.data.toList=false then 12
 else if x.e.nu<0∨1048576<x.e.nu∨tick x.e.tk=false∨tick x.tm=false∨x.rd<0∨1048576<x.rd then 2
 else ochk x.e.o
set_option maxHeartbeats 1000000 in
theorem Xu (x:Lf) (hx:x.e.who.size≤1099511627776):Enters 44∧Spec prog 44 #[x.v] [] [] (RetV (.int .i64 (lchk x))):=by
 have n1:=Zt x.e.who hx
 have n2:=YK x.e.o
 have n3:=isTick_ok x.e.tk
 have n4:=isTick_ok x.tm
 rw [show (decide (0≤x.e.tk) && decide (x.e.tk≤1073741824))=tick x.e.tk from rfl] at n3
 rw [show (decide (0≤x.tm) && decide (x.tm≤1073741824))=tick x.tm from rfl] at n4
 generalize hr:lchk x=r
 unfold lchk at hr
 refine ZE [_] func44 ntmps44 fun G w hp=>?_
 cases hv:lvalid x.e.who.data.toList<;>cases ht1:tick x.e.tk<;>cases ht2:tick x.tm
 all_goals rw [hv] at n1 hr
 all_goals rw [ht1] at n3 hr
 all_goals rw [ht2] at n4 hr
 all_goals simp only [Bool.true_eq_false,if_true,if_false,true_or,or_true,false_or] at hr
 all_goals repeat' (first|refine ZC ?_|refine ZH (fun b=>?_)|refine ZA (n1) (fun _ _=>?_)|refine ZA (n2) (fun _ _=>?_)|refine ZA (n3) (fun _ _=>?_)|refine ZA (n4) (fun _ _=>?_)|(refine ZG (fun hc=>?_) (fun hc=>?_)<;>(try simp at hc)<;>(try omega))|(refine ZB (fun hc=>?_) (fun hc=>?_)<;>(try simp at hc)<;>(try omega))|fail)
 all_goals first
  | (subst hr;exact ZD () rfl trivial)
  | (rw [if_pos (by omega)] at hr;subst hr;exact ZD () rfl trivial)
  | (rw [if_neg (by omega)] at hr;subst hr;exact ZD () rfl trivial)
abbrev LgL (b:Nat) (ls:List Lf) (q:Option Addr×Nat):List HP:=[Pt b (.cells #[.slice q.1 ls.length q.2] 94),Row 52 9 q.1 ls.length q.2 (ls.flatMap lff)]
def Lg (b:Nat) (ls:List Lf):HP:=fun h=>∃q,True∧Sep (LgL b ls q) h
def LgF (b:Nat) (ls:List Lf):Pf:=⟨fun h=>∃q:Option Addr×Nat,(Blk b (.cells #[.slice q.1 ls.length q.2] 94)).p h∧(Sl 52 lff q.1 q.2 ls).p h,fun _ _ s ⟨q,h1,h2⟩=>⟨q,Pf.m _ _ _ s h1,Pf.m _ _ _ s h2⟩⟩
theorem Vs:Enters 24∧Spec prog 24 #[] [] [] ⟨Nat,fun b=>.pointer (some ⟨b,0,none⟩),fun _=>True,fun _=>[],fun b=>[Lg b []]⟩:=by
 refine ZE [] func24 ntmps24 fun G w hp=>?_
 repeat' (first|refine ZC ?_|refine ZH (fun b=>?_)|fail)
 refine ZO (Lx:=[]) (r:=Row 52 9 none 0 0 []) (fun h _=>Zb _ _ h) ?_
 refine ZO (Lx:=LgL b [] (none,0)) (r:=Lg b []) (fun h hh=>⟨(none,0),trivial,hh⟩) ?_
 exact ZD b rfl trivial
def late (ls:List Lf) (x:Lf):Bool:=match ls.getLast? with|some y=>decide (x.tm<y.tm) || decide (x.rd<y.rd)|none=>false
def leaveE (ls:List Lf) (x:Lf):Int:=if lchk x≠0 then lchk x else if late ls x then 32 else if 100000≤ls.length then 9 else 0
section
structure RowAt (sz m cap:Nat) (xs:List Value) (o:Option Addr) (q:Nat×List Value×(Nat×Nat)):Prop where
 o:o=some ⟨q.1,0,none⟩
 l:xs.length=m * sz
 c:(xs++q.2.1).length=cap * sz
 m:m≤cap
 f:q.2.2=(0,0)∨(xs++q.2.1).length≤q.2.2.1
theorem k_row {T sz m cap:Nat} {o:Option Addr} {xs:List Value} (hm:0<m) (t:∀q,RowAt sz m cap xs o q→Wk n C k Q E F (Pt q.1 (.cells (xs++q.2.1).toArray T q.2.2)::R0)) (hs:Sel (Row T sz o m cap xs) R R0:=by (repeat (first|exact Sel.here|apply Sel.there));first|done|fail):Wk n C k Q E F R:=
 Zq (X:=Nat×List Value×(Nat×Nat)) (Lx:=fun q=>[Pt q.1 (.cells (xs++q.2.1).toArray T q.2.2)]) (p:=fun q=>RowAt sz m cap xs o q) (r:=Row T sz o m cap xs) hs (fun h hh=>by
  rcases hh with ⟨_,h2,_⟩|⟨b,rest,fz,h1,h2,h3,h4,h5,h6⟩
  ·omega
  ·exact ⟨(b,rest,fz),⟨h1,h3,h4,h5,h6⟩,h,emp,(fun _=>.inr rfl),Sub.refl _,(fun _ _ e=>by cases e),h2,trivial⟩) t
theorem row_shut {T sz m cap:Nat} {o:Option Addr} {xs:List Value} {q:Nat×List Value×(Nat×Nat)} (hq:RowAt sz m cap xs o q) (h:H) (hh:Sep [Pt q.1 (.cells (xs++q.2.1).toArray T q.2.2)] h):Row T sz o m cap xs h:=by
 obtain ⟨h1,h2,_,s1,_,hx,_⟩:=hh
 exact .inr ⟨q.1,q.2.1,q.2.2,hq.o,s1 _ _ hx,hq.l,hq.c,hq.m,hq.f⟩
end
def LvPost (b:Nat) (ls:List Lf) (x:Lf):Post:=⟨Unit,fun _=>.tuple #[.int .i64 (if leaveE ls x=0 then (ls.length:Int) else 0),.int .i64 (leaveE ls x)],fun _=>True,fun _=>[],fun _=>[Lg b (if leaveE ls x=0 then ls++[x] else ls)]⟩
theorem W5 {b:Nat} {ls:List Lf} {x:Lf} {e:Int} (he:leaveE ls x=e) (h0:e≠0):LvPost b ls x=⟨Unit,fun _=>.tuple #[.int .i64 0,.int .i64 e],fun _=>True,fun _=>[],fun _=>[Lg b ls]⟩:=by
 simp [LvPost,he,h0]
theorem Xi {b:Nat} {ls:List Lf} {x:Lf} (he:leaveE ls x=0):LvPost b ls x=⟨Unit,fun _=>.tuple #[.int .i64 (ls.length:Int),.int .i64 0],fun _=>True,fun _=>[],fun _=>[Lg b (ls++[x])]⟩:=by
 simp [LvPost,he]
section
theorem k_lg {b:Nat} {ls:List Lf} (t:∀q,Wk n C k Q E F (LgL b ls q++R0)) (hs:Sel (Lg b ls) R R0:=by (repeat (first|exact Sel.here|apply Sel.there));first|done|fail):Wk n C k Q E F R:=
 Zq (X:=Option Addr×Nat) (Lx:=fun q=>LgL b ls q) (p:=fun _=>True) (r:=Lg b ls) hs (fun _h hh=>hh) (fun q _=>t q)
theorem k_lg' {b m:Nat} {ls:List Lf} {xs:List Value} {o:Option Addr} {cap:Nat} (t:Wk n C k Q E F (Lg b ls::R0)) (hm:m=ls.length) (hx:xs=ls.flatMap lff) (hs:Sels [Pt b (.cells #[.slice o m cap] 94),Row 52 9 o m cap xs] R R0:=by (repeat (first|exact Sels.nil|exact Sel.here|apply Sel.there|apply Sels.cons));first|done|fail):Wk n C k Q E F R:=by
 subst hm;subst hx
 exact ZO (fun h hh=>⟨(o,cap),trivial,hh⟩) t hs
end
theorem leave_bad (b:Nat) (ls:List Lf) (x:Lf) (hx:x.e.who.size≤1099511627776) (h0:lchk x≠0):Enters 15∧Spec prog 15 #[.pointer (some ⟨b,0,none⟩),x.v] [] [Lg b ls] (LvPost b ls x):=by
 have n1:=Xu x hx
 generalize b=bl at *
 rw [W5 (e:=lchk x) (by simp [leaveE,h0]) h0]
 refine ZE [_,_] func15 ntmps15 fun G w hp=>?_
 repeat' (first|refine ZC ?_|refine ZH (fun b=>?_)|refine ZA (n1) (fun _ _=>?_)|(refine ZB (fun hc=>?_) (fun hc=>?_)<;>(try simp at hc)<;>(try omega))|fail)
 exact ZD () rfl trivial
theorem leave_nil (b:Nat) (x:Lf) (hx:x.e.who.size≤1099511627776) (h0:lchk x=0):Enters 15∧Spec prog 15 #[.pointer (some ⟨b,0,none⟩),x.v] [] [Lg b []] (LvPost b [] x):=by
 have n1:=Xu x hx
 generalize b=bl at *
 rw [Xi (by simp [leaveE,h0,late])]
 rw [h0] at n1
 refine ZE [_,_] func15 ntmps15 fun G w hp=>?_
 refine k_lg fun q=>?_
 repeat' (first|refine ZC ?_|refine ZH (fun b=>?_)|refine ZA (n1) (fun _ _=>?_)|refine Xd (fun o' cap'=>?_)|refine ZI 7 [] [(0,0),(1,0),(2,0),(3,0),(4,0),(5,0),(6,0),(7,0),(8,0),(9,0),(10,0),(11,0),(12,0),(13,0),(14,0),(15,0),(16,0),(17,0),(18,0),(19,0),(20,0),(21,0),(22,0),(23,0),(24,0),(25,0),(26,0),(27,0),(28,0),(29,0)] [] ?_|refine ZI 11 [Row _ _ _ _ _ _] [(0,0),(1,0),(2,0),(3,0),(4,0),(5,0),(6,1),(7,4),(8,0),(9,0)] [10] ?_|fail)
 refine k_lg' (ls:=[]++[x]) (o:=o') (cap:=cap') ?_ rfl rfl
 exact ZD () rfl trivial
set_option maxHeartbeats 2000000 in
theorem leave_cons (b:Nat) (init:List Lf) (y x:Lf) (hx:x.e.who.size≤1099511627776) (h0:lchk x=0) (hl:init.length≤1000000):Enters 15∧Spec prog 15 #[.pointer (some ⟨b,0,none⟩),x.v] [] [Lg b (init++[y])] (LvPost b (init++[y]) x):=by
 have n1:=Xu x hx
 rw [h0] at n1
 generalize b=bl at *
 have hlen:(init++[y]).length=init.length+1:=by simp
 have hlate:late (init++[y]) x=(decide (x.tm<y.tm) || decide (x.rd<y.rd)):=by simp [late]
 have hpre:(init.flatMap lff).length=init.length * 9:=Za (sz:=9) (fun _=>rfl) init
 generalize hpost:LvPost bl (init++[y]) x=post
 refine ZE [_,_] func15 ntmps15 fun G w hp=>?_
 refine k_lg fun q=>?_
 dsimp only [LgL]
 rw [hlen]
 refine k_row (T:=52) (sz:=9) (o:=q.1) (m:=init.length+1) (cap:=q.2) (xs:=(init++[y]).flatMap lff) (by omega) (fun r hr=>?_)
 have ho:=hr.o
 obtain ⟨q1,q2⟩:=q
 dsimp only at ho
 subst ho
 obtain ⟨rb,rest,fz⟩:=r
 dsimp only at hr ⊢
 have hcs:(((init++[y]).flatMap lff++rest).toArray).toList=init.flatMap lff++(lff y++rest):=by simp
 repeat' (first|refine ZC ?_|refine ZH (fun b=>?_)|refine ZA (n1) (fun _ _=>?_)|refine r_ixP (m:=init.length+1) init.length (by omega) ?_|refine r_ldX (o:=7) (off':=init.length * 9+(6+1)) (pre:=init.flatMap lff) (xs:=lff y) (post:=rest) ?_ hcs (by rw [hpre])|refine r_ldX (o:=8) (off':=init.length * 9+(7+1)) (pre:=init.flatMap lff) (xs:=lff y) (post:=rest) ?_ hcs (by rw [hpre])|rw [wrapi (z:=((init.length+1:Nat):Int) - 1) (by omega) (by omega)]|(refine ZS (fun hc=>?_) (fun hc=>?_)<;>(try simp at hc)<;>(try omega))|refine ZI 7 [] [(0,0),(1,0),(2,0),(3,0),(4,0),(5,0),(6,0),(7,0),(8,0),(9,0),(10,0),(11,0),(12,0),(13,0),(14,0),(15,0),(16,0),(17,0),(18,0),(19,0),(20,0),(21,0),(22,0),(23,0),(24,0),(25,0),(26,0),(27,0),(28,0),(29,0)] [] ?_|(refine ZB (fun hc=>?_) (fun hc=>?_)<;>(try simp at hc)<;>(try omega))|fail)
 all_goals refine ZO (Lx:=[Pt rb (.cells ((init++[y]).flatMap lff++rest).toArray 52 fz)]) (r:=Row 52 9 (some ⟨rb,0,none⟩) (init.length+1) q2 ((init++[y]).flatMap lff)) (fun h hh=>row_shut hr h hh) ?_
 ·have e:leaveE (init++[y]) x=32:=by simp [leaveE,h0,hlate,hc]
  rw [W5 (e:=32) e (by decide)] at hpost
  subst hpost
  refine k_lg' (ls:=init++[y]) (o:=some ⟨rb,0,none⟩) (cap:=q2) ?_ hlen.symm rfl
  exact ZD () rfl trivial
 ·have e:leaveE (init++[y]) x=32:=by simp [leaveE,h0,hlate,hc]
  rw [W5 (e:=32) e (by decide)] at hpost
  subst hpost
  refine k_lg' (ls:=init++[y]) (o:=some ⟨rb,0,none⟩) (cap:=q2) ?_ hlen.symm rfl
  exact ZD () rfl trivial
 ·rename_i h1 h2 _
  have e:leaveE (init++[y]) x=9:=by
   rw [leaveE,if_neg (by simp [h0]),if_neg (by rw [hlate];simp;omega),if_pos (by rw [hlen];omega)]
  rw [W5 (e:=9) e (by decide)] at hpost
  subst hpost
  refine k_lg' (ls:=init++[y]) (o:=some ⟨rb,0,none⟩) (cap:=q2) ?_ hlen.symm rfl
  exact ZD () rfl trivial
 ·have e:leaveE (init++[y]) x=0:=by
   rw [leaveE,if_neg (by simp [h0]),if_neg (by rw [hlate];simp;omega),if_neg (by rw [hlen];omega)]
  rw [Xi e,hlen] at hpost
  subst hpost
  repeat' (first|refine ZC ?_|refine ZH (fun b=>?_)|refine Xd (fun o' cap'=>?_)|refine ZI 11 [Row _ _ _ _ _ _] [(0,0),(1,0),(2,0),(3,0),(4,0),(5,0),(6,1),(7,4),(8,0),(9,0)] [10] ?_|fail)
  refine k_lg' (m:=init.length+1+1) (xs:=(init++[y]).flatMap lff++lff x) (ls:=init++[y]++[x]) (o:=o') (cap:=cap') ?_ (by simp) (by simp)
  exact ZD () rfl trivial
theorem leave_ok (b:Nat) (ls:List Lf) (x:Lf) (hx:x.e.who.size≤1099511627776) (hl:ls.length≤1000000):Enters 15∧Spec prog 15 #[.pointer (some ⟨b,0,none⟩),x.v] [] [Lg b ls] (LvPost b ls x):=by
 by_cases h0:lchk x=0
 ·rcases List.eq_nil_or_concat ls with rfl|⟨init,y,rfl⟩
  ·exact leave_nil b x hx h0
  ·simp only [List.concat_eq_append] at hl ⊢
   exact leave_cons b init y x hx h0 (by simp at hl;omega)
 ·exact leave_bad b ls x hx h0
section
theorem k_lgf {b:Nat} {ls:List Lf} (t:∀o cap,Wk n C k Q E (Blk b (.cells #[.slice o ls.length cap] 94)::Sl 52 lff o cap ls::F) R) (hs:Sel (LgF b ls) F F0:=by (repeat (first|exact Sel.here|apply Sel.there));first|done|fail):Wk n C k Q E F R:=
 Zm (X:=Option Addr×Nat) (Fx:=fun q=>[Blk b (.cells #[.slice q.1 ls.length q.2] 94),Sl 52 lff q.1 q.2 ls]) (p:=fun _=>True) (f:=LgF b ls) hs (fun h ⟨q,h1,h2⟩=>⟨q,trivial,fun f hf=>by
  simp only [List.mem_cons,List.not_mem_nil,or_false] at hf
  rcases hf with rfl|rfl
  ·exact h1
  ·exact h2⟩) (fun q _=>t q.1 q.2)
end
theorem lgAll_ok (b:Nat) (ls:List Lf):Enters 35∧Spec prog 35 #[.pointer (some ⟨b,0,none⟩)] [LgF b ls] []
  ⟨Option Addr×Nat,fun q=>.slice q.1 ls.length q.2,fun _=>True,fun q=>[Sl 52 lff q.1 q.2 ls],fun _=>[]⟩:=by
 refine ZE [_] func35 ntmps35 fun G w hp=>?_
 refine k_lgf fun o cap=>?_
 repeat' (first|refine ZC ?_|fail)
 exact ZD (o,cap) rfl trivial
theorem V4 (b:Nat) (ls:List Lf):Enters 11∧Spec prog 11 #[.pointer (some ⟨b,0,none⟩)] [LgF b ls] [] (RetV (.int .i64 (ls.length:Int))):=by
 refine ZE [_] func11 ntmps11 fun G w hp=>?_
 repeat' (first|refine ZC ?_|refine ZA (lgAll_ok _ ls) (fun _ _=>?_)|fail)
 exact ZD () rfl trivial
theorem Wn (b:Nat) (ls:List Lf) (i:Nat) (x:Lf) (hi:ls[i]? = some x):Enters 12∧Spec prog 12 #[.pointer (some ⟨b,0,none⟩),.int .i64 (i:Int)] [LgF b ls] [] (RetV (.tuple #[x.v,.int .i64 0])):=by
 have hlt:=(List.getElem?_eq_some_iff.1 hi).1
 refine ZE [_,_] func12 ntmps12 fun G w hp=>?_
 refine k_lgf fun o cap=>?_
 repeat' (first|refine ZC ?_|refine ZH (fun b=>?_)|refine ZU (es:=ls) i x hi (fun b off=>?_)|refine ZQ ?_|(refine ZB (fun hc=>?_) (fun hc=>?_)<;>(try simp at hc)<;>(try omega))|fail)
 exact ZD () rfl trivial
section
theorem Zi {T sz m m' cap:Nat} {o:Option Addr} (xs xs':List Value) (hm:m=m') (hx:xs=xs') (t:Wk n C k Q E F (Row T sz o m' cap xs'::R0)) (hs:Sel (Row T sz o m cap xs) R R0:=by (repeat (first|exact Sel.here|apply Sel.there));first|done|fail):Wk n C k Q E F R:=by
 subst hm;subst hx
 exact fun a w ha hsat=>t a w ha (hsat.sel hs)
end
theorem getO_some {a:Nm}:∀{l:Al} {v:ByteArray},getO a l=some v→(a,v) ∈ l
 | [],_,h=>by cases h
 | (b,u)::l,v,h=>by
  rw [getO] at h
  split at h
  ·rename_i h0
   obtain rfl:=(Wx a b).1 h0
   obtain rfl:=Option.some.inj h
   simp
  ·exact List.mem_cons_of_mem _ (getO_some h)
def entO (es:Al) (a:Nm):Option En:=(odec ((getO a es).getD ⟨#[]⟩)).map fun o=>⟨a.owner,a.number,a.index,o⟩
def allN (es:Al) (ns:List Nm):List En:=ns.filterMap (entO es)
def allE (es:Al):List En:=allN es (kn es 18)
theorem allN_snoc (es:Al) (ns:List Nm) (a:Nm):allN es (ns++[a])=allN es ns++(entO es a).toList:=by
 unfold allN
 rw [List.filterMap_append]
 cases h:entO es a<;>simp [h]
structure AX (es:Al) where
 i:Nat
 o:Option Addr
 cap:Nat
 hi:i≤(kn es 18).length
set_option maxHeartbeats 1000000 in
theorem UL (ps:Option Addr) (es:Al):Enters 38∧Spec prog 38 #[.pointer ps] [St ps es] []
  ⟨Option Addr×Nat,fun q=>.slice q.1 (allE es).length q.2,fun _=>True,fun q=>[Sl 50 enf q.1 q.2 (allE es)],fun _=>[]⟩:=by
 refine ZE [_] func38 ntmps38 fun G w hp=>?_
 refine k_st (ps:=ps) (es:=es) (fun bs p t hp he hok=>?_)
 have hkl:(kn es 18).length≤65536:=by
  have h1:(kn es 18).length≤es.length:=by simp only [kn,List.length_map];exact List.length_filter_le ..
  have:=hok.len
  omega
 repeat' (first|refine ZC ?_|refine ZH (fun b=>?_)|refine ZM ?_|refine ZA (kind_ok ps es 18) (fun _ _=>?_)|refine ZP (kind_ok ps es 18) (fun _ _=>?_)|refine ZG (fun hc=>?_) (fun hc=>?_)|refine ZB (fun hc=>?_) (fun hc=>?_))
 rename_i q _
 obtain ⟨qo,qc⟩:=q
 refine ZO (Lx:=[]) (r:=Row 50 7 none 0 0 []) (fun h _=>Zb _ _ h) ?_
 refine Zj (X:=AX es) (fun x=>[(0,.pointer ps),(3,.slice x.o (allN es ((kn es 18).take x.i)).length x.cap),(11,.slice qo (kn es 18).length qc),(12,.int .i64 ((kn es 18).length:Int)),(13,.int .i64 (x.i:Int))]) (fun _=>[St ps es,Sl 120 nmf qo qc (kn es 18)]) (fun x=>[Row 50 7 x.o (allN es ((kn es 18).take x.i)).length x.cap ((allN es ((kn es 18).take x.i)).flatMap enf)]) (fun x=>(kn es 18).length - x.i) ⟨0,none,0,by omega⟩ ⟨rfl,rfl,rfl,rfl,rfl,trivial⟩ ?_
 rintro ⟨i,o,cap,hi⟩
 dsimp only
 by_cases hlt:i<(kn es 18).length
 ·obtain ⟨a,ha⟩:∃a,(kn es 18)[i]? = some a:=⟨_,List.getElem?_eq_getElem hlt⟩
  have hmem:a ∈ kn es 18:=List.mem_of_getElem? ha
  obtain ⟨x,hx,rfl⟩:=List.mem_map.1 hmem
  have hown:=hok.own x (List.mem_filter.1 hx).1
  have hval:((getO x.1 es).getD ⟨#[]⟩).size≤65536:=by
   cases hg:getO x.1 es with
   | none=>exact Nat.zero_le _
   | some v=>exact hok.val _ (getO_some hg)
  have n1:=stateGet_ok ps es x.1 hown
  have n2:=outDecode_ok ((getO x.1 es).getD ⟨#[]⟩) (by omega)
  have hsn:(kn es 18).take (i+1)=(kn es 18).take i++[x.1]:=by rw [List.take_add_one,ha];rfl
  have hall:=allN_snoc es ((kn es 18).take i) x.1
  rw [←hsn] at hall
  have hln:(allN es ((kn es 18).take i)).length≤65536:=by
   have h1:(allN es ((kn es 18).take i)).length≤((kn es 18).take i).length:=List.length_filterMap_le _ _
   simp at h1;omega
  cases hd:odec ((getO x.1 es).getD ⟨#[]⟩) with
  | none=>
   rw [hd] at n2
   have hent:entO es x.1=none:=by rw [entO,hd];rfl
   rw [hent,Option.toList_none,List.append_nil] at hall
   repeat' (first|refine ZC ?_|refine ZH (fun b=>?_)|refine ZM ?_|refine ZA (n1) (fun _ _=>?_)|refine ZP (n1) (fun _ _=>?_)|refine ZA (n2) (fun _ _=>?_)|refine ZP (n2) (fun _ _=>?_)|refine ZU (es:=kn es 18) i x.1 ha (fun b off=>?_)|refine ZQ ?_|(refine ZG (fun hc=>?_) (fun hc=>?_)<;>(try simp at hc)<;>(try omega))|(refine ZB (fun hc=>?_) (fun hc=>?_)<;>(try simp at hc)<;>(try omega)))
   rw [wrapi (z:=(i:Int)+1) (by omega) (by omega)]
   rw [←hall]
   exact ZJ ⟨i+1,o,cap,by omega⟩ (by show (kn es 18).length - (i+1)<(kn es 18).length - i;omega) ⟨rfl,rfl,rfl,rfl,rfl,trivial⟩
  | some ou=>
   rw [hd] at n2
   have hent:entO es x.1=some ⟨x.1.owner,x.1.number,x.1.index,ou⟩:=by rw [entO,hd];rfl
   rw [hent,Option.toList_some] at hall
   have e1:(allN es ((kn es 18).take i)).length+1=(allN es ((kn es 18).take (i+1))).length:=by rw [hall];simp
   have e2:(allN es ((kn es 18).take i)).flatMap enf++enf ⟨x.1.owner,x.1.number,x.1.index,ou⟩=(allN es ((kn es 18).take (i+1))).flatMap enf:=by rw [hall];simp
   repeat' (first|refine ZC ?_|refine ZH (fun b=>?_)|refine ZM ?_|refine ZA (n1) (fun _ _=>?_)|refine ZP (n1) (fun _ _=>?_)|refine ZA (n2) (fun _ _=>?_)|refine ZP (n2) (fun _ _=>?_)|refine ZU (es:=kn es 18) i x.1 ha (fun b off=>?_)|refine ZQ ?_|refine Zs (fun o' cap'=>?_)|(refine ZG (fun hc=>?_) (fun hc=>?_)<;>(try simp at hc)<;>(try omega))|(refine ZB (fun hc=>?_) (fun hc=>?_)<;>(try simp at hc)<;>(try omega)))
   rw [wrapi (z:=(i:Int)+1) (by omega) (by omega)]
   refine Zi (T:=50) (sz:=7) (o:=o') (cap:=cap') (m:=(allN es ((kn es 18).take i)).length+1) _ _ e1 e2 ?_
   rw [e1]
   exact ZJ ⟨i+1,o',cap',by omega⟩ (by show (kn es 18).length - (i+1)<(kn es 18).length - i;omega) ⟨rfl,rfl,rfl,rfl,rfl,trivial⟩
 ·have e:(kn es 18).take i=kn es 18:=List.take_of_length_le (by omega)
  rw [e]
  repeat' (first|refine ZC ?_|refine ZH (fun b=>?_)|refine ZM ?_|(refine ZG (fun hc=>?_) (fun hc=>?_)<;>(try simp at hc)<;>(try omega))|(refine ZB (fun hc=>?_) (fun hc=>?_)<;>(try simp at hc)<;>(try omega)))
  refine YA (T:=50) (sz:=7) (f:=enf) (o:=o) (cap:=cap) (allE es) ?_ rfl rfl
  exact ZD (o,cap) rfl trivial
def partv (t:Nat) (cs:List Value) (o:Nat):Option Value:=ldv t cs o
theorem WM {t:Nat} {cs:Array Value} {o:Nat} {v:Value} (h:partv t cs.toList o=some v) (w:World):(part t cs o).run prog w = .ok v w:=by
 unfold partv ldv at h
 have hag:∀r:TRow,lookT tab t=some r→r.k.isAgg=true→r.k≠.other→cutF cs.toList o r.size (fun l=>some (Value.agg l.toArray))=some v→(part t cs o).run prog w = .ok v w:=fun r hr ha ho hc=>by
  obtain ⟨h2,_,h3⟩:=Vy _ _ _ _ _ hc
  have hia:=ZR.isAgg hr ho w
  rw [ha] at hia
  have hsz:=ZR.sizeOf hr w
  unfold part
  simp only [Sem.run_bind,hia,Result.andThen,if_true,hsz,Sem.run_pure]
  rw [←Option.some.inj h2]
  congr 2
  rw [←Array.toList_inj]
  simp [List.extract_eq_take_drop]
 have hno:∀r:TRow,lookT tab t=some r→r.k.isAgg=false→r.k≠.other→nth cs.toList o=some v→(part t cs o).run prog w = .ok v w:=fun r hr ha ho hc=>by
  have hia:=ZR.isAgg hr ho w
  rw [ha] at hia
  rw [YW] at hc
  have hc:cs[o]? = some v:=by simpa using hc
  unfold part
  simp only [Sem.run_bind,hia,Result.andThen,Bool.false_eq_true,if_false,hc,Sem.run_pure]
 split at h
 ·rename_i hr;exact hag _ hr rfl (by simp) h
 ·rename_i hr;exact hag _ hr rfl (by simp) h
 ·cases h
 ·rename_i r hn1 hn2 hn3 hr
  refine hno _ hr ?_ ?_ h
  ·cases hk2:r.k<;>simp [TK.isAgg]<;>(obtain ⟨k,s1,b1,z1⟩:=r;simp at hk2;subst hk2;first|exact hn1 _ _ _ _ rfl|exact hn2 _ _ _ _ _ rfl)
  ·intro hk2;obtain ⟨k,s1,b1,z1⟩:=r;simp at hk2;subst hk2;exact hn3 _ _ _ rfl
 ·cases h
def memN:List Nat→Nat→Bool
 | [],_=>false
 | s::l,t=>match Nat.beq s t with
  | true=>true
  | false=>memN l t
theorem Xl:∀{l:List Nat} {t:Nat},memN l t=true→t ∈ l
 | s::l,t,h=>by
  unfold memN at h
  split at h
  ·rename_i hb
   obtain rfl:=Nat.eq_of_beq_eq_true hb
   simp
  ·exact List.mem_cons_of_mem _ (Xl h)
def eqFs (g:Nat→Value→Value→Option Bool):List (Nat×Nat×Nat)→List Value→List Value→Option Bool
 | [],_,_=>some true
 | (o,t,_)::fs,xs,ys=>match partv t xs o,partv t ys o with
  | some a,some b=>match g t a b with
   | some r=>match eqFs g fs xs ys with
    | some r'=>some (r && r')
    | none=>none
   | none=>none
  | _,_=>none
def eqIs (g:Value→Value→Option Bool) (e c:Nat) (xs ys:List Value):List Nat→Option Bool
 | []=>some true
 | i::is=>match partv e xs (i * c),partv e ys (i * c) with
  | some a,some b=>match g a b with
   | some r=>match eqIs g e c xs ys is with
    | some r'=>some (r && r')
    | none=>none
   | none=>none
  | _,_=>none
def eqC (S:List Nat):Nat→Nat→Value→Value→Option Bool
 | 0,_,_,_=>none
 | f+1,t,x,y=>match lookT tab t with
  | some ⟨.int _,_,_,_⟩=>match x,y with
   | .int k a,.int l b=>bif ikEq k l then some (a == b) else none
   | _,_=>none
  | some ⟨.str,_,_,_⟩=>match x,y with
   | .string a,.string b=>some (a.toList == b.toList)
   | _,_=>none
  | some ⟨.bool,_,_,_⟩=>match x,y with
   | .bool a,.bool b=>some (a == b)
   | _,_=>none
  | some ⟨.struct fs,_,_,_⟩=>match x,y with
   | .agg xs,.agg ys=>bif memN S t then eqFs (eqC S f) fs xs.toList ys.toList else none
   | _,_=>none
  | some ⟨.arr n e,_,_,_⟩=>match lookT tab e,x,y with
   | some re,.agg xs,.agg ys=>eqIs (eqC S f e) e re.size xs.toList ys.toList (List.range n)
   | _,_,_=>none
  | _=>none
noncomputable def chkE (t : Nat) : Bool := (match prog.underlying t with | some (.struct fs) => fs.toList.all (fun f => f.name != "_") | some (.array _ _) => true | _ => false) && (prog.stoodInHeld t == false) && (prog.eqGuardType prog.depth t == false)
theorem eqFs_ok {g:Nat→Value→Value→Option Bool} {d:Nat} (hg:∀t x y b w,g t x y=some b→(Op.equalIn d t x y).run prog w = .ok b w):∀(fl:List Field) (fs:List (Nat×Nat×Nat)) (xs ys:Array Value) (b:Bool) (w:World),
  fl.map (fun f => (f.offset, f.type, ((prog.info? f.type).map (·.size)).getD 0)) = fs → fl.all (fun f => f.name != "_") = true → eqFs g fs xs.toList ys.toList = some b → (Op.eqFields d xs ys fl).run prog w = .ok b w
 | [],_,_,_,b,w,h,_,he=>by
  subst h
  obtain rfl:=Option.some.inj he
  rfl
 | f::fl,_,xs,ys,b,w,h,hn,he=>by
  subst h
  simp only [List.map_cons,eqFs] at he
  simp only [List.all_cons,Bool.and_eq_true,bne_iff_ne,ne_eq] at hn
  split at he
  ·rename_i a c ha hc
   split at he
   ·rename_i r hr
    split at he
    ·rename_i r' hr'
     obtain rfl:=Option.some.inj he
     have ih:=eqFs_ok hg fl _ xs ys r' w rfl hn.2 hr'
     unfold Op.eqFields
     rw [if_pos hn.1]
     simp only [Sem.run_bind,WM ha w,WM hc w,hg _ _ _ _ w hr,Result.andThen]
     cases r with
     | false=>simp
     | true=>simpa using ih
    ·cases he
   ·cases he
  ·cases he
theorem eqIs_ok {g:Value→Value→Option Bool} {d e c:Nat} (hg:∀x y b w,g x y=some b→(Op.equalIn d e x y).run prog w = .ok b w) (xs ys:Array Value):∀(is:List Nat) (b:Bool) (w:World),eqIs g e c xs.toList ys.toList is=some b→(Op.eqItems d e c xs ys is).run prog w = .ok b w
 | [],b,w,he=>by
  obtain rfl:=Option.some.inj he
  rfl
 | i::is,b,w,he=>by
  simp only [eqIs] at he
  split at he
  ·rename_i a c ha hc
   split at he
   ·rename_i r hr
    split at he
    ·rename_i r' hr'
     obtain rfl:=Option.some.inj he
     have ih:=eqIs_ok hg xs ys is r' w hr'
     unfold Op.eqItems
     simp only [Sem.run_bind,WM ha w,WM hc w,hg _ _ _ w hr,Result.andThen]
     cases r with
     | false=>simp
     | true=>simpa using ih
    ·cases he
   ·cases he
  ·cases he
theorem VD {S:List Nat} (hS:S.all chkE=true):∀(f d t:Nat) (x y:Value) (b:Bool) (w:World),f≤d→eqC S f t x y=some b→(Op.equalIn d t x y).run prog w = .ok b w
 | 0,_,_,_,_,_,_,_,h=>by cases h
 | f+1,0,_,_,_,_,_,hd,_=>by omega
 | f+1,d+1,t,x,y,b,w,hd,h=>by
  unfold eqC at h
  split at h
  ·rename_i k0 _ _ _ hr
   split at h
   ·rename_i k a l c
    cases hk:ikEq k l with
    | false=>simp [hk] at h
    | true=>
     simp only [hk,cond_true] at h
     obtain rfl:=ikEq_eq hk
     obtain rfl:=Option.some.inj h
     obtain ⟨dd,hd1,hk1⟩:=ZR.und hr
     cases dd<;>simp [chkKind] at hk1
     exact run_equalIn_int w d t k _ a c hd1
   ·cases h
  ·rename_i hr
   split at h
   ·rename_i a c
    obtain rfl:=Option.some.inj h
    obtain ⟨dd,hd1,hk1⟩:=ZR.und hr
    cases dd<;>simp [chkKind] at hk1
    exact run_equalIn_string w d t a c hd1
   ·cases h
  ·rename_i hr
   split at h
   ·rename_i a c
    obtain rfl:=Option.some.inj h
    obtain ⟨dd,hd1,hk1⟩:=ZR.und hr
    cases dd<;>simp [chkKind] at hk1
    exact run_equalIn_bool' w d t a c hd1
   ·cases h
  ·rename_i fs _ _ _ hr
   split at h
   ·rename_i xs ys
    cases hm:memN S t with
    | false=>simp [hm] at h
    | true=>
     simp only [hm,cond_true] at h
     have hc:=List.all_eq_true.1 hS t (Xl hm)
     simp only [chkE,Bool.and_eq_true,beq_iff_eq] at hc
     obtain ⟨dd,hd1,hk1⟩:=ZR.und hr
     cases dd<;>simp [chkKind] at hk1
     rename_i fl
     have hfo:prog.fieldsOf t=fl:=by simp [Program.fieldsOf,hd1]
     rw [run_equalIn_struct w d t xs ys (by rw [hfo];exact hd1) hc.1.2,hfo]
     have hnm:=hc.1.1
     rw [hd1] at hnm
     refine eqFs_ok (g:=eqC S f) (fun t x y b w hh=>VD hS f d t x y b w (by omega) hh) fl.toList fs xs ys b w ?_ hnm h
     simpa using hk1.1
   ·cases h
  ·rename_i m e _ _ _ hr
   split at h
   ·rename_i re xs ys hre
    obtain ⟨dd,hd1,hk1⟩:=ZR.und hr
    cases dd<;>simp [chkKind] at hk1
    obtain ⟨rfl,rfl⟩:=hk1
    obtain ⟨inf,_,_,hi,_,hsz,_⟩:=ZR.row hre
    rw [run_equalIn_array w d xs ys hd1 hi]
    have hce:prog.cellsOf e=re.size:=by rw [←hsz];simp [Program.cellsOf,hi]
    rw [hce]
    exact eqIs_ok (g:=eqC S f e) (fun x y b w hh=>VD hS f d e x y b w (by omega) hh) xs ys _ b w h
   ·cases h
  ·cases h
def eqS:List Nat:=[38,50,40,129,120,151,52,42,44,87]
theorem Y3:eqS.all chkE=true:=by decide +kernel
theorem equal_ok {t:Nat} {x y:Value} {b:Bool} (h:eqC eqS 20 t x y=some b) (w:World):(Op.equal t x y).run prog w = .ok b w:=VD Y3 20 10000 t x y b w (by omega) h
section
variable {l:List Oper} {t2:TypeId} {xs ys:Array Value}
theorem l_seq {b:Bool} (nx:Wl n C ops.toArray k Q l ((d,.bool b)::E) F R) (hw:wantL ops E ⟨some d,.binOp .eql t x y t2,ty0,pos,aft,gd⟩=some true:=by rfl) (hn:Nat.blt d n=true:=by rfl)
  (hx:ev E x=some (.agg xs):=by rfl) (hy:ev E y=some (.agg ys):=by rfl) (hm:memN eqS t=true:=by rfl) (he:eqC eqS 20 t (.agg xs) (.agg ys)=some b:=by rfl):Wl n C ops.toArray k Q (⟨some d,.binOp .eql t x y t2,ty0,pos,aft,gd⟩::l) E F R:=
 l_q (fun a w ha=>by
  have hc:=List.all_eq_true.1 Y3 t (Xl hm)
  simp only [chkE,Bool.and_eq_true,beq_iff_eq] at hc
  have h1:=VD Y3 20 10000 t _ _ b w (by omega) he
  simp only [execOp,ha.ev (x:=x) (by rw [ZF];exact hx),ha.ev (x:=y) (by rw [ZF];exact hy),Sem.run_bind,run_eqGuard_agg w .eql t x y xs ys hc.2,Result.andThen,run_eql_struct,h1,Sem.run_pure]) nx (by intro c h;cases h) hw hn
theorem l_sneq {b:Bool} (nx:Wl n C ops.toArray k Q l ((d,.bool (!b))::E) F R) (hw:wantL ops E ⟨some d,.binOp .neq t x y t2,ty0,pos,aft,gd⟩=some true:=by rfl) (hn:Nat.blt d n=true:=by rfl)
  (hx:ev E x=some (.agg xs):=by rfl) (hy:ev E y=some (.agg ys):=by rfl) (hm:memN eqS t=true:=by rfl) (he:eqC eqS 20 t (.agg xs) (.agg ys)=some b:=by rfl):Wl n C ops.toArray k Q (⟨some d,.binOp .neq t x y t2,ty0,pos,aft,gd⟩::l) E F R:=
 l_q (fun a w ha=>by
  have hc:=List.all_eq_true.1 Y3 t (Xl hm)
  simp only [chkE,Bool.and_eq_true,beq_iff_eq] at hc
  have h1:=VD Y3 20 10000 t _ _ b w (by omega) he
  simp only [execOp,ha.ev (x:=x) (by rw [ZF];exact hx),ha.ev (x:=y) (by rw [ZF];exact hy),Sem.run_bind,run_eqGuard_agg w .neq t x y xs ys hc.2,Result.andThen,run_neq_struct,h1,Sem.run_pure]) nx (by intro c h;cases h) hw hn
theorem r_seq {b:Bool} (nx:Wr n C ops k Q Tl Fs R L ((d,.bool b)::E) F N) (ho:nth ops i=some ⟨some d,.binOp .eql t x y t2,ty0,pos,aft,gd⟩:=by rfl) (hw:wantL ops E ⟨some d,.binOp .eql t x y t2,ty0,pos,aft,gd⟩=some true:=by rfl)
  (hx:ev E x=some (.agg xs):=by rfl) (hy:ev E y=some (.agg ys):=by rfl) (hm:memN eqS t=true:=by rfl) (he:eqC eqS 20 t (.agg xs) (.agg ys)=some b:=by rfl):Wr n C ops k Q Tl Fs R ((i,0)::L) E F N:=
 r_q (fun a w ha=>by
  have hc:=List.all_eq_true.1 Y3 t (Xl hm)
  simp only [chkE,Bool.and_eq_true,beq_iff_eq] at hc
  have h1:=VD Y3 20 10000 t _ _ b w (by omega) he
  simp only [execOp,ha.ev (x:=x) (by rw [ZF];exact hx),ha.ev (x:=y) (by rw [ZF];exact hy),Sem.run_bind,run_eqGuard_agg w .eql t x y xs ys hc.2,Result.andThen,run_eql_struct,h1,Sem.run_pure]) nx ho hw
theorem VI {b:Bool} (nx:Wr n C ops k Q Tl Fs R L ((d,.bool (!b))::E) F N) (ho:nth ops i=some ⟨some d,.binOp .neq t x y t2,ty0,pos,aft,gd⟩:=by rfl) (hw:wantL ops E ⟨some d,.binOp .neq t x y t2,ty0,pos,aft,gd⟩=some true:=by rfl)
  (hx:ev E x=some (.agg xs):=by rfl) (hy:ev E y=some (.agg ys):=by rfl) (hm:memN eqS t=true:=by rfl) (he:eqC eqS 20 t (.agg xs) (.agg ys)=some b:=by rfl):Wr n C ops k Q Tl Fs R ((i,0)::L) E F N:=
 r_q (fun a w ha=>by
  have hc:=List.all_eq_true.1 Y3 t (Xl hm)
  simp only [chkE,Bool.and_eq_true,beq_iff_eq] at hc
  have h1:=VD Y3 20 10000 t _ _ b w (by omega) he
  simp only [execOp,ha.ev (x:=x) (by rw [ZF];exact hx),ha.ev (x:=y) (by rw [ZF];exact hy),Sem.run_bind,run_eqGuard_agg w .neq t x y xs ys hc.2,Result.andThen,run_neq_struct,h1,Sem.run_pure]) nx ho hw
end
def ckFs (g:Nat→Value→Bool):List (Nat×Nat×Nat)→List Value→Bool
 | [],_=>true
 | (o,t,_)::fs,xs=>match partv t xs o with
  | some a=>g t a && ckFs g fs xs
  | none=>false
def ckC (S:List Nat):Nat→Nat→Value→Bool
 | 0,_,_=>false
 | f+1,t,x=>match lookT tab t with
  | some ⟨.int _,_,_,_⟩=>true
  | some ⟨.str,_,_,_⟩=>true
  | some ⟨.bool,_,_,_⟩=>true
  | some ⟨.struct fs,_,_,_⟩=>match x with
   | .agg xs=>memN S t && ckFs (ckC S f) fs xs.toList
   | _=>false
  | _=>false
theorem ckFs_ok {g:Nat→Value→Bool} {d:Nat} {em:Bool} (hg:∀t x w,g t x=true→(Instr.checkKey em d t x).run prog w = .ok () w):∀(fl:List Field) (fs:List (Nat×Nat×Nat)) (xs:Array Value) (w:World),
  fl.map (fun f=>(f.offset,f.type,((prog.info? f.type).map (·.size)).getD 0))=fs→ckFs g fs xs.toList=true→
  (forIn fl PUnit.unit (fun f _ => if f.name ≠ "_" then (do
    let a ←part f.type xs f.offset
    Instr.checkKey em d f.type a
    pure (ForInStep.yield PUnit.unit)) else pure (ForInStep.yield PUnit.unit)):Sem PUnit).run prog w = .ok PUnit.unit w
 | [],_,_,w,_,_=>rfl
 | f::fl,_,xs,w,h,he=>by
  subst h
  simp only [List.map_cons,ckFs] at he
  split at he
  ·rename_i a ha
   rw [Bool.and_eq_true] at he
   have ih:=ckFs_ok hg fl _ xs w rfl he.2
   rw [List.forIn_cons]
   by_cases hn : f.name ≠ "_"
   ·rw [if_pos hn]
    simp only [Sem.run_bind,WM ha w,hg _ _ w he.1,Result.andThen,Sem.run_pure]
    exact ih
   ·rw [if_neg hn]
    simp only [Sem.run_bind,Result.andThen,Sem.run_pure]
    exact ih
  ·cases he
theorem ckC_ok {S:List Nat} (hS:S.all chkE=true) (em:Bool):∀(f d t:Nat) (x:Value) (w:World),f≤d→ckC S f t x=true→(Instr.checkKey em d t x).run prog w = .ok () w
 | 0,_,_,_,_,_,h=>by cases h
 | f+1,0,_,_,_,hd,_=>by omega
 | f+1,d+1,t,x,w,hd,h=>by
  unfold ckC at h
  split at h
  ·rename_i hr
   obtain ⟨dd,hd1,hk1⟩:=ZR.und hr
   cases dd<;>simp [chkKind] at hk1
   simp [Instr.checkKey,underlying,hd1,go_sem]
  ·rename_i hr
   obtain ⟨dd,hd1,hk1⟩:=ZR.und hr
   cases dd<;>simp [chkKind] at hk1
   simp [Instr.checkKey,underlying,hd1,go_sem]
  ·rename_i hr
   obtain ⟨dd,hd1,hk1⟩:=ZR.und hr
   cases dd<;>simp [chkKind] at hk1
   simp [Instr.checkKey,underlying,hd1,go_sem]
  ·rename_i fs _ _ _ hr
   split at h
   ·rename_i xs
    rw [Bool.and_eq_true] at h
    obtain ⟨dd,hd1,hk1⟩:=ZR.und hr
    cases dd<;>simp [chkKind] at hk1
    rename_i fl
    have hu:(underlying t).run prog w = .ok (.struct fl) w:=by simp [underlying,hd1,go_sem]
    have hl:=ckFs_ok (g:=ckC S f) (d:=d) (em:=em) (fun t x w hh=>ckC_ok hS em f d t x w (by omega) hh) fl.toList fs xs w (by simpa using hk1.1) h.2
    unfold Instr.checkKey
    simp only [Sem.run_bind,hu,Result.andThen]
    rw [←Array.forIn_toList]
    rw [hl]
    rfl
   ·cases h
  ·cases h
structure KeyOK {α:Type} [DecidableEq α] (kt:Nat) (K:α→Value):Prop where
 eq:∀a b w,(Op.equal kt (K a) (K b)).run prog w = .ok (decide (a=b)) w
 chk:∀a em w,(Instr.checkKey em 10000 kt (K a)).run prog w = .ok () w
 bits:∀a,Instr.sameBits 10000 (K a) (K a)=true
 now:∃d,prog.underlying kt=some d∧∀a b,Instr.sameNow d (K a) (K b)=none∨Instr.sameNow d (K a) (K b)=some (decide (a=b))
section
variable {α β:Type} [DecidableEq α]
def mfind (a:α):List (α×β)→Nat→Option (Nat×β)
 | [],_=>none
 | (b,v)::m,i=>if a=b then some (i,v) else mfind a m (i+1)
def mget (a:α):List (α×β)→Option β
 | []=>none
 | (b,v)::m=>if a=b then some v else mget a m
def mset (a:α) (v:β):List (α×β)→List (α×β)
 | []=>[(a,v)]
 | (b,u)::m=>if a=b then (a,v)::m else (b,u)::mset a v m
theorem Xf (a:α):∀(m:List (α×β)) (i:Nat),(mfind a m i).map (·.2)=mget a m
 | [],_=>rfl
 | (b,v)::m,i=>by
  unfold mfind mget
  split
  ·rfl
  ·exact Xf a m (i+1)
variable {kt:Nat} {K:α→Value} {V:β→Value}
theorem VB (hk:KeyOK kt K) (a:α):∀(es:List MapEntry) (m:List (α×β)) (i:Nat) (w:World),es.map (fun e=>(e.key,e.val))=m.map (fun x=>(K x.1,V x.2))→
  (Instr.findAsking kt (K a) es i).run prog w = .ok ((mfind a m i).map fun p=>(p.1,V p.2)) w
 | [],m,i,w,h=>by
  cases m with
  | nil=>rfl
  | cons=>simp at h
 | e::es,m,i,w,h=>by
  cases m with
  | nil=>simp at h
  | cons x m=>
   obtain ⟨b,v⟩:=x
   simp only [List.map_cons,List.cons.injEq,Prod.mk.injEq] at h
   obtain ⟨⟨h1,h2⟩,h3⟩:=h
   unfold Instr.findAsking mfind
   simp only [Sem.run_bind,h1,hk.eq a b w,Result.andThen]
   by_cases hab:a=b
   ·simp [hab,h2]
   ·simp only [hab,decide_false,Bool.false_eq_true,if_false]
    exact VB hk a es m (i+1) w h3
theorem findNow_ok {d:TypeDesc} (hd:∀a b,Instr.sameNow d (K a) (K b)=none∨Instr.sameNow d (K a) (K b)=some (decide (a=b))) (a:α):∀(es:List MapEntry) (m:List (α×β)) (i:Nat) (r:Option (Nat×Value)),es.map (fun e=>(e.key,e.val))=m.map (fun x=>(K x.1,V x.2))→
  Instr.findNow d (K a) es i=some r→r=(mfind a m i).map fun p=>(p.1,V p.2)
 | [],m,i,r,h,hr=>by
  cases m with
  | nil=>exact (Option.some.inj hr).symm
  | cons=>simp at h
 | e::es,m,i,r,h,hr=>by
  cases m with
  | nil=>simp at h
  | cons x m=>
   obtain ⟨b,v⟩:=x
   simp only [List.map_cons,List.cons.injEq,Prod.mk.injEq] at h
   obtain ⟨⟨h1,h2⟩,h3⟩:=h
   unfold Instr.findNow at hr
   unfold mfind
   rw [h1] at hr
   rcases hd a b with e1|e1
   ·rw [e1] at hr;cases hr
   ·rw [e1] at hr
    by_cases hab:a=b
    ·simp only [hab,decide_true] at hr
     simp [hab,←Option.some.inj hr,h2]
    ·simp only [hab,decide_false] at hr
     rw [if_neg hab]
     exact findNow_ok hd a es m (i+1) r h3 hr
theorem Yo (hk:KeyOK kt K) (a:α) (es:List MapEntry) (m:List (α×β)) (w:World) (h:es.map (fun e=>(e.key,e.val))=m.map (fun x=>(K x.1,V x.2))) :
  (Instr.findKey kt (K a) es).run prog w = .ok ((mfind a m 0).map fun p=>(p.1,V p.2)) w:=by
 obtain ⟨d,hd,hn⟩:=hk.now
 have hu:(underlying kt).run prog w = .ok d w:=by simp [underlying,hd,go_sem]
 unfold Instr.findKey
 simp only [Sem.run_bind,hu,Result.andThen]
 split
 ·rename_i r hr
  rw [findNow_ok hn a es m 0 r h hr];rfl
 ·exact VB hk a es m 0 w h
def BornOK (es:Array MapEntry) (clock:Nat):Prop:=(es.toList.map (·.born)).Nodup∧∀e ∈ es.toList,e.born<clock
def Mp (K:α→Value) (V:β→Value) (r:Nat) (m:List (α×β)):HP:=fun h=>∃es clock,h r=some (.map es clock)∧es.toList.map (fun e=>(e.key,e.val))=(m.map fun x=>(K x.1,V x.2))∧BornOK es clock
theorem UE (a:α) (v:β):∀(m:List (α×β)) (i:Nat),mfind a m i=none→mset a v m=m++[(a,v)]
 | [],_,_=>rfl
 | (b,u)::m,i,h=>by
  unfold mfind at h
  split at h
  ·cases h
  ·rename_i hab
   rw [mset,if_neg hab,UE a v m (i+1) h];rfl
theorem UT (a:α) (v:β):∀(m:List (α×β)) (i j:Nat) (u:β),mfind a m i=some (j,u)→∃p,j=i+p∧m[p]? = some (a,u)∧mset a v m=m.set p (a,v)
 | [],_,_,_,h=>by cases h
 | (b,u')::m,i,j,u,h=>by
  unfold mfind at h
  split at h
  ·rename_i hab
   subst hab
   simp only [Option.some.injEq,Prod.mk.injEq] at h
   obtain ⟨rfl,rfl⟩:=h
   exact ⟨0,by omega,by simp,by simp [mset]⟩
  ·rename_i hab
   obtain ⟨p,h1,h2,h3⟩:=UT a v m (i+1) j u h
   exact ⟨p+1,by omega,by simpa using h2,by simp [mset,hab,h3]⟩
end
theorem Yi {G:H} {w0 w:World} {hp0:H} {F:List Pf} {R:List HP} {b:Nat} {o o':Obj} (hs:Sat G w0 hp0 F (Pt b o::R) w):Sat G w0 hp0 F (Pt b o'::R) {w with heap:=w.heap.setIfInBounds b o'}:=by
 have hb:=hs.pt Sel.here
 have hlt:=(Array.getElem?_eq_some_iff.1 hb).1
 refine hs.write ⟨rfl,rfl,rfl,by simp⟩ ?_ fun c hc _=>?_
 ·simp [hlt]
 ·simp only [Array.getElem?_setIfInBounds];rw [if_neg (fun e=>hc e.symm)]
theorem mp_open {α β:Type} {K:α→Value} {V:β→Value} {r:Nat} {m:List (α×β)} {G:H} {w0 w:World} {hp0:H} {F:List Pf} {R R0:List HP} (hs:Sel (Mp K V r m) R R0) (h:Sat G w0 hp0 F R w) :
  ∃es clock,Sat G w0 hp0 F (Pt r (.map es clock)::R0) w∧es.toList.map (fun e=>(e.key,e.val))=(m.map fun x=>(K x.1,V x.2))∧BornOK es clock:=by
 obtain ⟨⟨⟨es,clock⟩,he,hB⟩,h1⟩:=(h.sel hs).open' (X:={x:Array MapEntry×Nat // x.1.toList.map (fun e=>(e.key,e.val))=(m.map fun x=>(K x.1,V x.2))∧BornOK x.1 x.2}) (L:=fun x=>[Pt r (.map x.1.1 x.1.2)]) fun k hk=>by
  obtain ⟨es,clock,h1,h2,h3⟩:=hk
  exact ⟨⟨(es,clock),h2,h3⟩,k,emp,(fun _=>.inr rfl),Sub.refl _,(fun _ _ e=>by cases e),h1,trivial⟩
 exact ⟨es,clock,h1,he,hB⟩
theorem V5 {α β:Type} {K:α→Value} {V:β→Value} {r:Nat} {m:List (α×β)} {G:H} {w0 w:World} {hp0:H} {F:List Pf} {R0:List HP} {es:Array MapEntry} {clock:Nat} (h:Sat G w0 hp0 F (Pt r (.map es clock)::R0) w)
  (he:es.toList.map (fun e=>(e.key,e.val))=m.map fun x=>(K x.1,V x.2)) (hB:BornOK es clock):Sat G w0 hp0 F (Mp K V r m::R0) w:=
 h.shut (L:=[Pt r (.map es clock)]) fun k hk=>by
  obtain ⟨h1,h2,_,s1,_,hx,_⟩:=hk
  exact ⟨es,clock,s1 _ _ hx,he,hB⟩
def zval (r:TRow):Option Value:=bif r.k.isAgg then some (.agg r.zero.toArray) else match r.zero with | [z]=>some z|_=>none
theorem Wy {t:Nat} {r:TRow} {z:Value} (hr:lookT tab t=some r) (hz:zval r=some z) (w:World):(zeroValue t).run prog w = .ok z w:=by
 have h1:=List.all_eq_true.1 ZR _ (lookT_mem hr)
 simp only [chkRow] at h1
 split at h1
 ·rename_i i d hi hd
  simp only [Bool.and_eq_true,beq_iff_eq] at h1
  obtain ⟨_,h5⟩:=h1
  split at h5
  ·rename_i z0 hz0
   rw [Bool.and_eq_true] at h5
   have hc:=zeqs_eq h5.1
   have hzz:z=z0:=by
    unfold zval at hz
    cases z0 with
    | agg cs=>
     simp only at h5
     rw [h5.2] at hz
     simp only [cond_true,Option.some.injEq] at hz
     rw [←hz,←hc];simp [Value.cells]
    | _=>
     simp only [Bool.not_eq_true'] at h5
     rw [h5.2] at hz
     simp only [Value.cells] at hc
     rw [←hc] at hz
     simpa using hz.symm
   subst hzz
   simp [zeroValue,typeInfo,hi,hz0,go_sem]
  ·cases h5
 ·cases h1
section
variable {n:Nat} {C:Cx} {Q:Exit→Act→World→Prop} {E E':List (Nat×Value)} {F F' F1 Fs F0:List Pf} {R R' R0 Rs N N' A:List HP} {k k':List Fr} {ops l:List Oper} {i d:Nat} {t ty0:TypeId} {x y z:Operand} {pos:String} {aft:Array Edge} {gd:Option (Nat×Bool)} {α β:Type} [DecidableEq α] {K:α→Value} {V:β→Value}
theorem Xg {kt et:Nat} {w:World} {rs:TRow} (hts:lookT tab t=some rs) (hrs:rs.k = .map kt et):(underlying t).run prog w = .ok (.map kt et) w:=by
 obtain ⟨d1,hd1,hk1⟩:=ZR.und hts
 rw [hrs] at hk1
 cases d1<;>simp [chkKind] at hk1
 obtain ⟨rfl,rfl⟩:=hk1
 simp [underlying,hd1,go_sem]
theorem Yk {kt et:Nat} {rs:TRow} (_hk:KeyOK kt K) (V:β→Value) (nx:∀r,Wl n C ops.toArray k Q l ((d,.map (some r))::E) F (Mp K V r []::R)) (hw:wantL ops E ⟨some d,.makeMap t none,ty0,pos,aft,gd⟩=some true:=by rfl) (hn:Nat.blt d n=true:=by rfl) (_hts:lookT tab t=some rs:=by rfl) (_hrs:rs.k = .map kt et:=by rfl) :
  Wl n C ops.toArray k Q (⟨some d,.makeMap t none,ty0,pos,aft,gd⟩::l) E F R:=
 Zn (fun t ht=>by cases ht;exact Nat.le_of_ble_eq_true hn) (fun c hc=>by cases hc) hw fun a w ha hsat=>by
  have h1:=hsat.alloc (.map #[] 0)
  exact fun a' ha'=>nx w.heap.size a' _ ha' (V5 (K:=K) (V:=V) (m:=[]) h1 rfl ⟨by simp,by simp⟩)
theorem Y2 {kt et r:Nat} {rs:TRow} {m:List (α×β)} (hk:KeyOK kt K) (a:α) (v:β) (nx:Wl n C ops.toArray k Q l E F (Mp K V r (mset a v m)::R0)) (hw:wantL ops E ⟨none,.mapUpdate t x y z,ty0,pos,aft,gd⟩=some true:=by rfl)
  (hx:ev E x=some (.map (some r)):=by rfl) (hy:ev E y=some (K a):=by rfl) (hz:ev E z=some (V v):=by rfl) (hts:lookT tab t=some rs:=by rfl) (hrs:rs.k = .map kt et:=by rfl)
  (hs:Sel (Mp K V r m) R R0:=by (repeat (first|exact Sel.here|apply Sel.there));first|done|fail):Wl n C ops.toArray k Q (⟨none,.mapUpdate t x y z,ty0,pos,aft,gd⟩::l) E F R:=
 Zn (fun t ht=>by cases ht) (fun c hc=>by cases hc) hw fun ac w ha hsat=>by
  obtain ⟨es,clock,h1,he,hB⟩:=mp_open hs hsat
  have hb:=h1.pt Sel.here
  have hu:=Xg (w:=w) hts hrs
  have hg:(getObj r).run prog w = .ok (.map es clock) w:=by simp [getObj,Sem.run,hb]
  have hc:=hk.chk a false w
  have hf:=Yo hk a es.toList m w he
  unfold OpRes
  simp only [execOp,ha.ev (x:=x) (by rw [ZF];exact hx),ha.ev (x:=y) (by rw [ZF];exact hy),ha.ev (x:=z) (by rw [ZF];exact hz),Instr.mapUpdate,Sem.run_bind,hu,Result.andThen,hg,hc,hf]
  cases hm:mfind a m 0 with
  | none=>
   simp only [Option.map_none]
   have hset:(setObj r (.map (es.push {key:=K a,val:=V v,born:=clock}) (clock+1))).run prog w = .ok () {w with heap:=w.heap.setIfInBounds r (.map (es.push {key:=K a,val:=V v,born:=clock}) (clock+1))}:=by simp [setObj,Sem.run,hb]
   simp only [hset,Sem.run_pure]
   refine fun a' ha'=>nx a' _ ha' (V5 (Yi h1) ?_ ?_)
   ·rw [UE a v m 0 hm]
    simp [he]
   ·refine ⟨?_,fun e hem=>?_⟩
    ·rw [Array.toList_push,List.map_append]
     refine List.nodup_append.2 ⟨hB.1,by simp,fun b hb c hc=>?_⟩
     obtain ⟨e,hem,rfl⟩:=List.mem_map.1 hb
     have:=hB.2 e hem
     simp at hc
     omega
    ·rw [Array.toList_push] at hem
     rcases List.mem_append.1 hem with hem|hem
     ·have:=hB.2 e hem;omega
     ·obtain rfl:=List.mem_singleton.1 hem
      exact Nat.lt_succ_self _
  | some q=>
   obtain ⟨j,u⟩:=q
   obtain ⟨p,hj,hp,hms⟩:=UT a v m 0 j u hm
   obtain rfl:j=p:=by omega
   have hkey:(es.toList.map (fun e=>(e.key,e.val)))[j]? = some (K a,V u):=by rw [he];simp [hp]
   have hold:((es[j]?).map (·.key)).getD (K a)=K a:=by
    simp only [List.getElem?_map,Array.getElem?_toList,Option.map_eq_some_iff] at hkey
    obtain ⟨e,he1,he2⟩:=hkey
    rw [he1]
    simp only [Prod.mk.injEq] at he2
    simp [he2.1]
   simp only [Option.map_some]
   have hkt:(Instr.keyThatStays (((es[j]?).map (·.key)).getD (K a)) (K a)).run prog w = .ok (K a) w:=by
    rw [hold];simp [Instr.keyThatStays,hk.bits a]
   have hset:(setObj r (.map (es.modify j fun e=>{e with key:=K a,val:=V v}) clock)).run prog w = .ok () {w with heap:=w.heap.setIfInBounds r (.map (es.modify j fun e=>{e with key:=K a,val:=V v}) clock)}:=by simp [setObj,Sem.run,hb]
   simp only [hkt,Sem.run_bind,Result.andThen,hset,Sem.run_pure]
   have hborn:(es.modify j fun e=>{e with key:=K a,val:=V v}).toList.map (·.born)=es.toList.map (·.born):=by
    apply List.ext_getElem?
    intro i
    simp only [List.getElem?_map,Array.getElem?_toList,Array.getElem?_modify]
    split
    ·cases es[i]?<;>rfl
    ·rfl
   refine fun a' ha'=>nx a' _ ha' (V5 (Yi h1) ?_ ⟨by rw [hborn];exact hB.1,fun e hem=>?_⟩)
   rotate_left
   ·have h3:e.born ∈ es.toList.map (·.born):=by rw [←hborn];exact List.mem_map_of_mem hem
    obtain ⟨e',hem',he'⟩:=List.mem_map.1 h3
    rw [←he'];exact hB.2 e' hem'
   rw [hms]
   apply List.ext_getElem?
   intro i
   have hei:(es.toList.map (fun e=>(e.key,e.val)))[i]? = (m.map fun x=>(K x.1,V x.2))[i]?:=by rw [he]
   simp only [List.getElem?_map,Array.getElem?_toList,Array.getElem?_modify,List.getElem?_set] at hei ⊢
   by_cases hij:j=i
   ·subst hij
    simp only [if_true]
    have hlt:=(List.getElem?_eq_some_iff.1 hp).1
    rw [if_pos hlt]
    rw [hp] at hei
    simp only [Option.map_some,Option.map_eq_some_iff] at hei
    obtain ⟨e,he1,_⟩:=hei
    simp [he1]
   ·simp only [if_neg hij]
    exact hei
theorem l_mget {kt et r:Nat} {rs te:TRow} {m:List (α×β)} {zv:Value} (hk:KeyOK kt K) (a:α) (nx:Wl n C ops.toArray k Q l ((d,((mget a m).map V).getD zv)::E) F R) (hw:wantL ops E ⟨some d,.lookup t x y false,ty0,pos,aft,gd⟩=some true:=by rfl) (hn:Nat.blt d n=true:=by rfl)
  (hx:ev E x=some (.map (some r)):=by rfl) (hy:ev E y=some (K a):=by rfl) (hts:lookT tab t=some rs:=by rfl) (hrs:rs.k = .map kt et:=by rfl) (hte:lookT tab et=some te:=by rfl) (hzv:zval te=some zv:=by rfl)
  (hs:Sel (Mp K V r m) R R0:=by (repeat (first|exact Sel.here|apply Sel.there));first|done|fail):Wl n C ops.toArray k Q (⟨some d,.lookup t x y false,ty0,pos,aft,gd⟩::l) E F R:=
 Zn (fun t ht=>by cases ht;exact Nat.le_of_ble_eq_true hn) (fun c hc=>by cases hc) hw fun ac w ha hsat=>by
  obtain ⟨es,clock,h1,he,hB⟩:=mp_open hs hsat
  have hb:=h1.pt Sel.here
  have hu:=Xg (w:=w) hts hrs
  have hg:(getObj r).run prog w = .ok (.map es clock) w:=by simp [getObj,Sem.run,hb]
  have hc:=hk.chk a es.isEmpty w
  have hf:=Yo hk a es.toList m w he
  have hz0:=Wy hte hzv w
  have hfg:=Xf a m 0
  unfold OpRes
  simp only [execOp,ha.ev (x:=x) (by rw [ZF];exact hx),ha.ev (x:=y) (by rw [ZF];exact hy),Instr.lookup,Sem.run_bind,hu,Result.andThen,hg,hc,hf,Sem.run_pure]
  cases hm:mfind a m 0 with
  | none=>
   rw [hm] at hfg
   simp only [Option.map_none,Sem.run_bind,hz0,Result.andThen,Sem.run_pure,Bool.false_eq_true,if_false]
   intro a' ha'
   rw [←hfg] at nx
   exact nx a' w ha' hsat
  | some q=>
   rw [hm] at hfg
   simp only [Option.map_some,Bool.false_eq_true,if_false]
   intro a' ha'
   rw [←hfg] at nx
   exact nx a' w ha' hsat
theorem l_mget2 {kt et r:Nat} {rs te:TRow} {m:List (α×β)} {zv:Value} (hk:KeyOK kt K) (a:α) (nx:Wl n C ops.toArray k Q l ((d,.tuple #[((mget a m).map V).getD zv,.bool (mget a m).isSome])::E) F R) (hw:wantL ops E ⟨some d,.lookup t x y true,ty0,pos,aft,gd⟩=some true:=by rfl) (hn:Nat.blt d n=true:=by rfl)
  (hx:ev E x=some (.map (some r)):=by rfl) (hy:ev E y=some (K a):=by rfl) (hts:lookT tab t=some rs:=by rfl) (hrs:rs.k = .map kt et:=by rfl) (hte:lookT tab et=some te:=by rfl) (hzv:zval te=some zv:=by rfl)
  (hs:Sel (Mp K V r m) R R0:=by (repeat (first|exact Sel.here|apply Sel.there));first|done|fail):Wl n C ops.toArray k Q (⟨some d,.lookup t x y true,ty0,pos,aft,gd⟩::l) E F R:=
 Zn (fun t ht=>by cases ht;exact Nat.le_of_ble_eq_true hn) (fun c hc=>by cases hc) hw fun ac w ha hsat=>by
  obtain ⟨es,clock,h1,he,hB⟩:=mp_open hs hsat
  have hb:=h1.pt Sel.here
  have hu:=Xg (w:=w) hts hrs
  have hg:(getObj r).run prog w = .ok (.map es clock) w:=by simp [getObj,Sem.run,hb]
  have hc:=hk.chk a es.isEmpty w
  have hf:=Yo hk a es.toList m w he
  have hz0:=Wy hte hzv w
  have hfg:=Xf a m 0
  unfold OpRes
  simp only [execOp,ha.ev (x:=x) (by rw [ZF];exact hx),ha.ev (x:=y) (by rw [ZF];exact hy),Instr.lookup,Sem.run_bind,hu,Result.andThen,hg,hc,hf,Sem.run_pure]
  cases hm:mfind a m 0 with
  | none=>
   rw [hm] at hfg
   simp only [Option.map_none,Sem.run_bind,hz0,Result.andThen,Sem.run_pure,if_true]
   intro a' ha'
   rw [←hfg] at nx
   exact nx a' w ha' hsat
  | some q=>
   rw [hm] at hfg
   simp only [Option.map_some,if_true]
   intro a' ha'
   rw [←hfg] at nx
   exact nx a' w ha' hsat
end
section
variable {n:Nat} {C:Cx} {Q:Exit→Act→World→Prop} {E E':List (Nat×Value)} {F F' F1 Fs F0:List Pf} {R R' R0 Rs N N' A:List HP} {k k':List Fr} {ops l:List Oper} {i d:Nat} {t ty0:TypeId} {x y z:Operand} {pos:String} {aft:Array Edge} {gd:Option (Nat×Bool)} {α β:Type} [DecidableEq α] {K:α→Value} {V:β→Value}
theorem Wp {kt et r:Nat} {rs te:TRow} {m:List (α×β)} {zv:Value} (hk:KeyOK kt K) (a:α) (o:Option β) (ho:mget a m=o) (nx:Wl n C ops.toArray k Q l ((d,(o.map V).getD zv)::E) F R) (hw:wantL ops E ⟨some d,.lookup t x y false,ty0,pos,aft,gd⟩=some true:=by rfl) (hn:Nat.blt d n=true:=by rfl)
  (hx:ev E x=some (.map (some r)):=by rfl) (hy:ev E y=some (K a):=by rfl) (hts:lookT tab t=some rs:=by rfl) (hrs:rs.k = .map kt et:=by rfl) (hte:lookT tab et=some te:=by rfl) (hzv:zval te=some zv:=by rfl)
  (hs:Sel (Mp K V r m) R R0:=by (repeat (first|exact Sel.here|apply Sel.there));first|done|fail):Wl n C ops.toArray k Q (⟨some d,.lookup t x y false,ty0,pos,aft,gd⟩::l) E F R:=by
 subst ho
 exact l_mget hk a nx hw hn hx hy hts hrs hte hzv hs
theorem Zy {kt et r:Nat} {rs te:TRow} {m:List (α×β)} {zv:Value} (hk:KeyOK kt K) (a:α) (o:Option β) (ho:mget a m=o) (nx:Wl n C ops.toArray k Q l ((d,.tuple #[(o.map V).getD zv,.bool o.isSome])::E) F R) (hw:wantL ops E ⟨some d,.lookup t x y true,ty0,pos,aft,gd⟩=some true:=by rfl) (hn:Nat.blt d n=true:=by rfl)
  (hx:ev E x=some (.map (some r)):=by rfl) (hy:ev E y=some (K a):=by rfl) (hts:lookT tab t=some rs:=by rfl) (hrs:rs.k = .map kt et:=by rfl) (hte:lookT tab et=some te:=by rfl) (hzv:zval te=some zv:=by rfl)
  (hs:Sel (Mp K V r m) R R0:=by (repeat (first|exact Sel.here|apply Sel.there));first|done|fail):Wl n C ops.toArray k Q (⟨some d,.lookup t x y true,ty0,pos,aft,gd⟩::l) E F R:=by
 subst ho
 exact l_mget2 hk a nx hw hn hx hy hts hrs hte hzv hs
end
def En.v (e:En):Value:=.agg #[.string e.who,.int .i64 e.nu,.int .i64 e.tk,.int .i64 e.o.ch,.string e.o.tg,.string e.o.tx,.int .i64 e.o.us]
abbrev Sd:=ByteArray×Int
def sdv (s:Sd):Value:=.agg #[.string s.1,.int .i64 s.2]
def En.sd (e:En):Sd:=(e.who,e.nu)
def bv (b:Bool):Value:=.bool b
theorem beqS (a b:ByteArray):(a.toList == b.toList)=decide (a=b):=by
 rw [toList_data,toList_data,Bool.eq_iff_iff]
 simp only [beq_iff_eq,decide_eq_true_eq]
 exact ⟨fun h=>XN h,fun h=>by rw [h]⟩
theorem beqI (a b:Int):(a == b)=decide (a=b):=by rw [Bool.eq_iff_iff];simp
theorem Z4:KeyOK 50 En.v where
 eq a b w:=by
  refine (equal_ok (t:=50) (x:=En.v a) (y:=En.v b) rfl w).trans ?_
  obtain ⟨a1,a2,a3,a4,a5,a6,a7⟩:=a
  obtain ⟨b1,b2,b3,b4,b5,b6,b7⟩:=b
  congr 1
  simp only [beqS,beqI,En.mk.injEq,Ou.mk.injEq]
  rw [Bool.eq_iff_iff]
  simp
 chk a em w:=ckC_ok Y3 em 20 10000 _ _ w (by omega) rfl
 bits a:=by simp [En.v,Instr.sameBits,beq_toListBytes]
 now:=⟨_,rfl,fun a b=>.inl rfl⟩
theorem VM:KeyOK 129 sdv where
 eq a b w:=by
  refine (equal_ok (t:=129) (x:=sdv a) (y:=sdv b) rfl w).trans ?_
  obtain ⟨a1,a2⟩:=a
  obtain ⟨b1,b2⟩:=b
  congr 1
  simp only [beqS,beqI,Prod.mk.injEq]
  rw [Bool.eq_iff_iff]
  simp
 chk a em w:=ckC_ok Y3 em 20 10000 _ _ w (by omega) rfl
 bits a:=by simp [sdv,Instr.sameBits,beq_toListBytes]
 now:=⟨_,rfl,fun a b=>.inl rfl⟩
theorem YT {α β:Type} [DecidableEq α] (a:α) (v:β):∀(m:List (α×β)) (b:α),mget b (mset a v m)=if a=b then some v else mget b m
 | [],b=>by
  by_cases h:a=b
  ·subst h;simp [mset,mget]
  ·have:b≠a:=fun e=>h e.symm
   simp [mset,mget,h,this]
 | (c,u)::m,b=>by
  have ih:=YT a v m b
  unfold mset
  by_cases hac:a=c
  ·subst hac
   rw [if_pos rfl,mget,mget]
   by_cases hab:a=b
   ·subst hab;simp
   ·have:b≠a:=fun e=>hab e.symm
    simp [hab,this]
  ·rw [if_neg hac,mget,mget,ih]
   by_cases hab:a=b
   ·subst hab;simp [hac]
   ·simp [hab]
structure Cq where
 kind:Int
 who:ByteArray
 nu:Int
 place:Int
 old:Ou
 oldAt:Int
 new:Ou
 newAt:Int
 deriving DecidableEq
def cqf (c:Cq):List Value:=[.int .i64 c.kind,.string c.who,.int .i64 c.nu,.int .i64 c.place,.int .i64 c.old.ch,.string c.old.tg,.string c.old.tx,.int .i64 c.old.us,.int .i64 c.oldAt,.int .i64 c.new.ch,.string c.new.tg,.string c.new.tx,.int .i64 c.new.us,.int .i64 c.newAt]
def con1 (all:List En) (x:Lf) (p:Nat):Cq:=
 if x.e ∈ all then ⟨1,x.e.who,x.e.nu,p,x.e.o,x.e.tk,x.e.o,x.e.tk⟩
 else match all.find? fun y=>y.sd=x.e.sd with
  | some y=>⟨3,x.e.who,x.e.nu,p,x.e.o,x.e.tk,y.o,y.tk⟩
  | none=>⟨2,x.e.who,x.e.nu,p,x.e.o,x.e.tk,Ou.z,0⟩
def knw (all:List En) (x:Lf):List En:=
 (if x.e ∈ all then [] else match all.find? fun y=>y.sd=x.e.sd with|some y=>[y]|none=>[])++[x.e]
def Z7 (all:List En) (ls:List Lf):List Cq:=ls.mapIdx fun p x=>con1 all x p
def con2 (y:En):Cq:=⟨4,y.who,y.nu,-1,Ou.z,0,y.o,y.tk⟩
def Z9 (known:List En) (ys:List En):List Cq:=(ys.filter fun y=>decide (y ∉ known)).map con2
def consE (all:List En) (ls:List Lf):List Cq:=Z7 all ls++Z9 (ls.flatMap (knw all)) all
structure C1 (all:List En) where
 i:Nat
 m1:List (En×Bool)
 m2:List (Sd×En)
 hi:i≤all.length
 h1:∀e,mget e m1=if e ∈ all.take i then some true else none
 h2:∀s,mget s m2=(all.take i).find? fun y=>y.sd=s
structure C2 (all:List En) (ls:List Lf) where
 j:Nat
 o:Option Addr
 cap:Nat
 m3:List (En×Bool)
 hj:j≤ls.length
 h3:∀e,mget e m3=if e ∈ (ls.take j).flatMap (knw all) then some true else none
structure C3 (all:List En) where
 i:Nat
 o:Option Addr
 cap:Nat
 hi:i≤all.length
set_option maxHeartbeats 4000000 in
theorem WH (b bs:Nat) (es:Al) (ls:List Lf) (hl:ls.length≤1000000) (hal:(allE es).length≤1000000):Enters 25∧Spec prog 25 #[.pointer (some ⟨b,0,none⟩),.pointer (some ⟨bs,0,none⟩)] [LgF b ls,St (some ⟨bs,0,none⟩) es] []
  ⟨Option Addr×Nat,fun q=>.tuple #[.slice q.1 (consE (allE es) ls).length q.2,.int .i64 0],fun _=>True,fun _=>[],fun q=>[Row 40 14 q.1 (consE (allE es) ls).length q.2 ((consE (allE es) ls).flatMap cqf)]⟩:=by
 have n1:=UL (some ⟨bs,0,none⟩) es
 generalize allE es=all at *
 refine ZE [_,_] func25 ntmps25 fun G w hp=>?_
 repeat' (first|refine ZC ?_|refine ZA (n1) (fun _ _=>?_)|refine Yk Z4 bv (fun r1=>?_)|refine Yk VM En.v (fun r2=>?_)|fail)
 rename_i q _
 obtain ⟨qo,qc⟩:=q
 refine YD (X:=C1 all) (Y:={m:List (En×Bool)×List (Sd×En) // (∀e,mget e m.1=if e ∈ all then some true else none)∧∀s,mget s m.2=all.find? fun y=>y.sd=s})
  (fun x=>[(0,.pointer (some ⟨b,0,none⟩)),(6,.slice qo all.length qc),(7,.map (some r1)),(8,.map (some r2)),(34,.slice qo all.length qc),(35,.int .i64 (all.length:Int)),(36,.int .i64 (x.i:Int))]) (fun _=>[LgF b ls,Sl 50 enf qo qc all]) (fun x=>[Mp En.v bv r1 x.m1,Mp sdv En.v r2 x.m2]) (fun x=>all.length - x.i)
  (fun _=>[(0,.pointer (some ⟨b,0,none⟩)),(6,.slice qo all.length qc),(7,.map (some r1)),(8,.map (some r2))]) (fun _=>[LgF b ls,Sl 50 enf qo qc all]) (fun m=>[Mp En.v bv r1 m.1.1,Mp sdv En.v r2 m.1.2])
  ⟨0,[],[],by omega,by simp [mget],by simp [mget]⟩ ⟨rfl,rfl,rfl,rfl,rfl,rfl,rfl,trivial⟩ ?_ ?_
 ·rintro ⟨⟨m1,m2⟩,h1,h2⟩
  dsimp only at h1 h2 ⊢
  repeat' (first|refine ZC ?_|refine ZA (V4 b ls) (fun _ _=>?_)|refine Yk Z4 bv (fun r3=>?_)|fail)
  refine ZO (Lx:=[]) (r:=Row 40 14 none 0 0 []) (fun h _=>Zb _ _ h) ?_
  refine YD (X:=C2 all ls) (Y:={q:Option Addr×Nat×List (En×Bool) // ∀e,mget e q.2.2=if e ∈ ls.flatMap (knw all) then some true else none})
   (fun x=>[(0,.pointer (some ⟨b,0,none⟩)),(6,.slice qo all.length qc),(7,.map (some r1)),(8,.map (some r2)),(14,.slice x.o (Z7 all (ls.take x.j)).length x.cap),(15,.map (some r3)),(61,.int .i64 (ls.length:Int)),(62,.int .i64 (x.j:Int))]) (fun _=>[LgF b ls,Sl 50 enf qo qc all]) (fun x=>[Mp En.v bv r1 m1,Mp sdv En.v r2 m2,Mp En.v bv r3 x.m3,Row 40 14 x.o (Z7 all (ls.take x.j)).length x.cap ((Z7 all (ls.take x.j)).flatMap cqf)]) (fun x=>ls.length - x.j)
   (fun y=>[(6,.slice qo all.length qc),(14,.slice y.1.1 (Z7 all ls).length y.1.2.1),(15,.map (some r3))]) (fun _=>[Sl 50 enf qo qc all]) (fun y=>[Mp En.v bv r3 y.1.2.2,Row 40 14 y.1.1 (Z7 all ls).length y.1.2.1 ((Z7 all ls).flatMap cqf)])
   ⟨0,none,0,[],by omega,by simp [mget]⟩ ⟨rfl,rfl,rfl,rfl,rfl,rfl,rfl,rfl,trivial⟩ ?_ ?_
  ·rintro ⟨⟨o,cap,m3⟩,h3⟩
   dsimp only at h3 ⊢
   have hcl:(Z7 all ls).length=ls.length:=by simp [Z7]
   generalize hK:ls.flatMap (knw all)=K at h3
   have hfin:consE all ls=Z7 all ls++Z9 K all:=by rw [consE,hK]
   rw [hfin]
   generalize Z7 all ls=A at *
   have e0:A=A++Z9 K (all.take 0):=by simp [Z9]
   repeat' (first|refine ZC ?_|fail)
   refine Zi (T:=40) (sz:=14) (o:=o) (cap:=cap) (m:=A.length) (m':=(A++Z9 K (all.take 0)).length) (A.flatMap cqf) ((A++Z9 K (all.take 0)).flatMap cqf) (by rw [←e0]) (by rw [←e0]) ?_
   refine Zj (X:=C3 all) (fun x=>[(14,.slice x.o (A++Z9 K (all.take x.i)).length x.cap),(15,.map (some r3)),(133,.slice qo all.length qc),(134,.int .i64 (all.length:Int)),(135,.int .i64 (x.i:Int))]) (fun _=>[Sl 50 enf qo qc all]) (fun x=>[Mp En.v bv r3 m3,Row 40 14 x.o (A++Z9 K (all.take x.i)).length x.cap ((A++Z9 K (all.take x.i)).flatMap cqf)]) (fun x=>all.length - x.i) ⟨0,o,cap,by omega⟩ ⟨by rw [←e0];rfl,rfl,rfl,rfl,rfl,trivial⟩ ?_
   rintro ⟨i,o,cap,hi⟩
   dsimp only
   have hln:(A++Z9 K (all.take i)).length≤2000000:=by
    have h4:(Z9 K (all.take i)).length≤(all.take i).length:=by simp only [Z9,List.length_map];exact List.length_filter_le ..
    simp only [List.length_append,List.length_take] at h4 ⊢
    omega
   have hln2:A.length+(Z9 K (all.take i)).length≤2000000:=by simpa only [List.length_append] using hln
   by_cases hlt:i<all.length
   ·obtain ⟨e,he⟩:∃e,all[i]? = some e:=⟨_,List.getElem?_eq_getElem hlt⟩
    have htk:all.take (i+1)=all.take i++[e]:=by rw [List.take_add_one,he];rfl
    have n3:=h3 e
    by_cases hin:e ∈ K
    ·rw [if_pos hin] at n3
     have e3:Z9 K (all.take (i+1))=Z9 K (all.take i):=by simp [Z9,htk,hin]
     repeat' (first|refine ZC ?_|refine ZH (fun b=>?_)|refine ZU (es:=all) i e he (fun b off=>?_)|refine ZQ ?_|refine Wp Z4 e (some true) n3 ?_|(refine ZB (fun hc=>?_) (fun hc=>?_)<;>(try simp at hc)<;>(try omega))|fail)
     rw [wrapi (z:=(i:Int)+1) (by omega) (by omega),←e3]
     exact ZJ ⟨i+1,o,cap,by omega⟩ (by show all.length - (i+1)<all.length - i;omega) ⟨rfl,rfl,rfl,rfl,rfl,trivial⟩
    ·rw [if_neg hin] at n3
     have e3:Z9 K (all.take (i+1))=Z9 K (all.take i)++[con2 e]:=by simp [Z9,htk,hin]
     have e1:(A++Z9 K (all.take i)).length+1=(A++Z9 K (all.take (i+1))).length:=by rw [e3];simp;omega
     have e2:(A++Z9 K (all.take i)).flatMap cqf++cqf (con2 e)=(A++Z9 K (all.take (i+1))).flatMap cqf:=by rw [e3];simp
     repeat' (first|refine ZC ?_|refine ZH (fun b=>?_)|refine ZU (es:=all) i e he (fun b off=>?_)|refine ZQ ?_|refine Wp Z4 e none n3 ?_|refine Zs (fun o' cap'=>?_)|(refine ZB (fun hc=>?_) (fun hc=>?_)<;>(try simp at hc)<;>(try omega))|fail)
     rw [wrapi (z:=(i:Int)+1) (by omega) (by omega)]
     refine Zi (T:=40) (sz:=14) (o:=o') (cap:=cap') (m:=(A++Z9 K (all.take i)).length+1) _ _ e1 e2 ?_
     rw [e1]
     exact ZJ ⟨i+1,o',cap',by omega⟩ (by show all.length - (i+1)<all.length - i;omega) ⟨rfl,rfl,rfl,rfl,rfl,trivial⟩
   ·have e:all.take i=all:=List.take_of_length_le (by omega)
    rw [e]
    repeat' (first|refine ZC ?_|refine ZM ?_|(refine ZB (fun hc=>?_) (fun hc=>?_)<;>(try simp at hc)<;>(try omega))|fail)
    exact ZD (o,cap) rfl trivial
  ·rintro hx2 ⟨j,o,cap,m3,hj,h3⟩
   dsimp only
   have hcl:(Z7 all (ls.take j)).length=j:=by simp [Z7];omega
   by_cases hlt:j<ls.length
   ·obtain ⟨x,hxj⟩:∃x,ls[j]? = some x:=⟨_,List.getElem?_eq_getElem hlt⟩
    have htk:ls.take (j+1)=ls.take j++[x]:=by rw [List.take_add_one,hxj];rfl
    have hc1:Z7 all (ls.take (j+1))=Z7 all (ls.take j)++[con1 all x j]:=by
     rw [htk,Z7,List.mapIdx_append]
     simp [Z7]
     congr 1;omega
    have e1:(Z7 all (ls.take j)).length+1=(Z7 all (ls.take (j+1))).length:=by rw [hc1];simp
    have e2:(Z7 all (ls.take j)).flatMap cqf++cqf (con1 all x j)=(Z7 all (ls.take (j+1))).flatMap cqf:=by rw [hc1];simp
    have n2:=Wn b ls j x hxj
    have n3:=h2 x.e.sd
    have n4:=h1 x.e
    by_cases hin:x.e ∈ all
    ·rw [if_pos hin] at n4
     cases hfd:all.find? fun y=>decide (y.sd=x.e.sd) with
     | none=>exact (List.find?_eq_none.1 hfd x.e hin (by simp)).elim
     | some y=>
      rw [hfd] at n3
      have hcon:con1 all x j=⟨1,x.e.who,x.e.nu,j,x.e.o,x.e.tk,x.e.o,x.e.tk⟩:=by rw [con1,if_pos hin]
      have g3:∀e,mget e (mset x.e true m3)=if e ∈ (ls.take (j+1)).flatMap (knw all) then some true else none:=fun e=>by
       rw [YT,h3 e,htk]
       simp only [List.flatMap_append,List.flatMap_cons,List.flatMap_nil,List.append_nil,knw,if_pos hin,List.nil_append,List.mem_append,List.mem_singleton]
       by_cases hee:x.e=e
       ·subst hee;simp
       ·have:e≠x.e:=fun h=>hee h.symm
        simp [hee,this]
      rw [hcon] at e2
      repeat' (first|refine ZC ?_|refine ZH (fun b=>?_)|refine ZA (n2) (fun _ _=>?_)|refine Zy VM x.e.sd (some y) n3 ?_|refine Wp Z4 x.e (some true) n4 ?_|refine Y2 Z4 x.e true ?_|refine Zs (fun o' cap'=>?_)|refine ZI 26 [Pt _ (.cells _ 40 _)] [(0,0),(1,0),(2,0),(3,0),(4,0),(5,0),(6,0),(7,4),(8,0),(9,4),(10,0),(11,4)] [] ?_|(refine ZB (fun hc=>?_) (fun hc=>?_)<;>(try simp at hc)<;>(try omega))|fail)
      rw [wrapi (z:=(j:Int)+1) (by omega) (by omega)]
      refine Zi (T:=40) (sz:=14) (o:=o') (cap:=cap') (m:=(Z7 all (ls.take j)).length+1) _ _ e1 e2 ?_
      rw [e1]
      exact ZJ ⟨j+1,o',cap',_,by omega,g3⟩ (by show ls.length - (j+1)<ls.length - j;omega) ⟨rfl,rfl,rfl,rfl,rfl,rfl,rfl,rfl,trivial⟩
    ·rw [if_neg hin] at n4
     cases hfd:all.find? fun y=>decide (y.sd=x.e.sd) with
     | none=>
      rw [hfd] at n3
      have hcon:con1 all x j=⟨2,x.e.who,x.e.nu,j,x.e.o,x.e.tk,Ou.z,0⟩:=by rw [con1,if_neg hin,hfd]
      have g3:∀e,mget e (mset x.e true m3)=if e ∈ (ls.take (j+1)).flatMap (knw all) then some true else none:=fun e=>by
       rw [YT,h3 e,htk]
       simp only [List.flatMap_append,List.flatMap_cons,List.flatMap_nil,List.append_nil,knw,if_neg hin,hfd,List.nil_append,List.mem_append,List.mem_singleton]
       by_cases hee:x.e=e
       ·subst hee;simp
       ·have:e≠x.e:=fun h=>hee h.symm
        simp [hee,this]
      rw [hcon] at e2
      repeat' (first|refine ZC ?_|refine ZH (fun b=>?_)|refine ZA (n2) (fun _ _=>?_)|refine Zy VM x.e.sd none n3 ?_|refine Wp Z4 x.e none n4 ?_|refine Y2 Z4 x.e true ?_|refine Zs (fun o' cap'=>?_)|(refine ZB (fun hc=>?_) (fun hc=>?_)<;>(try simp at hc)<;>(try omega))|fail)
      rw [wrapi (z:=(j:Int)+1) (by omega) (by omega)]
      refine Zi (T:=40) (sz:=14) (o:=o') (cap:=cap') (m:=(Z7 all (ls.take j)).length+1) _ _ e1 e2 ?_
      rw [e1]
      exact ZJ ⟨j+1,o',cap',_,by omega,g3⟩ (by show ls.length - (j+1)<ls.length - j;omega) ⟨rfl,rfl,rfl,rfl,rfl,rfl,rfl,rfl,trivial⟩
     | some y=>
      rw [hfd] at n3
      have hcon:con1 all x j=⟨3,x.e.who,x.e.nu,j,x.e.o,x.e.tk,y.o,y.tk⟩:=by rw [con1,if_neg hin,hfd]
      have g3:∀e,mget e (mset x.e true (mset y true m3))=if e ∈ (ls.take (j+1)).flatMap (knw all) then some true else none:=fun e=>by
       rw [YT,YT,h3 e,htk]
       simp only [List.flatMap_append,List.flatMap_cons,List.flatMap_nil,List.append_nil,knw,if_neg hin,hfd,List.mem_append,List.mem_singleton]
       by_cases hee:x.e=e
       ·subst hee;simp
       ·have h5:e≠x.e:=fun h=>hee h.symm
        by_cases hye:y=e
        ·subst hye;simp [hee]
        ·have h6:e≠y:=fun h=>hye h.symm
         simp [hee,hye,h5,h6]
      rw [hcon] at e2
      repeat' (first|refine ZC ?_|refine ZH (fun b=>?_)|refine ZA (n2) (fun _ _=>?_)|refine Zy VM x.e.sd (some y) n3 ?_|refine Wp Z4 x.e none n4 ?_|refine Y2 Z4 x.e true ?_|refine Y2 Z4 y true ?_|refine Zs (fun o' cap'=>?_)|refine ZI 28 [Pt _ (.cells _ 40 _)] [(0,0),(1,0),(2,0),(3,0),(4,0),(5,4),(6,0),(7,4),(8,0),(9,4)] [] ?_|(refine ZB (fun hc=>?_) (fun hc=>?_)<;>(try simp at hc)<;>(try omega))|fail)
      rw [wrapi (z:=(j:Int)+1) (by omega) (by omega)]
      refine Zi (T:=40) (sz:=14) (o:=o') (cap:=cap') (m:=(Z7 all (ls.take j)).length+1) _ _ e1 e2 ?_
      rw [e1]
      exact ZJ ⟨j+1,o',cap',_,by omega,g3⟩ (by show ls.length - (j+1)<ls.length - j;omega) ⟨rfl,rfl,rfl,rfl,rfl,rfl,rfl,rfl,trivial⟩
   ·have e:ls.take j=ls:=List.take_of_length_le (by omega)
    rw [e] at h3
    rw [e]
    repeat' (first|refine ZC ?_|(refine ZB (fun hc=>?_) (fun hc=>?_)<;>(try simp at hc)<;>(try omega))|fail)
    exact Z2 hx2 ⟨(o,cap,m3),h3⟩ ⟨rfl,rfl,rfl,trivial⟩
 ·rintro hx ⟨i,m1,m2,hi,h1,h2⟩
  dsimp only
  by_cases hlt:i<all.length
  ·obtain ⟨e,he⟩:∃e,all[i]? = some e:=⟨_,List.getElem?_eq_getElem hlt⟩
   have htk:all.take (i+1)=all.take i++[e]:=by rw [List.take_add_one,he];rfl
   have g1:∀e',mget e' (mset e true m1)=if e' ∈ all.take (i+1) then some true else none:=fun e'=>by
    rw [YT,h1 e',htk]
    by_cases hee:e=e'
    ·subst hee;simp
    ·have:e'≠e:=fun h=>hee h.symm
     simp [hee,this]
   cases hg:mget e.sd m2 with
   | none=>
    have g2:∀s,mget s (mset e.sd e m2)=(all.take (i+1)).find? fun y=>y.sd=s:=fun s=>by
     rw [YT,h2 s,htk,List.find?_append]
     by_cases hes:e.sd=s
     ·subst hes
      rw [←h2,hg];simp
     ·simp [hes]
    repeat' (first|refine ZC ?_|refine ZH (fun b=>?_)|refine ZU (es:=all) i e he (fun b off=>?_)|refine ZQ ?_|refine Y2 Z4 e true ?_|refine Zy VM e.sd none hg ?_|refine Y2 VM e.sd e ?_|(refine ZB (fun hc=>?_) (fun hc=>?_)<;>(try simp at hc)<;>(try omega))|fail)
    rw [wrapi (z:=(i:Int)+1) (by omega) (by omega)]
    exact ZJ ⟨i+1,_,_,by omega,g1,g2⟩ (by show all.length - (i+1)<all.length - i;omega) ⟨rfl,rfl,rfl,rfl,rfl,rfl,rfl,trivial⟩
   | some e0=>
    have g2:∀s,mget s m2=(all.take (i+1)).find? fun y=>y.sd=s:=fun s=>by
     rw [htk,List.find?_append,←h2]
     by_cases hes:e.sd=s
     ·subst hes;rw [hg];simp
     ·simp [hes]
    repeat' (first|refine ZC ?_|refine ZH (fun b=>?_)|refine ZU (es:=all) i e he (fun b off=>?_)|refine ZQ ?_|refine Y2 Z4 e true ?_|refine Zy VM e.sd (some e0) hg ?_|(refine ZB (fun hc=>?_) (fun hc=>?_)<;>(try simp at hc)<;>(try omega))|fail)
    rw [wrapi (z:=(i:Int)+1) (by omega) (by omega)]
    exact ZJ ⟨i+1,_,_,by omega,g1,g2⟩ (by show all.length - (i+1)<all.length - i;omega) ⟨rfl,rfl,rfl,rfl,rfl,rfl,rfl,trivial⟩
  ·have e:all.take i=all:=List.take_of_length_le (by omega)
   rw [e] at h1 h2
   repeat' (first|refine ZC ?_|(refine ZB (fun hc=>?_) (fun hc=>?_)<;>(try simp at hc)<;>(try omega))|fail)
   exact Z2 hx ⟨(m1,m2),h1,h2⟩ ⟨rfl,rfl,rfl,rfl,trivial⟩
abbrev ofL (l:List UInt8):ByteArray:=⟨l.toArray⟩
structure Tk where
 kd:Int
 tx:ByteArray
 pl:Int
deriving DecidableEq
def isLet (c:UInt8):Bool:=decide (97≤c.toNat) && decide (c.toNat≤122)
def isDgt (c:UInt8):Bool:=decide (48≤c.toNat) && decide (c.toNat≤57)
def inNum (c:UInt8):Bool:=isDgt c || c == 46
def isSym (c:UInt8):Bool:=c == 40 || c == 41 || c == 58 || c == 61 || c == 60 || c == 62
def spanF (p:UInt8→Bool):List UInt8→Nat
 | []=>0
 | c::l=>if p c then spanF p l+1 else 0
def unqF:List UInt8→Nat→List UInt8→Option (List UInt8×Nat)
 | [],_,_=>none
 | [c],i,acc=>if c == 34 then some (acc,i+1) else none
 | c::d::r,i,acc=>
  if c == 34 then some (acc,i+1)
  else if c == 92 then
   if d == 34 || d == 92 then unqF r (i+2) (acc++[d])
   else if d == 110 then unqF r (i+2) (acc++[10])
   else none
  else unqF (d::r) (i+1) (acc++[c])
def scanF:Nat→List UInt8→Nat→List Tk→List Tk×Nat×Bool
 | 0,_,i,acc=>(acc,i,true)
 | _+1,[],i,acc=>(acc,i,true)
 | n+1,c::r,i,acc=>
  if c == 35 then (acc,i,true)
  else if c == 32 || c == 9 then scanF n r (i+1) acc
  else if isLet c then scanF n ((c::r).drop (spanF isLet (c::r))) (i+spanF isLet (c::r)) (acc++[⟨1,ofL ((c::r).take (spanF isLet (c::r))),i⟩])
  else if isDgt c then scanF n ((c::r).drop (spanF inNum (c::r))) (i+spanF inNum (c::r)) (acc++[⟨2,ofL ((c::r).take (spanF inNum (c::r))),i⟩])
  else if c == 34 then match unqF r 1 [] with
   | some (t,k)=>scanF n ((c::r).drop k) (i+k) (acc++[⟨3,ofL t,i⟩])
   | none=>([],i,false)
  else if isSym c then scanF n r (i+1) (acc++[⟨4,ofL [c],i⟩])
  else ([],i,false)
inductive Cnd
 | any (l:List Cnd)
 | all (l:List Cnd)
 | nt (c:Cnd)
 | nul
 | kd (w:ByteArray) (k:Int)
 | ch (w:ByteArray) (k:Int)
 | tx (w:ByteArray) (f k:Nat) (s:ByteArray)
 | nm (w:ByteArray) (f k:Nat) (n:Int)
 | by_ (w s:ByteArray)
def anyP:Cnd→List Cnd
 | .any l=>l
 | c=>[c]
def allP:Cnd→List Cnd
 | .all l=>l
 | c=>[c]
def eitherF (l:List Cnd):Cnd:=match l.flatMap anyP with
 | [c]=>c
 | r=>.any r
def bothF (l:List Cnd):Cnd:=match l.flatMap allP with
 | [c]=>c
 | r=>.all r
structure Ps where
 tk:List Tk
 en:Int
 op:Int
 pl:Int
 e:Int
namespace Ps
def fail (p:Ps) (i e:Int):Ps:=if p.e=0 then {p with tk:=[],pl:=i,e:=e} else p
def peek (p:Ps):Tk:=match p.tk with
 | []=>⟨0,ofL [],p.en⟩
 | t::_=>t
def pass (p:Ps):Ps:={p with tk:=p.tk.tail}
def is (p:Ps) (k:Int) (s:ByteArray):Bool:=decide (p.peek.kd=k) && decide (p.peek.tx=s)
def need (p:Ps) (k:Int):Ps:=if p.peek.kd=k then p.pass else p.pass.fail p.peek.pl 30
def symb (p:Ps) (s:ByteArray):Ps:=if p.is 4 s then p.pass else p.fail p.peek.pl 30
end Ps
def wIf:ByteArray:=⟨#[105,102]⟩
def wOr:ByteArray:=⟨#[111,114]⟩
def wAnd:ByteArray:=⟨#[97,110,100]⟩
def wNot:ByteArray:=⟨#[110,111,116]⟩
def yOpn:ByteArray:=⟨#[40]⟩
def yCls:ByteArray:=⟨#[41]⟩
def yCol:ByteArray:=⟨#[58]⟩
def wKinds:List ByteArray:=[⟨#[109,105,115,115,105,110,103]⟩,⟨#[99,104,97,110,103,101,100]⟩,⟨#[110,101,119]⟩]
def wChan:ByteArray:=⟨#[99,104,97,110,110,101,108]⟩
def wChs:List ByteArray:=[⟨#[109,97,105,108]⟩,⟨#[112,114,105,110,116]⟩,⟨#[111,114,100,101,114]⟩,⟨#[112,97,99,107,101,116]⟩]
def wTxs:List ByteArray:=[⟨#[116,97,114,103,101,116]⟩,⟨#[98,101,102,111,114,101]⟩,⟨#[97,102,116,101,114]⟩]
def wCts:List ByteArray:=[⟨#[105,115]⟩,⟨#[104,97,115]⟩,⟨#[98,101,103,105,110,115]⟩]
def wNms:List ByteArray:=[⟨#[117,115,101,114]⟩,⟨#[110,117,109,98,101,114]⟩,⟨#[115,105,122,101]⟩,⟨#[116,105,99,107]⟩]
def yCns:List ByteArray:=[⟨#[61]⟩,⟨#[60]⟩,⟨#[62]⟩]
def wBy:ByteArray:=⟨#[98,121]⟩
def wActs:List ByteArray:=[⟨#[107,101,101,112]⟩,⟨#[99,111,109,112,101,110,115,97,116,101]⟩,⟨#[115,101,110,100]⟩,⟨#[104,111,108,100]⟩,⟨#[97,115,107]⟩]
def wSp:ByteArray:=⟨#[32]⟩
def idx (s:ByteArray):List ByteArray→Nat
 | []=>0
 | x::l=>if x=s then 0 else idx s l+1
def atoF (t:ByteArray):Int×Bool:=match Lib.atoiAll t.data.toList with
 | .ok v=>(v,true)
 | .range=>(Lib.atoiSat t.data.toList,false)
 | _=>(0,false)
def quoB (c:UInt8):List UInt8:=if c == 34 || c == 92 then [92,c] else if c == 10 then [92,110] else [c]
def quoF (s:ByteArray):ByteArray:=ofL (34::(s.data.toList.flatMap quoB++[34]))
def wFlds:List ByteArray:=[⟨#[116,97,114,103,101,116]⟩,⟨#[117,115,101,114]⟩,⟨#[116,105,99,107]⟩,⟨#[98,121]⟩,⟨#[110,117,109,98,101,114]⟩,⟨#[111,108,100]⟩,⟨#[110,101,119]⟩]
inductive Seg
 | lit (s:ByteArray)
 | fld (n:ByteArray)
def isBr (c:UInt8):Bool:=c == 123 || c == 125
def divF:Nat→List UInt8→Nat→List Seg→List Seg×Option Nat
 | 0,_,_,acc=>(acc,none)
 | _+1,[],_,acc=>(acc,none)
 | n+1,c::r,i,acc=>
  let k:=spanF (fun x=>!isBr x) (c::r)
  if k=(c::r).length then (acc++[.lit (ofL (c::r))],none)
  else if k≠0 then divF n ((c::r).drop k) (i+k) (acc++[.lit (ofL ((c::r).take k))])
  else if r.head? = some c then divF n (r.drop 1) (i+2) (acc++[.lit (ofL [c])])
  else
   let m:=spanF (fun x=>!(x == 125)) r
   if c=123∧m<r.length∧idx (ofL (r.take m)) wFlds<7 then divF n (r.drop (m+1)) (i+m+2) (acc++[.fld (ofL (r.take m))])
   else (acc,some i)
def tplF (s:ByteArray):List Seg×Option Nat:=divF (s.size+1) s.data.toList 0 []
def badN (s:ByteArray):Bool:=s.data.toList.contains 46 || (decide (1<s.size) && s.data.toList.head? == some 48)
def numF (p:Ps):Int×Ps:=
 let u:=p.peek;let p3:=p.need 2
 let p4:=if badN u.tx then p3.fail u.pl 3 else p3
 let z:=atoF u.tx
 (z.1,if z.2=false∨1073741824<z.1 then p4.fail u.pl 2 else p4)
def testF (w:ByteArray) (p:Ps):Cnd×Ps:=
 if idx w wKinds<3 then (.kd w ((idx w wKinds:Nat)+2),p)
 else if w=wChan then
  let t:=p.peek;let p1:=p.need 1
  let k:=idx t.tx wChs
  (.ch (w++wSp++t.tx) (if k<4 then (k:Int)+1 else 0),if k<4 then p1 else p1.fail t.pl 30)
 else if idx w wTxs<3 then
  let t:=p.peek;let p1:=p.need 1
  let k:=idx t.tx wCts
  let p2:=if k<3 then p1 else p1.fail t.pl 30
  let u:=p2.peek
  (.tx (w++wSp++t.tx++wSp++quoF u.tx) (idx w wTxs) k u.tx,p2.need 3)
 else if idx w wNms<4 then
  let t:=p.peek;let p1:=p.need 4
  let k:=idx t.tx yCns
  let p2:=if k<3 then p1 else p1.fail t.pl 30
  let z:=numF p2
  (.nm (w++wSp++t.tx++wSp++ofL (Lib.itoa z.1)) (idx w wNms) k z.1,z.2)
 else
  let t:=p.peek;let p1:=p.need 2
  (.by_ (w++wSp++t.tx) t.tx,if lvalid t.tx.data.toList then p1 else p1.fail t.pl 12)
def isTst (w:ByteArray):Bool:=decide (idx w wKinds<3) || decide (w=wChan) || decide (idx w wTxs<3) || decide (idx w wNms<4) || decide (w=wBy)
mutual
def factorF:Nat→Ps→Cnd×Ps
 | 0,p=>(.nt .nul,p.fail p.peek.pl 99)
 | n+1,p=>
  let t:=p.peek;let p1:=p.pass
  if t.kd=1∧t.tx=wNot then let r:=factorF n p1;(.nt r.1,r.2)
  else if t.kd=4∧t.tx=yOpn then
   let p2:=if p1.op=32 then p1.fail t.pl 9 else p1
   let r:=condF n {p2 with op:=p2.op+1}
   let p3:=r.2.symb yCls
   (r.1,{p3 with op:=p3.op - 1})
  else if t.kd=1∧isTst t.tx=true then testF t.tx p1
  else (.nt .nul,p1.fail t.pl 30)
def termF:Nat→Ps→Cnd×Ps
 | 0,p=>(.nt .nul,p.fail p.peek.pl 99)
 | n+1,p=>let r:=factorF n p;let q:=termL n [r.1] r.2;(bothF q.1,q.2)
def termL:Nat→List Cnd→Ps→List Cnd×Ps
 | 0,l,p=>(l,p.fail p.peek.pl 99)
 | n+1,l,p=>if p.is 1 wAnd then let r:=factorF n p.pass;termL n (l++[r.1]) r.2 else (l,p)
def condF:Nat→Ps→Cnd×Ps
 | 0,p=>(.nt .nul,p.fail p.peek.pl 99)
 | n+1,p=>let r:=termF n p;let q:=condL n [r.1] r.2;(eitherF q.1,q.2)
def condL:Nat→List Cnd→Ps→List Cnd×Ps
 | 0,l,p=>(l,p.fail p.peek.pl 99)
 | n+1,l,p=>if p.is 1 wOr then let r:=termF n p.pass;condL n (l++[r.1]) r.2 else (l,p)
end
def fuP (p:Ps):Nat:=4 * p.tk.length+8
structure Ac where
 k:Int
 t:ByteArray
deriving DecidableEq
def actF (p:Ps):Ac×Ps:=
 let t:=p.peek;let p1:=p.need 1
 let k:=idx t.tx wActs
 let p2:=if k<5 then p1 else p1.fail t.pl 30
 if k=1 then
  let u:=p2.peek;let p3:=p2.need 3
  (⟨2,u.tx⟩,if (tplF u.tx).2.isSome then p3.fail u.pl 3 else p3)
 else (⟨if k<5 then (k:Int)+1 else 0,ofL []⟩,p2)
structure Ru where
 c:Option Cnd
 a:Ac
def ruleF (p:Ps):Ru×Ps:=
 let x:Option Cnd×Ps:=if p.is 1 wIf then let r:=condF (fuP p.pass) p.pass;(some r.1,r.2.symb yCol) else (none,p)
 let y:=actF x.2
 (⟨x.1,y.1⟩,if y.2.peek.kd≠0 then y.2.fail y.2.peek.pl 30 else y.2)
def lineF (s:List UInt8) (n:Nat):Option Ru×Int×Int:=
 let r:=scanF (s.length+1) s 0 []
 if r.2.2=false then (none,(r.2.1:Int),6) else
 match r.1 with
 | []=>(none,0,0)
 | t::_=>if n=256 then (none,t.pl,9) else
  let q:=ruleF ⟨r.1,(r.2.1:Int),0,0,0⟩
  if q.2.e≠0 then (none,q.2.pl,q.2.e) else (some q.1,0,0)
def linesF:List UInt8→List (List UInt8)
 | []=>[[]]
 | c::r=>if c == 10 then []::linesF r else match linesF r with
  | []=>[[c]]
  | l::m=>(c::l)::m
def rowsF:List (List UInt8)→Nat→List Ru→Except (Int×Int×Int) (List Ru)
 | [],_,acc=>.ok acc
 | s::l,i,acc=>match lineF s acc.length with
  | (some x,_,_)=>rowsF l (i+1) (acc++[x])
  | (none,a,e)=>if e=0 then rowsF l (i+1) acc else .error ((i:Int)+1,a+1,e)
def parF (s:ByteArray):Except (Int×Int×Int) (List Ru):=if 65536<s.size then .error (0,0,5) else rowsF (linesF s.data.toList) 0 []
def subO (c:Cq):Ou:=if c.kind=4 then c.new else c.old
def subT (c:Cq):Int:=if c.kind=4 then c.newAt else c.oldAt
def fldT (f:Nat) (c:Cq):ByteArray:=if f=0 then (subO c).tg else if f=1 then c.old.tx else c.new.tx
def fldN (f:Nat) (c:Cq):Int:=if f=0 then (subO c).us else if f=1 then c.nu else if f=2 then ((subO c).tx.size:Int) else subT c
def cmpB (k:Nat) (s w:ByteArray):Bool:=if k=0 then s.toList == w.toList else if k=1 then Lib.contains s.data.toList w.data.toList else Lib.hasPrefix s.data.toList w.data.toList
def cmpZ (k:Nat) (n w:Int):Bool:=if k=0 then n == w else if k=1 then decide (n<w) else decide (w<n)
def lwith (s a:ByteArray):Bool:=lvalid s.data.toList && lvalid a.data.toList && (s.toList == a.toList || isE a || Lib.hasPrefix s.data.toList (a.data.toList++[46]))
mutual
def holF (c:Cq):Cnd→Bool
 | .any l=>anyH c l
 | .all l=>allH c l
 | .nt x=>!holF c x
 | .nul=>false
 | .kd _ k=>c.kind == k
 | .ch _ k=>(subO c).ch == k
 | .tx _ f k s=>cmpB k (fldT f c) s
 | .nm _ f k n=>cmpZ k (fldN f c) n
 | .by_ _ s=>lwith c.who s
def anyH (c:Cq):List Cnd→Bool
 | []=>false
 | x::l=>holF c x || anyH c l
def allH (c:Cq):List Cnd→Bool
 | []=>true
 | x::l=>holF c x && allH c l
end
def valF (n:ByteArray) (c:Cq):ByteArray:=
 let k:=idx n wFlds
 if k=0 then (subO c).tg else if k=1 then ofL (Lib.itoa (subO c).us) else if k=2 then ofL (Lib.itoa (subT c)) else if k=3 then c.who else if k=4 then ofL (Lib.itoa c.nu) else if k=5 then c.old.tx else if k=6 then c.new.tx else ofL []
def segF (c:Cq):Seg→ByteArray
 | .lit s=>s
 | .fld n=>valF n c
def expF (s:ByteArray) (c:Cq):ByteArray:=ofL ((tplF s).1.flatMap fun x=>(segF c x).data.toList)
def posF (a k:Int):Bool:=
 if a=1∨a=2 then decide (k=2∨k=3) else if a=3 then decide (k=3∨k=4) else if a=4 then decide (k=4) else if a=5 then decide (k=2∨k=3∨k=4) else false
def condH (c:Cq) (x:Ru):Bool:=match x.c with
 | none=>true
 | some d=>holF c d
def decF (c:Cq):List Ru→Nat→Ac×Int
 | [],_=>(⟨5,ofL []⟩,-1)
 | x::l,i=>
  if posF x.a.k c.kind=false∨condH c x=false then decF c l (i+1)
  else if x.a.k≠2 then (x.a,(i:Int))
  else if 4096<(expF x.a.t c).size then (⟨5,ofL []⟩,-1)
  else (⟨2,expF x.a.t c⟩,(i:Int))
def decideF (l:List Ru) (c:Cq):Ac×Int:=if posF 5 c.kind=false then (⟨0,ofL []⟩,-1) else decF c l 0
structure Dc where
 rd:Int
 at':Int
 c:Cq
 a:Ac
 ru:Int
 deriving DecidableEq
structure Bk where
 rd:Int
 si:Int
 dn:List Dc
 op:List Cq
def En.z:En:=⟨⟨#[]⟩,0,0,Ou.z⟩
def wou (c:Cq):En:=⟨c.who,c.nu,c.newAt,c.new⟩
abbrev Mt:=Int×En
def mtr (c:Cq):Mt:=if c.kind≠4 then (c.place,En.z) else (-1,wou c)
def cnts (c:Cq):Bool:=decide (c.kind≠1) && !isE c.who
def tkF (z:Int):Bool:=decide (0≤z∧z≤1073741824)
def qok (c:Cq):Bool:=lvalid c.who.data.toList && decide (0≤c.nu∧c.nu≤1048576) && tkF c.oldAt && tkF c.newAt
 && (if c.kind=4 then decide (c.place = -1∧c.old=Ou.z∧c.oldAt=0) else decide (0≤c.place∧c.place<100000∧ochk c.old=0))
 && (if c.kind=2 then decide (c.new=Ou.z∧c.newAt=0) else decide (ochk c.new=0))
def qchk (c:Cq):Int:=if c.kind<1∨4<c.kind then 11 else if qok c then 0 else 3
def sameQ (a b:Cq):Bool:=if a.kind=4∨b.kind=4 then decide (a.kind=b.kind∧a.who=b.who∧a.nu=b.nu∧a.newAt=b.newAt∧a.new=b.new) else decide (a.place=b.place)
theorem Wt {c:Cq} (h:qchk c=0):1≤c.kind∧c.kind≤4∧qok c=true:=by
 unfold qchk at h
 split at h
 ·omega
 ·split at h
  ·rename_i h2;exact ⟨by omega,by omega,h2⟩
  ·omega
theorem qchk_place {c:Cq} (h:qchk c=0):(c.kind=4→c.place = -1)∧(c.kind≠4→0≤c.place):=by
 obtain ⟨h1,h2,h3⟩:=Wt h
 unfold qok at h3
 simp only [Bool.and_eq_true] at h3
 have h4:=h3.1.2
 by_cases hk:c.kind=4
 ·rw [if_pos hk] at h4
  exact ⟨fun _=>(of_decide_eq_true h4).1,fun h=>absurd hk h⟩
 ·rw [if_neg hk] at h4
  exact ⟨fun h=>absurd h hk,fun _=>(of_decide_eq_true h4).1⟩
theorem Vk {a b:Cq} (ha:qchk a=0) (hb:qchk b=0):sameQ a b=true↔mtr a=mtr b:=by
 obtain ⟨a1,a2⟩:=qchk_place ha
 obtain ⟨b1,b2⟩:=qchk_place hb
 unfold sameQ mtr wou
 by_cases ka:a.kind=4
 ·by_cases kb:b.kind=4
  ·rw [if_pos (.inl ka),if_neg (by simp [ka]),if_neg (by simp [kb])]
   simp [ka,kb]
  ·rw [if_pos (.inl ka),if_neg (by simp [ka]),if_pos kb]
   have:=b2 kb
   simp only [decide_eq_true_eq,Prod.mk.injEq]
   exact ⟨fun h=>absurd (h.1.symm.trans ka) kb,fun h=>by omega⟩
 ·by_cases kb:b.kind=4
  ·rw [if_pos (.inr kb),if_pos ka,if_neg (by simp [kb])]
   have:=a2 ka
   simp only [decide_eq_true_eq,Prod.mk.injEq]
   exact ⟨fun h=>absurd (h.1.trans kb) ka,fun h=>by omega⟩
  ·rw [if_neg (by simp [ka,kb]),if_pos ka,if_pos kb]
   simp
structure Rp where
 k:List (Mt×Bool)
 d:List Dc
 o:List Cq
def rpS (l:List Ru) (rd at':Int) (s:Rp) (c:Cq):Rp:=
 if cnts c=false∨(mget (mtr c) s.k).getD false=true then s
 else if (decideF l c).1.k=5 then ⟨mset (mtr c) true s.k,s.d,s.o++[c]⟩
 else ⟨mset (mtr c) true s.k,s.d++[⟨rd,at',c,(decideF l c).1,(decideF l c).2⟩],s.o⟩
def knB (dn:List Dc):List (Mt×Bool):=dn.foldl (fun m d=>mset (mtr d.c) true m) []
def rpL (l:List Ru) (rd at':Int) (dn:List Dc) (cs:List Cq):Rp:=cs.foldl (rpS l rd at') ⟨knB dn,[],[]⟩
def fstQ (cs:List Cq):Int:=((cs.map qchk).find? fun e=>decide (e≠0)).getD 0
def rpE (B:Bk) (cs:List Cq) (at':Int):Int:=if fstQ cs≠0 then fstQ cs else if at'<0∨1073741824<at' then 2 else if at'<B.si then 32 else 0
def setl (dn:List Dc) (op:List Cq) (c:Cq):Bool:=dn.any (fun d=>sameQ d.c c) || op.any (fun x=>sameQ x c)
def rpM (l:List Ru) (rd at':Int) (s:List Dc×List Cq) (c:Cq):List Dc×List Cq:=
 if cnts c=false∨setl s.1 s.2 c=true then s
 else if (decideF l c).1.k=5 then (s.1,s.2++[c])
 else (s.1++[⟨rd,at',c,(decideF l c).1,(decideF l c).2⟩],s.2)
structure RpOK (dn:List Dc) (s:Rp):Prop where
 qd:∀d ∈ dn++s.d,qchk d.c=0
 qo:∀c ∈ s.o,qchk c=0
 kn:∀c,qchk c=0→((mget (mtr c) s.k).getD false=true↔setl (dn++s.d) s.o c=true)
theorem Yb {dn:List Dc} {op:List Cq} (hd:∀d ∈ dn,qchk d.c=0) (ho:∀c ∈ op,qchk c=0) {c:Cq} (hc:qchk c=0):setl dn op c=true↔(∃d ∈ dn,mtr d.c=mtr c)∨∃x ∈ op,mtr x=mtr c:=by
 unfold setl
 rw [Bool.or_eq_true,List.any_eq_true,List.any_eq_true]
 exact or_congr ⟨fun ⟨d,h1,h2⟩=>⟨d,h1,(Vk (hd d h1) hc).1 h2⟩,fun ⟨d,h1,h2⟩=>⟨d,h1,(Vk (hd d h1) hc).2 h2⟩⟩
  ⟨fun ⟨d,h1,h2⟩=>⟨d,h1,(Vk (ho d h1) hc).1 h2⟩,fun ⟨d,h1,h2⟩=>⟨d,h1,(Vk (ho d h1) hc).2 h2⟩⟩
theorem knB_get:∀(dn:List Dc) (m:List (Mt×Bool)) (t:Mt),(mget t (dn.foldl (fun m d=>mset (mtr d.c) true m) m)).getD false=true↔(∃d ∈ dn,mtr d.c=t)∨(mget t m).getD false=true
 | [],m,t=>by simp
 | d::dn,m,t=>by
  rw [List.foldl_cons,knB_get dn _ t,YT]
  by_cases h:mtr d.c=t
  ·rw [if_pos h]
   exact ⟨fun _=>.inl ⟨d,List.mem_cons_self,h⟩,fun _=>.inr rfl⟩
  ·rw [if_neg h]
   refine or_congr ⟨fun ⟨x,h1,h2⟩=>⟨x,List.mem_cons_of_mem _ h1,h2⟩,fun ⟨x,h1,h2⟩=>?_⟩ Iff.rfl
   rcases List.mem_cons.1 h1 with rfl|h1
   ·exact absurd h2 h
   ·exact ⟨x,h1,h2⟩
theorem rpOK_nil {dn:List Dc} (hd:∀d ∈ dn,qchk d.c=0):RpOK dn ⟨knB dn,[],[]⟩ where
 qd:=fun d h=>hd d (by simpa using h)
 qo:=fun c h=>by cases h
 kn:=fun c hc=>by
  rw [Yb (fun d h=>hd d (by simpa using h)) (fun c h=>by cases h) hc]
  unfold knB
  rw [knB_get]
  simp [mget]
theorem rpS_ok {l:List Ru} {rd at':Int} {dn:List Dc} {s:Rp} (h:RpOK dn s) {c:Cq} (hc:qchk c=0):RpOK dn (rpS l rd at' s c)∧rpM l rd at' (dn++s.d,s.o) c=(dn++(rpS l rd at' s c).d,(rpS l rd at' s c).o):=by
 have hk:=h.kn c hc
 unfold rpS rpM
 dsimp only
 by_cases h1:cnts c=false∨(mget (mtr c) s.k).getD false=true
 ·rw [if_pos h1,if_pos (h1.imp id hk.1)]
  exact ⟨h,rfl⟩
 ·have hn:¬(cnts c=false∨setl (dn++s.d) s.o c=true):=fun h2=>h1 (h2.imp id hk.2)
  rw [if_neg h1,if_neg hn]
  have key:∀(t:Mt),(mget t (mset (mtr c) true s.k)).getD false=true↔mtr c=t∨(mget t s.k).getD false=true:=fun t=>by
   rw [YT]
   by_cases h2:mtr c=t
   ·rw [if_pos h2];exact ⟨fun _=>.inl h2,fun _=>rfl⟩
   ·rw [if_neg h2];exact ⟨.inr,fun h3=>h3.elim (fun h3=>absurd h3 h2) id⟩
  by_cases h5:(decideF l c).1.k=5
  ·rw [if_pos h5,if_pos h5]
   have qo':∀x ∈ s.o++[c],qchk x=0:=fun x hx=>by
    rcases List.mem_append.1 hx with hx|hx
    ·exact h.qo x hx
    ·rw [List.mem_singleton.1 hx];exact hc
   refine ⟨⟨h.qd,qo',fun x hx=>?_⟩,rfl⟩
   dsimp only
   rw [key,h.kn x hx,Yb h.qd h.qo hx,Yb h.qd qo' hx]
   constructor
   ·rintro (h2|h2|⟨y,h3,h4⟩)
    ·exact .inr ⟨c,by simp,h2⟩
    ·exact .inl h2
    ·exact .inr ⟨y,List.mem_append_left _ h3,h4⟩
   ·rintro (h2|⟨y,h3,h4⟩)
    ·exact .inr (.inl h2)
    ·rcases List.mem_append.1 h3 with h3|h3
     ·exact .inr (.inr ⟨y,h3,h4⟩)
     ·rw [List.mem_singleton.1 h3] at h4;exact .inl h4
  ·rw [if_neg h5,if_neg h5]
   have qd':∀x ∈ dn++(s.d++[(⟨rd,at',c,(decideF l c).1,(decideF l c).2⟩:Dc)]),qchk x.c=0:=fun x hx=>by
    rw [←List.append_assoc] at hx
    rcases List.mem_append.1 hx with hx|hx
    ·exact h.qd x hx
    ·rw [List.mem_singleton.1 hx];exact hc
   refine ⟨⟨qd',h.qo,fun x hx=>?_⟩,by rw [List.append_assoc]⟩
   dsimp only
   rw [key,h.kn x hx,Yb h.qd h.qo hx,Yb qd' h.qo hx]
   constructor
   ·rintro (h2|⟨y,h3,h4⟩|h2)
    ·exact .inl ⟨_,List.mem_append_right _ (List.mem_append_right _ (List.mem_singleton_self _)),h2⟩
    ·refine .inl ⟨y,?_,h4⟩
     rw [←List.append_assoc]
     exact List.mem_append_left _ h3
    ·exact .inr h2
   ·rintro (⟨y,h3,h4⟩|h2)
    ·rw [←List.append_assoc] at h3
     rcases List.mem_append.1 h3 with h3|h3
     ·exact .inr (.inl ⟨y,h3,h4⟩)
     ·rw [List.mem_singleton.1 h3] at h4;exact .inl h4
    ·exact .inr (.inr h2)
theorem rpL_ok (l:List Ru) (rd at':Int) (dn:List Dc):∀(cs:List Cq) (s:Rp),RpOK dn s→(∀c ∈ cs,qchk c=0)→RpOK dn (cs.foldl (rpS l rd at') s)∧cs.foldl (rpM l rd at') (dn++s.d,s.o)=(dn++(cs.foldl (rpS l rd at') s).d,(cs.foldl (rpS l rd at') s).o)
 | [],_,h,_=>⟨h,rfl⟩
 | c::cs,s,h,hc=>by
  obtain ⟨h1,h2⟩:=rpS_ok (l:=l) (rd:=rd) (at':=at') h (hc c List.mem_cons_self)
  rw [List.foldl_cons,List.foldl_cons,h2]
  exact rpL_ok l rd at' dn cs _ h1 fun x hx=>hc x (List.mem_cons_of_mem _ hx)
def permF (a:Ac) (c:Cq):Int:=if a.k=5∨posF a.k c.kind=false then 33 else if a.k=2∧4096<a.t.size then 5 else if a.k≠2∧isE a.t=false then 3 else 0
def ansE (B:Bk) (i:Int) (a:Ac) (at':Int):Int:=if i<0∨(B.op.length:Int)≤i∨at'<0∨1073741824<at' then 2 else if at'<B.si then 32 else match B.op[i.toNat]? with
 | none=>2
 | some c=>permF a c
def ansD (B:Bk) (c:Cq) (a:Ac) (at':Int):Dc:=⟨B.rd,at',c,a,-1⟩
def ansB (B:Bk) (i:Nat) (c:Cq) (a:Ac) (at':Int):Bk:={B with op:=B.op.eraseIdx i,dn:=B.dn++[ansD B c a at']}
def cpE (d:Dc) (i:Nat):En:=⟨⟨#[]⟩,(i:Int),d.at',{d.c.old with tx:=d.a.t}⟩
def compF (dn:List Dc):List En:=(dn.filter fun d=>decide (d.a.k=2)).mapIdx fun i d=>cpE d i
def sndF (dn:List Dc):List En:=(dn.filter fun d=>decide (d.a.k=3)).map fun d=>wou d.c
def rdyA (all:List En) (left:List En) (si:Int) (dn:List Dc):List En:=all.filter fun x=>decide (x ∉ left) && (decide (si≤x.tk) || decide (x ∈ sndF dn))
structure BkI (B:Bk):Prop where
 r0:0≤B.rd
 s0:0≤B.si
 s1:B.si≤1073741824
 rz:B.rd=0→B.si=0∧B.op=[]
 dq:∀d ∈ B.dn,qchk d.c=0∧cnts d.c=true
 dr:∀d ∈ B.dn,1≤d.rd∧d.rd≤B.rd∧0≤d.at'∧d.at'≤1073741824∧-1≤d.ru∧d.ru<256
 dp:∀d ∈ B.dn,permF d.a d.c=0
 oq:∀c ∈ B.op,qchk c=0∧cnts c=true
 un:((B.dn.map (·.c)++B.op).map mtr).Nodup
theorem bkI_new:BkI ⟨0,0,[],[]⟩ where
 r0:=Int.le_refl _
 s0:=Int.le_refl _
 s1:=by decide
 rz:=fun _=>⟨rfl,rfl⟩
 dq:=fun d h=>by cases h
 dr:=fun d h=>by cases h
 dp:=fun d h=>by cases h
 oq:=fun d h=>by cases h
 un:=List.nodup_nil
theorem BkI.answer {B:Bk} (h:BkI B) {i:Nat} {c:Cq} (hc:B.op[i]? = some c) {a:Ac} {at':Int} (ha:0≤at'∧at'≤1073741824) (hp:permF a c=0):BkI (ansB B i c a at'):=by
 obtain ⟨hi,hg⟩:=List.getElem?_eq_some_iff.1 hc
 have hcm:c ∈ B.op:=hg ▸ List.getElem_mem hi
 have hr:1≤B.rd:=by
  have:=h.r0
  rcases Int.lt_or_le B.rd 1 with h1|h1
  ·have:=(h.rz (by omega)).2
   rw [this] at hcm
   cases hcm
  ·exact h1
 have hsub:∀x ∈ B.op.eraseIdx i,x ∈ B.op:=fun x hx=>List.mem_of_mem_eraseIdx hx
 have hmem:∀{P:Dc→Prop},(∀d ∈ B.dn,P d)→P (ansD B c a at')→∀d ∈ B.dn++[ansD B c a at'],P d:=fun h1 h2 d hd=>by
  rcases List.mem_append.1 hd with hd|hd
  ·exact h1 d hd
  ·rw [List.mem_singleton.1 hd];exact h2
 refine ⟨h.r0,h.s0,h.s1,fun e=>?_,hmem h.dq (h.oq c hcm),hmem h.dr ⟨hr,Int.le_refl _,ha.1,ha.2,(show (-1:Int)≤-1 by decide),(show (-1:Int)<256 by decide)⟩,hmem h.dp hp,fun x hx=>h.oq x (hsub x hx),?_⟩
 ·have e2:B.rd=0:=e
  omega
 ·have hperm:(B.dn.map (·.c)++[c]++B.op.eraseIdx i).Perm (B.dn.map (·.c)++B.op):=by
   rw [List.append_assoc]
   refine List.Perm.append_left _ ?_
   rw [List.eraseIdx_eq_take_drop_succ]
   have e:B.op=B.op.take i++c::B.op.drop (i+1):=by
    rw [←hg,←List.drop_eq_getElem_cons hi,List.take_append_drop]
   exact (List.perm_middle (l₁:=B.op.take i) (a:=c) (l₂:=B.op.drop (i+1))).symm.trans (List.Perm.of_eq e.symm)
  have:=(hperm.map mtr).nodup_iff.2 h.un
  simpa [ansB,ansD] using this
def rpB (B:Bk) (l:List Ru) (cs:List Cq) (at':Int):Bk:=⟨B.rd+1,at',B.dn++(rpL l (B.rd+1) at' B.dn cs).d,(rpL l (B.rd+1) at' B.dn cs).o⟩
structure RpI (l:List Ru) (rd at':Int) (dn:List Dc) (s:Rp):Prop where
 ok:RpOK dn s
 dc:∀d ∈ s.d,cnts d.c=true∧d.rd=rd∧d.at'=at'∧d.a=(decideF l d.c).1∧d.ru=(decideF l d.c).2∧(decideF l d.c).1.k≠5
 oc:∀c ∈ s.o,cnts c=true
 un:(((dn++s.d).map (·.c)++s.o).map mtr).Nodup
theorem RpI.step {l:List Ru} {rd at':Int} {dn:List Dc} {s:Rp} (h:RpI l rd at' dn s) {c:Cq} (hc:qchk c=0):RpI l rd at' dn (rpS l rd at' s c):=by
 refine ⟨(rpS_ok h.ok hc).1,?_,?_,?_⟩
 all_goals
  have hk:=h.ok.kn c hc
  unfold rpS
  by_cases h1:cnts c=false∨(mget (mtr c) s.k).getD false=true
 ·rw [if_pos h1];exact h.dc
 ·rw [if_neg h1]
  by_cases h5:(decideF l c).1.k=5
  ·rw [if_pos h5];exact h.dc
  ·rw [if_neg h5]
   intro d hd
   rcases List.mem_append.1 hd with hd|hd
   ·exact h.dc d hd
   ·rw [List.mem_singleton.1 hd]
    exact ⟨by simpa using fun e=>h1 (.inl e),rfl,rfl,rfl,rfl,h5⟩
 ·rw [if_pos h1];exact h.oc
 ·rw [if_neg h1]
  by_cases h5:(decideF l c).1.k=5
  ·rw [if_pos h5]
   intro d hd
   rcases List.mem_append.1 hd with hd|hd
   ·exact h.oc d hd
   ·rw [List.mem_singleton.1 hd]
    simpa using fun e=>h1 (.inl e)
  ·rw [if_neg h5];exact h.oc
 ·rw [if_pos h1];exact h.un
 ·rw [if_neg h1]
  have hnew:mtr c ∉ ((dn++s.d).map (·.c)++s.o).map mtr:=fun hm=>by
   obtain ⟨y,hy,hye⟩:=List.mem_map.1 hm
   refine h1 (.inr (hk.2 ((Yb h.ok.qd h.ok.qo hc).2 ?_)))
   rcases List.mem_append.1 hy with hy|hy
   ·obtain ⟨d,hd,rfl⟩:=List.mem_map.1 hy
    exact .inl ⟨d,hd,hye⟩
   ·exact .inr ⟨y,hy,hye⟩
  have hnd:(mtr c::((dn++s.d).map (·.c)++s.o).map mtr).Nodup:=List.nodup_cons.2 ⟨hnew,h.un⟩
  by_cases h5:(decideF l c).1.k=5
  ·rw [if_pos h5]
   refine (List.Perm.nodup_iff ?_).2 hnd
   rw [←List.map_cons (f:=mtr)]
   refine List.Perm.map _ ?_
   dsimp only
   rw [←List.append_assoc]
   exact List.perm_append_comm (l₂:=[c])
  ·rw [if_neg h5]
   refine (List.Perm.nodup_iff ?_).2 hnd
   rw [←List.map_cons (f:=mtr)]
   refine List.Perm.map _ ?_
   dsimp only
   rw [←List.append_assoc,List.map_append,List.append_assoc]
   exact List.perm_middle
theorem RpI.all {l:List Ru} {rd at':Int} {dn:List Dc}:∀{cs:List Cq} {s:Rp},RpI l rd at' dn s→(∀c ∈ cs,qchk c=0)→RpI l rd at' dn (cs.foldl (rpS l rd at') s)
 | [],_,h,_=>h
 | c::cs,_,h,hc=>RpI.all (cs:=cs) (h.step (hc c List.mem_cons_self)) fun x hx=>hc x (List.mem_cons_of_mem _ hx)
theorem BkI.rp {B:Bk} (h:BkI B) (l:List Ru) (at':Int) {cs:List Cq} (hc:∀c ∈ cs,qchk c=0):RpI l (B.rd+1) at' B.dn (rpL l (B.rd+1) at' B.dn cs):=by
 refine RpI.all ⟨rpOK_nil fun d hd=>(h.dq d hd).1,(fun d hd=>by cases hd),(fun d hd=>by cases hd),?_⟩ hc
 have:=h.un
 rw [List.map_append] at this
 simpa using (List.nodup_append.1 this).1
theorem BkI.repair {B:Bk} (h:BkI B) {l:List Ru} {at':Int} {cs:List Cq} (hc:∀c ∈ cs,qchk c=0) (ha:0≤at'∧at'≤1073741824)
  (hD:∀c,qchk c=0→cnts c=true→(decideF l c).1.k≠5→permF (decideF l c).1 c=0∧-1≤(decideF l c).2∧(decideF l c).2<256):BkI (rpB B l cs at'):=by
 have hr:=h.rp l at' hc
 have hr0:=h.r0
 have hmem:∀{P:Dc→Prop},(∀d ∈ B.dn,P d)→(∀d ∈ (rpL l (B.rd+1) at' B.dn cs).d,P d)→∀d ∈ (rpB B l cs at').dn,P d:=fun h1 h2 d hd=>by
  rcases List.mem_append.1 hd with hd|hd
  ·exact h1 d hd
  ·exact h2 d hd
 refine ⟨by show 0≤B.rd+1;omega,ha.1,ha.2,fun e=>by have e2:B.rd+1=0:=e;omega,hmem h.dq fun d hd=>⟨hr.ok.qd d (List.mem_append_right _ hd),(hr.dc d hd).1⟩,hmem (fun d hd=>?_) fun d hd=>?_,hmem h.dp fun d hd=>?_,fun c hc=>⟨hr.ok.qo c hc,hr.oc c hc⟩,hr.un⟩
 ·obtain ⟨d1,d2,d3⟩:=h.dr d hd
  exact ⟨d1,by show d.rd≤B.rd+1;omega,d3⟩
 ·obtain ⟨d0,d1,d2,-,d4,d5⟩:=hr.dc d hd
  obtain ⟨-,e1,e2⟩:=hD d.c (hr.ok.qd d (List.mem_append_right _ hd)) d0 d5
  rw [d1,d2,d4]
  exact ⟨by omega,Int.le_refl _,ha.1,ha.2,e1,e2⟩
 ·obtain ⟨d0,-,-,d3,-,d5⟩:=hr.dc d hd
  rw [d3]
  exact (hD d.c (hr.ok.qd d (List.mem_append_right _ hd)) d0 d5).1
section
variable {l:List Oper} {b off:Nat} {cs:Array Value} {ty:TypeId} {fzn:Nat×Nat} {v:Value}
def Ar {α:Type} (T:Nat) (f:α→List Value) (b:Nat) (es:List α):HP:=Pt b (.cells (es.flatMap f).toArray T (0,0))
theorem V9 {β:Type}:∀(vs c:List Value) (o:Nat) (k:List Value→Option β),o+vs.length≤c.length→putF c o vs k=k (c.take o++vs++c.drop (o+vs.length))
 | [],c,o,k,_=>by cases c<;>simp [putF]
 | v::vs,[],o,k,h=>by simp at h
 | v::vs,x::c,0,k,h=>by
  simp only [putF]
  rw [V9 vs c 0 _ (by simp at h ⊢;omega)]
  simp
 | v::vs,x::c,o+1,k,h=>by
  simp only [putF]
  rw [V9 (v::vs) c o _ (by simp at h ⊢;omega),Nat.add_right_comm]
  simp
 termination_by vs c=>(vs.length,c.length)
theorem stv_in {pre xs xs' post:List Value} {o:Nat} (h:stv t xs o v=some xs'):stv t (pre++(xs++post)) (pre.length+o) v=some (pre++(xs'++post)):=by
 unfold stv at h ⊢
 split at h
 ·rename_i r vs hr hvs
  cases hc:(Nat.beq vs.length r.size && vs.all YR) with
  | false=>simp [hc] at h
  | true=>
   simp only [hc,cond_true] at h ⊢
   obtain ⟨h1,h2⟩:=W8 _ _ _ _ _ h
   simp only [Option.some.injEq] at h2
   cases vs with
   | nil=>
    have e1:xs'=xs:=by rw [←h2];simp
    subst e1
    cases hh:pre++(xs'++post)<;>simp [putF]
   | cons u us=>
    have hle:=h1 (by simp)
    rw [V9 _ _ _ _ (by simp at hle ⊢;omega)]
    rw [←h2]
    congr 1
    rw [List.take_length_add_append,List.take_append_of_le_length (by omega),show pre.length+o+(u::us).length=pre.length+(o+(u::us).length) by omega,List.drop_length_add_append,List.drop_append_of_le_length hle]
    simp
 ·cases h
theorem ar_split {α:Type} {f:α→List Value} {sz:Nat} (hf:∀e,(f e).length=sz) {es:List α} {j:Nat} {e:α} (he:es[j]? = some e):es.flatMap f=(es.take j).flatMap f++(f e++(es.drop (j+1)).flatMap f)∧((es.take j).flatMap f).length=j * sz:=by
 refine ⟨XM he,?_⟩
 have:=(List.getElem?_eq_some_iff.1 he).1
 rw [Za hf,List.length_take,Nat.min_eq_left (by omega)]
theorem ar_set {α:Type} {f:α→List Value} {es:List α} {j:Nat} {e e':α} (he:es[j]? = some e):(es.set j e').flatMap f=(es.take j).flatMap f++(f e'++(es.drop (j+1)).flatMap f):=by
 have hlt:=(List.getElem?_eq_some_iff.1 he).1
 rw [XM (f:=f) (es:=es.set j e') (i:=j) (e:=e') (by simp [hlt])]
 rw [List.take_set_of_le (Nat.le_refl _),List.drop_set_of_lt (Nat.lt_succ_self _)]
theorem l_ixS {T sz m cap:Nat} {z:Int} {rs tr:TRow} (j:Nat) (hlt:j<m) (nx:Wl n C ops.toArray k Q l ((d,.pointer (some ⟨b,j * sz,none⟩))::E) F R)
  (hw:wantL ops E ⟨some d,.indexAddr t x y,ty0,pos,aft,gd⟩=some true:=by rfl) (hn:Nat.blt d n=true:=by rfl) (hx:ev E x=some (.slice (some ⟨b,0,none⟩) m cap):=by rfl) (hy:ev E y=some (.int .i64 z):=by rfl)
  (hts:lookT tab t=some rs:=by rfl) (hrs:rs.k = .slice T:=by rfl) (hT:lookT tab T=some tr:=by rfl) (hsz:tr.size=sz:=by rfl) (hz:z=(j:Int):=by first|rfl|omega):Wl n C ops.toArray k Q (⟨some d,.indexAddr t x y,ty0,pos,aft,gd⟩::l) E F R:=
 l_q (fun a w ha=>by
  have hr1:=XW (o:=some ⟨b,0,none⟩) (m:=m) (cap:=cap) (w:=w) hts hrs hT hsz hz hlt (p:=⟨b,j * sz,none⟩) (by simp [Yu rfl])
  simp only [execOp,ha.ev (x:=x) (by rw [ZF];exact hx),ha.ev (x:=y) (by rw [ZF];exact hy),Sem.run_bind,Result.andThen,hr1,Sem.run_pure]) nx (by intro c h;cases h) hw hn
theorem k_to {Y:Type} {mE:Y→List (Nat×Value)} {mF:Y→List Pf} {mR:Y→List HP} (hx:∀y,Wk n C k Q (mE y) (mF y) (mR y)) (y:Y) (he:EntE E (mE y))
  (hf:EntF F (mF y):=by (repeat (first|exact trivial|exact Sel.here|apply Sel.there|apply EntF.cons));first|done|fail) (hr:Sels (mR y) R R0:=by (repeat (first|exact Sels.nil|exact Sel.here|apply Sel.there|apply Sels.cons));first|done|fail):Wk n C k Q E F R:=k_drop he hf hr (hx y)
end
section
variable {l:List Oper} {b off:Nat} {cs:Array Value} {ty:TypeId} {fzn:Nat×Nat} {v:Value}
theorem X0 {f:FuncId} {fs cs:Array Value} {args:Array Operand} {tys:Array TypeId} {vs us:List Value} {post:Post} (spec:Enters f∧Spec prog f us.toArray F1 A post)
  (nx:∀x,post.pure x→Wr n C ops k Q Tl Fs R L ((d,post.val x)::E) (post.F x++F) (post.R x++N')) (ho:nth ops i=some ⟨some d,.call ⟨.value x,args,tys⟩,ty0,pos,aft,gd⟩:=by rfl)
  (hw:wantL ops E ⟨some d,.call ⟨.value x,args,tys⟩,ty0,pos,aft,gd⟩=some true:=by rfl)
  (hx:ev E x=some (.func (.func f) fs cs):=by rfl) (hargs:evs (ev E) args.toList some=some vs:=by rfl) (has:fs.toList++vs++cs.toList=us:=by rfl)
  (sel:Sels A N N':=by (repeat (first|exact Sels.nil|exact Sel.here|apply Sel.there|apply Sels.cons));first|done|fail)
  (hF:EntF F F1:=by (repeat (first|exact trivial|exact Sel.here|apply Sel.there|apply EntF.cons));first|done|fail):Wr n C ops k Q Tl Fs R ((i,4)::L) E F N:=
 Z6 ho fun hp hr w st hz sb=>by
  simp only [ZW hw]
  refine ⟨⟨post.X,post.val,post.pure,fun x=>post.F x++F,fun x=>post.R x++N'⟩,fun a G w hp' ha hsub hsat=>?_,fun x hx=>nx x hx hp hr w st hz sb⟩
  unfold OpRes
  rw [run_callF spec.1 hx hargs ha w]
  have e:fs++vs.toArray++cs=us.toArray:=by rw [←has,←Array.toList_inj];simp
  rw [e]
  exact YU spec.2 hsat sel hF.all fun x w' hx hs'=>⟨x,rfl,hx,hs'⟩
theorem stv_ok' {w:World} {cs':List Value} (h:w.heap[b]? = some (.cells cs ty fzn)) (hf:fzn=(0,0)∨cs.toList.length≤fzn.1) (hv:stv t cs.toList off v=some cs') :
  ∃w',(storeVar t ⟨b,off,none⟩ v).run prog w = .ok () w'∧w'.heap[b]? = some (.cells cs'.toArray ty fzn)∧Same w w'∧∀c,c≠b→w'.heap[c]? = w.heap[c]?:=by
 unfold stv at hv
 split at hv
 ·rename_i r vs hr hvs
  cases hc:(Nat.beq vs.length r.size && vs.all YR) with
  | false=>simp [hc] at hv
  | true=>
   simp only [hc,cond_true] at hv
   rw [Bool.and_eq_true] at hc
   have hlen:=Nat.eq_of_beq_eq_true hc.1
   obtain ⟨h1,h2⟩:=W8 _ _ _ _ _ hv
   have hcl:=Ws hvs
   have hsz:=ZR.sizeOf hr w
   have hle:vs≠[]→off+0+vs.length≤cs.toList.length:=fun hne=>by simpa using h1 hne
   have hst:∃w',(storeCells ⟨b,off,none⟩ vs 0).run prog w = .ok () w'∧w'.heap[b]? = some (.cells cs'.toArray ty fzn)∧Same w w'∧∀c,c≠b→w'.heap[c]? = w.heap[c]?:=by
    by_cases hne:vs=[]
    ·subst hne
     refine ⟨w,rfl,?_,Same.refl _,fun _ _=>rfl⟩
     simp at h2;subst h2;simpa using h
    ·obtain ⟨w',g1,g2,g3,g4⟩:=Z0 (P:=prog) off vs 0 w cs.toList (by simpa using h) hf hc.2 (hle hne)
     refine ⟨w',g1,?_,g3,g4⟩
     rw [g2]
     simp at h2;simp [h2]
   obtain ⟨w',g1,g2⟩:=hst
   refine ⟨w',?_,g2⟩
   unfold storeVar
   simp only [Sem.run_bind,hsz,Result.andThen,hcl]
   rw [if_neg (by simp [hlen])]
   exact g1
 ·cases hv
def Ax {α:Type} (T:Nat) (f:α→List Value) (b:Nat) (es:List α) (q:List Value×(Nat×Nat)):HP:=Pt b (.cells (es.flatMap f++q.1).toArray T q.2)
def AxOK (len:Nat) (q:List Value×(Nat×Nat)):Prop:=q.2=(0,0)∨len+q.1.length≤q.2.1
theorem Wi {α:Type} {f:α→List Value} {sz:Nat} {q:List Value} (hf:∀e,(f e).length=sz) {es:List α} {j:Nat} {e:α} (he:es[j]? = some e):es.flatMap f++q=(es.take j).flatMap f++(f e++((es.drop (j+1)).flatMap f++q))∧((es.take j).flatMap f).length=j * sz:=by
 obtain ⟨h1,h2⟩:=ar_split hf he
 exact ⟨by rw [h1];simp,h2⟩
theorem l_ldE {α:Type} {T:Nat} {f:α→List Value} {es:List α} {q:List Value×(Nat×Nat)} {e:α} (sz j o:Nat) (he:es[j]? = some e) (nx:Wl n C ops.toArray k Q l ((d,v)::E) F R) (hw:wantL ops E ⟨some d,.load t x,ty0,pos,aft,gd⟩=some true:=by rfl) (hn:Nat.blt d n=true:=by rfl)
  (hx:ev E x=some (.pointer (some ⟨b,off,none⟩)):=by rfl) (hs:Sel (Ax T f b es q) R R0:=by (repeat (first|exact Sel.here|apply Sel.there));first|done|fail) (hv:ldv t (f e) o=some v:=by rfl) (hf:∀e,(f e).length=sz:=by intro;rfl) (ho:off=j * sz+o:=by first|rfl|omega) :
  Wl n C ops.toArray k Q (⟨some d,.load t x,ty0,pos,aft,gd⟩::l) E F R:=
 Zn (fun t ht=>by cases ht;exact Nat.le_of_ble_eq_true hn) (fun c hc=>by cases hc) hw fun a w ha hsat=>by
  obtain ⟨e1,e2⟩:=Wi (q:=q.1) hf he
  have hv':ldv t (es.flatMap f++q.1).toArray.toList off=some v:=by
   rw [ho,←e2]
   show ldv t (es.flatMap f++q.1) _=_
   rw [e1]
   exact ldv_in hv
  have hr:=Yp (hsat.pt hs) hv'
  unfold OpRes
  simp only [execOp,Instr.loadAt,ha.ev (by rw [ZF];exact hx),Instr.sureAddr,Sem.run_bind,Sem.run_pure,Result.andThen,hr]
  exact fun a' ha'=>nx a' w ha' hsat
theorem Y6 {α:Type} {T:Nat} {f:α→List Value} {es:List α} {q:List Value×(Nat×Nat)} {e:α} (sz j o:Nat) (he:es[j]? = some e) (nx:Wr n C ops k Q Tl Fs R L ((d,v)::E) F N) (hop:nth ops i=some ⟨some d,.load t x,ty0,pos,aft,gd⟩:=by rfl) (hw:wantL ops E ⟨some d,.load t x,ty0,pos,aft,gd⟩=some true:=by rfl)
  (hx:ev E x=some (.pointer (some ⟨b,off,none⟩)):=by rfl) (hs:Sel (Ax T f b es q) R R0:=by (repeat (first|exact Sel.here|apply Sel.there));first|done|fail) (hv:ldv t (f e) o=some v:=by rfl) (hf:∀e,(f e).length=sz:=by intro;rfl) (ho:off=j * sz+o:=by first|rfl|omega) :
  Wr n C ops k Q Tl Fs R ((i,0)::L) E F N:=
 Z6 hop fun hp hr w st hz sb=>by
  simp only [ZW hw]
  refine ⟨v,fun a w ha hin=>?_,nx hp hr w st hz sb⟩
  obtain ⟨e1,e2⟩:=Wi (q:=q.1) hf he
  have hv':ldv t (es.flatMap f++q.1).toArray.toList off=some v:=by
   rw [ho,←e2]
   show ldv t (es.flatMap f++q.1) _=_
   rw [e1]
   exact ldv_in hv
  have hr:=Yp (hin _ _ (sb _ _ (stat_pt st hs))) hv'
  simp only [execOp,Instr.loadAt,ha.ev (by rw [ZF];exact hx),Instr.sureAddr,Sem.run_bind,Sem.run_pure,Result.andThen,hr]
theorem Wa {α:Type} {T:Nat} {f:α→List Value} {es:List α} {q:List Value×(Nat×Nat)} {e:α} (sz j o:Nat) (he:es[j]? = some e) (nx:Wr n C ops k Q Tl Fs R L ((d,v)::E) F N) (hop:nth ops i=some ⟨some d,.load t x,ty0,pos,aft,gd⟩:=by rfl) (hw:wantL ops E ⟨some d,.load t x,ty0,pos,aft,gd⟩=some true:=by rfl)
  (hx:ev E x=some (.pointer (some ⟨b,off,none⟩)):=by rfl) (hs:Sel (Ax T f b es q) N N':=by (repeat (first|exact Sel.here|apply Sel.there));first|done|fail) (hv:ldv t (f e) o=some v:=by rfl) (hf:∀e,(f e).length=sz:=by intro;rfl) (ho:off=j * sz+o:=by first|rfl|omega) :
  Wr n C ops k Q Tl Fs R ((i,3)::L) E F N:=
 Z6 hop fun hp hr w st hz sb=>by
  simp only [ZW hw]
  refine ⟨v,fun a G w hp' ha hsub hsat=>?_,nx hp hr w st hz sb⟩
  obtain ⟨e1,e2⟩:=Wi (q:=q.1) hf he
  have hv':ldv t (es.flatMap f++q.1).toArray.toList off=some v:=by
   rw [ho,←e2]
   show ldv t (es.flatMap f++q.1) _=_
   rw [e1]
   exact ldv_in hv
  have hr:=Yp (hsat.pt hs) hv'
  simp only [execOp,Instr.loadAt,ha.ev (by rw [ZF];exact hx),Instr.sureAddr,Sem.run_bind,Sem.run_pure,Result.andThen,hr]
theorem r_stE {α:Type} {T:Nat} {f:α→List Value} {es:List α} {q:List Value×(Nat×Nat)} {e:α} (sz j o:Nat) (e':α) (he:es[j]? = some e) (hq:AxOK (es.length * sz) q) (nx:Wr n C ops k Q Tl Fs R L E F (Ax T f b (es.set j e') q::N'))
  (hop:nth ops i=some ⟨none,.store t x y,ty0,pos,aft,gd⟩:=by rfl) (hw:wantL ops E ⟨none,.store t x y,ty0,pos,aft,gd⟩=some true:=by rfl)
  (hx:ev E x=some (.pointer (some ⟨b,off,none⟩)):=by rfl) (hy:ev E y=some v:=by rfl) (hs:Sel (Ax T f b es q) N N':=by (repeat (first|exact Sel.here|apply Sel.there));first|done|fail) (hv:stv t (f e) o v=some (f e'):=by rfl) (hf:∀e,(f e).length=sz:=by intro;rfl) (ho:off=j * sz+o:=by first|rfl|omega) :
  Wr n C ops k Q Tl Fs R ((i,4)::L) E F N:=
 Z6 hop fun hp hr w st hz sb=>by
  simp only [ZW hw]
  refine ⟨⟨Unit,fun _=>undef,fun _=>True,fun _=>F,fun _=>Ax T f b (es.set j e') q::N'⟩,fun a G w hp' ha hsub hsat=>?_,fun _ _=>nx hp hr w st hz sb⟩
  obtain ⟨e1,e2⟩:=Wi (q:=q.1) hf he
  have hv':stv t (es.flatMap f++q.1).toArray.toList off v=some ((es.set j e').flatMap f++q.1):=by
   rw [ho,←e2,ar_set he]
   show stv t (es.flatMap f++q.1) _ _=_
   rw [e1,stv_in hv]
   simp
  have hfz:q.2=(0,0)∨(es.flatMap f++q.1).toArray.toList.length≤q.2.1:=by
   rcases hq with h|h
   ·exact .inl h
   ·exact .inr (by simpa [Za hf] using h)
  obtain ⟨w',g1,g2,g3,g4⟩:=stv_ok' (hsat.pt hs) hfz hv'
  unfold OpRes
  simp only [execOp,Instr.storeAt,ha.ev (x:=x) (by rw [ZF];exact hx),ha.ev (x:=y) (by rw [ZF];exact hy),Instr.sureAddr,Sem.run_bind,Sem.run_pure,Result.andThen,g1]
  exact ⟨(),trivial,trivial,(hsat.sel hs).write g3 g2 fun c hc _=>g4 c hc⟩
theorem l_stE {α:Type} {T:Nat} {f:α→List Value} {es:List α} {q:List Value×(Nat×Nat)} {e:α} (sz j o:Nat) (e':α) (he:es[j]? = some e) (hq:AxOK (es.length * sz) q) (nx:Wl n C ops.toArray k Q l E F (Ax T f b (es.set j e') q::R0)) (hw:wantL ops E ⟨none,.store t x y,ty0,pos,aft,gd⟩=some true:=by rfl)
  (hx:ev E x=some (.pointer (some ⟨b,off,none⟩)):=by rfl) (hy:ev E y=some v:=by rfl) (hs:Sel (Ax T f b es q) R R0:=by (repeat (first|exact Sel.here|apply Sel.there));first|done|fail) (hv:stv t (f e) o v=some (f e'):=by rfl) (hf:∀e,(f e).length=sz:=by intro;rfl) (ho:off=j * sz+o:=by first|rfl|omega) :
  Wl n C ops.toArray k Q (⟨none,.store t x y,ty0,pos,aft,gd⟩::l) E F R:=
 Zn (fun t ht=>by cases ht) (fun c hc=>by cases hc) hw fun a w ha hsat=>by
  obtain ⟨e1,e2⟩:=Wi (q:=q.1) hf he
  have hv':stv t (es.flatMap f++q.1).toArray.toList off v=some ((es.set j e').flatMap f++q.1):=by
   rw [ho,←e2,ar_set he]
   show stv t (es.flatMap f++q.1) _ _=_
   rw [e1,stv_in hv]
   simp
  have hfz:q.2=(0,0)∨(es.flatMap f++q.1).toArray.toList.length≤q.2.1:=by
   rcases hq with h|h
   ·exact .inl h
   ·exact .inr (by simpa [Za hf] using h)
  obtain ⟨w',g1,g2,g3,g4⟩:=stv_ok' (hsat.pt hs) hfz hv'
  unfold OpRes
  simp only [execOp,Instr.storeAt,ha.ev (x:=x) (by rw [ZF];exact hx),ha.ev (x:=y) (by rw [ZF];exact hy),Instr.sureAddr,Sem.run_bind,Sem.run_pure,Result.andThen,g1]
  exact fun a' ha'=>nx a' w' ha' ((hsat.sel hs).write g3 g2 fun c hc _=>g4 c hc)
def AnyI:Post:=⟨Int,fun z=>.int .i64 z,fun _=>True,fun _=>[],fun _=>[]⟩
def Srd {α:Type} (c:α→α→Int) (l:List α):Prop:=l.Pairwise fun a b=>¬c b a<0
theorem srt_insr {α:Type} {c:α→α→Int} (ha:∀a b,c a b<0→¬c b a<0) (ht:∀a b d,¬c b a<0→¬c d b<0→¬c d a<0) {P S:List α} {x:α} (h:Srd c (P++S)) (h1:∀s ∈ S,c x s<0) (h2:∀p,P.getLast? = some p→¬c x p<0):Srd c (P++x::S):=by
 obtain ⟨hP,hS,hPS⟩:=List.pairwise_append.1 h
 refine List.pairwise_append.2 ⟨hP,List.pairwise_cons.2 ⟨fun s hs=>ha _ _ (h1 s hs),hS⟩,fun p hp y hy=>?_⟩
 rcases List.mem_cons.1 hy with rfl|hy
 ·rcases List.eq_nil_or_concat P with rfl|⟨P',q,rfl⟩
  ·cases hp
  ·have hq:=h2 q (by simp)
   rw [List.concat_eq_append] at hp hP
   rcases List.mem_append.1 hp with hp|hp
   ·exact ht p q _ ((List.pairwise_append.1 hP).2.2 p hp q (by simp)) hq
   ·obtain rfl:=List.mem_singleton.1 hp;exact hq
 ·exact hPS p hp y hy
theorem swap_set {α:Type} (P:List α) (p x:α) (S:List α):((P++p::x::S).set (P.length+1) p).set P.length x=P++x::p::S:=by
 rw [List.set_append_right _ _ (by omega)]
 simp
end
end Go.Proofs.YtcjfciifhdfjkaaGreatDoor
