/-
  Comparisons that order: numbers, texts, lists, pairs; no program in sight.
  Names of processes: the ordinals of a text, and that the order of names is one; no program in sight.
  Contracts of the package codec: writing.
  Contracts of the package codec: reading.
  Contracts of the package codec: the reader.
  Contracts of the package lineage.
  Contracts of the package lineage: Parse, Valid, Ordinals, Compare.
  Search trees of names and values, and the sorted lists that they hold; no program in sight.
  Contracts of cmp.Or and of the package object: Compare, Word, Check.
  The contract of object.Name.Check.
  Contracts of the package state: the search tree.
  Contracts of the package state: with, find.
  More rules for regions that draw their order: what is owned may be set fast, facts may be drawn from facts.
  Contracts of the package state: With.
  Contracts of the package state: the nodes in order, Kind.
  Contracts of the package output: Check, write, Encode, read, Decode.
  Contracts of the package output: ledgers, All.
  The contract of output.All.
  Equality of structs, evaluated; that this is what the model does; rules for it.
  Rules for maps that the program makes.
  Rules for a range over an owned map.
  What a view holds: changes, the last of each name.
  Why an action is not the same in two runs: what package depend computes. No program in sight.
  Actions of runs in memory.
  Conditions: those that each theorem states.
-/
import Derived.Test.YtdkndahndgkmnaaGreatDoorJ1
import Derived.Laws.StructEq
import Derived.ChangeKeysEq
namespace Go.Proofs.YtdkndahndgkmnaaGreatDoor
open Go.RowKit Go.Proofs.Tryz
structure Ord3 {α:Type} (c:α→α→Int):Prop where
 eq:∀a b,c a b=0↔a=b
 anti:∀a b,c a b<0↔0<c b a
 trans:∀a b d,c a b<0→c b d<0→c a d<0
theorem Ord3.self {α:Type} {c:α→α→Int} (h:Ord3 c) (a:α):c a a=0:=(h.eq a a).2 rfl
theorem YE:Ord3 cmpI:=by
 constructor
 ·intro a b;unfold cmpI;split<;>(try split)<;>omega
 ·intro a b;unfold cmpI;split<;>(try split)<;>(try split)<;>(try split)<;>omega
 ·intro a b d;unfold cmpI;split<;>split<;>(try split)<;>(try split)<;>(try split)<;>(try split)<;>omega
theorem WX:∀(x y:List UInt8),Op.bytesLess x y=decide (x<y)
 | [],[]=>by simp [Op.bytesLess]
 | _::_,[]=>by simp [Op.bytesLess]
 | [],_::_=>by simp [Op.bytesLess]
 | a::x,b::y=>by
  rw [Op.bytesLess,WX x y]
  simp only [List.cons_lt_cons_iff]
  by_cases h1:a<b<;>by_cases h2:a=b<;>by_cases h3:x<y<;>simp [h1,h2,h3]
theorem Zt (s:ByteArray):s.toList=s.data.toList:=ByteArray.toList_eq s
theorem WG {a b:ByteArray} (h:a.data.toList=b.data.toList):a=b:=by
 obtain ⟨⟨a⟩⟩:=a;obtain ⟨⟨b⟩⟩:=b;simp at h;subst h;rfl
theorem X7 (x y:ByteArray):cmpS x y=if x.data.toList<y.data.toList then -1 else if x=y then 0 else 1:=by
 unfold cmpS
 rw [WX,Zt,Zt]
 by_cases h:x.data.toList<y.data.toList
 ·simp [h]
 ·simp only [h,decide_false,Bool.false_eq_true,if_false]
  by_cases h2:x=y
  ·simp [h2]
  ·rw [if_neg (fun e=>h2 (WG e)),if_neg h2]
theorem ord_str:Ord3 cmpS:=by
 have irr:∀a:List UInt8,¬a<a:=List.lt_irrefl
 have tr:∀a b c:List UInt8,a<b→b<c→a<c:=fun a b c h k=>List.lt_trans h k
 have tri:∀a b:ByteArray,¬a.data.toList<b.data.toList→a≠b→b.data.toList<a.data.toList:=fun a b h hne=>by
  refine Decidable.byContradiction fun k=>hne (WG ?_)
  exact List.le_antisymm (List.not_lt.1 k) (List.not_lt.1 h)
 constructor
 ·intro a b
  rw [X7]
  by_cases h:a.data.toList<b.data.toList
  ·simp only [h,if_true]
   constructor
   ·intro e;omega
   ·intro e;subst e;exact absurd h (irr _)
  ·simp only [h,if_false]
   by_cases h2:a=b<;>simp [h2]
 ·intro a b
  rw [X7,X7]
  by_cases h:a.data.toList<b.data.toList
  ·have h2:¬b.data.toList<a.data.toList:=fun k=>irr _ (tr _ _ _ h k)
   have h3:b≠a:=fun e=>by subst e;exact irr _ h
   simp [h,h2,h3]
  ·simp only [h,if_false]
   by_cases h2:a=b
   ·subst h2;simp [irr]
   ·have:=tri a b h h2
    simp [h2,this]
 ·intro a b d
  rw [X7,X7,X7]
  intro h1 h2
  have h1':a.data.toList<b.data.toList:=by
   by_cases h:a.data.toList<b.data.toList
   ·exact h
   ·simp only [h,if_false] at h1;split at h1<;>omega
  have h2':b.data.toList<d.data.toList:=by
   by_cases h:b.data.toList<d.data.toList
   ·exact h
   ·simp only [h,if_false] at h2;split at h2<;>omega
  simp [tr _ _ _ h1' h2']
def lex {α β:Type} (c:α→α→Int) (d:β→β→Int) (x y:α×β):Int:=if c x.1 y.1≠0 then c x.1 y.1 else d x.2 y.2
theorem Yi {α β:Type} {c:α→α→Int} {d:β→β→Int} (hc:Ord3 c) (hd:Ord3 d):Ord3 (lex c d):=by
 constructor
 ·rintro ⟨a,a'⟩ ⟨b,b'⟩
  unfold lex
  dsimp only
  have:=hc.eq a b
  have:=hd.eq a' b'
  simp only [Prod.mk.injEq]
  split<;>simp_all
 ·rintro ⟨a,a'⟩ ⟨b,b'⟩
  unfold lex
  dsimp only
  have h1:=hc.eq a b
  have h2:=hc.eq b a
  have h3:=hc.anti a b
  have h4:=hd.anti a' b'
  by_cases h:a=b
  ·subst h;simp [h1.2 rfl,h4]
  ·rw [if_pos (fun e=>h (h1.1 e)),if_pos (fun e=>h (h2.1 e).symm)];exact h3
 ·rintro ⟨a,a'⟩ ⟨b,b'⟩ ⟨e,e'⟩
  unfold lex
  dsimp only
  have h1:=hc.eq a b
  have h2:=hc.eq b e
  have h3:=hc.eq a e
  have h4:=hc.trans a b e
  have h5:=hd.trans a' b' e'
  by_cases hab:a=b
  ·subst hab
   rw [if_neg (by simp [h1.2 rfl])]
   by_cases hbe:a=e
   ·subst hbe;rw [if_neg (by simp [h1.2 rfl]),if_neg (by simp [h1.2 rfl])];exact h5
   ·rw [if_pos (fun x=>hbe (h2.1 x))];exact fun _ h=>by rw [if_pos (by omega)];exact h
  ·rw [if_pos (fun x=>hab (h1.1 x))]
   by_cases hbe:b=e
   ·subst hbe
    rw [if_neg (by simp [h2.2 rfl]),if_pos (fun x=>hab (h1.1 x))];exact fun h _=>h
   ·rw [if_pos (fun x=>hbe (h2.1 x))]
    intro k1 k2
    have k3:=h4 k1 k2
    rw [if_pos (by omega)];exact k3
theorem ord_map {α β:Type} {c:β→β→Int} (hc:Ord3 c) (f:α→β) (hf:∀a b,f a=f b→a=b):Ord3 fun a b=>c (f a) (f b):=
 ⟨fun a b=>(hc.eq _ _).trans ⟨hf a b,fun h=>by rw [h]⟩,fun _ _=>hc.anti _ _,fun _ _ _=>hc.trans _ _ _⟩
def cmpL:List Int→List Int→Int
 | [],[]=>0
 | [],_::_=>-1
 | _::_,[]=>1
 | a::x,b::y=>if cmpI a b≠0 then cmpI a b else cmpL x y
theorem ord_list:Ord3 cmpL:=by
 have e:∀a b,cmpL a b=0↔a=b:=by
  intro a
  induction a with
  | nil=>intro b;cases b<;>simp [cmpL]
  | cons x a ih=>
   intro b
   cases b with
   | nil=>simp [cmpL]
   | cons y b=>
    have:=YE.eq x y
    have:=ih b
    unfold cmpL
    split<;>simp_all
 refine ⟨e,?_,?_⟩
 ·intro a
  induction a with
  | nil=>intro b;cases b<;>simp [cmpL]
  | cons x a ih=>
   intro b
   cases b with
   | nil=>simp [cmpL]
   | cons y b=>
    have h1:=YE.eq x y
    have h2:=YE.eq y x
    have h3:=YE.anti x y
    have h4:=ih b
    unfold cmpL
    by_cases h:x=y
    ·subst h;simp [h1.2 rfl,h4]
    ·rw [if_pos (fun e=>h (h1.1 e)),if_pos (fun e=>h (h2.1 e).symm)];exact h3
 ·intro a
  induction a with
  | nil=>
   intro b d h1 h2
   cases d with
   | nil=>cases b<;>simp [cmpL] at h1 h2
   | cons=>simp [cmpL]
  | cons x a ih=>
   intro b d
   cases b with
   | nil=>simp [cmpL]
   | cons y b=>
    cases d with
    | nil=>simp [cmpL]
    | cons z d=>
     have h1:=YE.eq x y
     have h2:=YE.eq y z
     have h3:=YE.eq x z
     have h4:=YE.trans x y z
     have h5:=ih b d
     unfold cmpL
     by_cases hab:x=y
     ·subst hab
      rw [if_neg (by simp [h1.2 rfl])]
      by_cases hbe:x=z
      ·subst hbe;rw [if_neg (by simp [h1.2 rfl]),if_neg (by simp [h1.2 rfl])];exact h5
      ·rw [if_pos (fun x=>hbe (h2.1 x))];exact fun _ h=>by rw [if_pos (by omega)];exact h
     ·rw [if_pos (fun x=>hab (h1.1 x))]
      by_cases hbe:y=z
      ·subst hbe
       rw [if_neg (by simp [h2.2 rfl]),if_pos (fun x=>hab (h1.1 x))];exact fun h _=>h
      ·rw [if_pos (fun x=>hbe (h2.1 x))]
       intro k1 k2
       have k3:=h4 k1 k2
       rw [if_pos (by omega)];exact k3
def isDig (c:UInt8):Bool:=decide (48≤c.toNat) && decide (c.toNat≤57)
def digs (l:List UInt8):List UInt8:=(l.take 7).takeWhile isDig
def dnum (l:List UInt8):Nat:=l.foldl (fun n c=>n * 10+(c.toNat - 48)) 0
structure Prt where
 ord:Nat
 pos:Nat
 e:Int
def ferr (l:List UInt8) (count:Nat):Int:=
 if count=8 then 9 else if l=[] then 4 else if digs l=[] then 6 else if l.head? = some 48 then 3 else if 6<(digs l).length then 2 else 0
theorem Xp (l:List UInt8):(digs l).length≤7∧(digs l).length≤l.length:=by
 have h1:(digs l).length≤(l.take 7).length:=(List.takeWhile_prefix isDig).length_le
 simp at h1
 omega
theorem digs_pre (l:List UInt8):digs l=l.take (digs l).length:=by
 have h1:digs l <+: l.take 7:=List.takeWhile_prefix isDig
 have h2:=List.prefix_iff_eq_take.1 h1
 rw [List.take_take,Nat.min_eq_left (Xp l).1] at h2
 exact h2
theorem digs_all (l:List UInt8):∀c ∈ digs l,isDig c=true:=fun c hc=>by
 have:=List.all_takeWhile (p:=isDig) (l:=l.take 7)
 exact List.all_eq_true.1 this c hc
def prts (l:List UInt8) (pos count:Nat):List Prt:=
 if ferr l count≠0 then [⟨0,pos,ferr l count⟩]
 else match h:l.drop (digs l).length with
  | []=>[⟨dnum (digs l),pos,0⟩]
  | c::rest=>if c≠46 then [⟨dnum (digs l),pos,0⟩,⟨0,pos+(digs l).length,6⟩] else ⟨dnum (digs l),pos,0⟩::prts rest (pos+(digs l).length+1) (count+1)
termination_by l.length
decreasing_by
 have:=congrArg List.length h
 simp at this;omega
def lparts (s:List UInt8):List Prt:=if s=[] then [] else prts s 0 0
def lvalid (s:List UInt8):Bool:=(lparts s).all fun p=>p.e == 0
def lords (s:List UInt8):List Int:=if lvalid s then (lparts s).map fun p=>(p.ord:Int) else []
theorem Ww (l:List UInt8) (c:UInt8):dnum (l++[c])=dnum l * 10+(c.toNat - 48):=by simp [dnum]
theorem dig_inj {a b:UInt8} (ha:isDig a=true) (hb:isDig b=true) (h:a.toNat - 48=b.toNat - 48):a=b:=by
 simp [isDig] at ha hb
 exact UInt8.toNat_inj.1 (by omega)
theorem dig_lt {a:UInt8} (ha:isDig a=true):a.toNat - 48<10:=by simp [isDig] at ha;omega
theorem foldl_pos (l:List UInt8):∀n,0<n→0<l.foldl (fun n c=>n * 10+(c.toNat - 48)) n:=by
 induction l with
 | nil=>intro n h;exact h
 | cons c l ih=>intro n h;exact ih _ (show 0<n * 10+(c.toNat - 48) by omega)
theorem dnum_pos {c:UInt8} {l:List UInt8} (hc:isDig c=true) (h0:c≠48):0<dnum (c::l):=by
 unfold dnum
 simp only [List.foldl_cons]
 refine foldl_pos l _ ?_
 have:c.toNat≠48:=fun e=>h0 (UInt8.toNat_inj.1 e)
 simp [isDig] at hc
 omega
theorem dnum_inj:∀(n:Nat) (a b:List UInt8),a.length=n→(∀c ∈ a,isDig c=true)→(∀c ∈ b,isDig c=true)→a.head?≠some 48→b.head?≠some 48→dnum a=dnum b→a=b:=by
 intro n
 induction n with
 | zero=>
  intro a b hn ha hb h0 h1 h
  cases a with
  | cons=>simp at hn
  | nil=>
   cases b with
   | nil=>rfl
   | cons c b=>
    have:=dnum_pos (l:=b) (hb c (by simp)) (fun e=>h1 (by simp [e]))
    rw [←h] at this
    simp [dnum] at this
 | succ n ih=>
  intro a b hn ha hb h0 h1 h
  have hane:a≠[]:=fun e=>by subst e;simp at hn
  have hbne:b≠[]:=fun e=>by
   subst e
   cases a with
   | nil=>exact hane rfl
   | cons c a=>
    have:=dnum_pos (l:=a) (ha c (by simp)) (fun e=>h0 (by simp [e]))
    rw [h] at this
    simp [dnum] at this
  have ea:=List.dropLast_concat_getLast hane
  have eb:=List.dropLast_concat_getLast hbne
  rw [←ea,←eb] at h ⊢
  rw [Ww,Ww] at h
  have ka:=ha _ (List.getLast_mem hane)
  have kb:=hb _ (List.getLast_mem hbne)
  have la:=dig_lt ka
  have lb:=dig_lt kb
  have hh:∀l:List UInt8,l.head?≠some 48→l.dropLast.head?≠some 48:=fun l hl=>by
   cases l with
   | nil=>simp
   | cons c l=>
    cases l with
    | nil=>simp
    | cons d l=>simpa using hl
  have e1:a.dropLast=b.dropLast:=ih _ _ (by simp [hn]) (fun c hc=>ha c (List.dropLast_subset _ hc)) (fun c hc=>hb c (List.dropLast_subset _ hc)) (hh _ h0) (hh _ h1) (by omega)
  rw [e1,dig_inj ka kb (by omega)]
theorem prts_ne (l:List UInt8) (pos count:Nat):prts l pos count≠[]:=by
 unfold prts
 split
 ·simp
 ·split
  ·simp
  ·split<;>simp
theorem prts_ok {l:List UInt8} {pos count:Nat} (h:∀p ∈ prts l pos count,p.e=0) :
  digs l≠[]∧l.head?≠some 48∧((l=digs l∧prts l pos count=[⟨dnum (digs l),pos,0⟩])∨
   ∃rest,l=digs l++46::rest∧prts l pos count=⟨dnum (digs l),pos,0⟩::prts rest (pos+(digs l).length+1) (count+1)):=by
 have hp:=digs_pre l
 have hl:=Xp l
 have key:ferr l count=0→digs l≠[]∧l.head?≠some 48:=fun e=>by
  unfold ferr at e
  split at e
  ·cases e
  ·split at e
   ·cases e
   ·split at e
    ·cases e
    ·split at e
     ·cases e
     ·rename_i h1 h2;exact ⟨h1,h2⟩
 unfold prts at h ⊢
 split at h
 ·rename_i h1
  exact absurd (h _ (List.mem_singleton.2 rfl)) h1
 ·rename_i h1
  rw [if_neg h1]
  have h1:ferr l count=0:=Decidable.not_not.1 h1
  refine ⟨(key h1).1,(key h1).2,?_⟩
  split at h
  ·rename_i h2
   left
   have h3:l.length≤(digs l).length:=by simpa using h2
   refine ⟨?_,?_⟩
   ·rw [hp]
    exact (List.take_of_length_le h3).symm
   ·rfl
  ·rename_i c rest h2
   right
   split at h
   ·have:=h ⟨0,pos+(digs l).length,6⟩ (by simp)
    cases this
   ·rename_i hc
    have hc:c=46:=Decidable.not_not.1 hc
    subst hc
    refine ⟨rest,?_,?_⟩
    ·rw [←h2]
     conv=>lhs;rw [←List.take_append_drop (digs l).length l]
     rw [←hp]
    ·rw [if_neg hc]
     congr 1
     rw [prts]
theorem digs_head (l:List UInt8):digs l≠[]→(digs l).head? = l.head?:=by
 intro h
 cases l with
 | nil=>simp [digs] at h
 | cons c l=>
  have h2:digs (c::l)=(c::l.take 6).takeWhile isDig:=rfl
  rw [h2] at h ⊢
  rw [List.takeWhile_cons] at h ⊢
  split at h
  ·rename_i hc;simp [hc]
  ·exact absurd rfl h
theorem prts_inj:∀(n:Nat) (a b:List UInt8) (p q c d:Nat),a.length≤n→(∀x ∈ prts a p c,x.e=0)→(∀x ∈ prts b q d,x.e=0)→(prts a p c).map (fun x=>(x.ord:Int))=(prts b q d).map (fun x=>(x.ord:Int))→a=b:=by
 intro n
 induction n with
 | zero=>
  intro a b p q c d hn ha
  obtain ⟨h1,_,_⟩:=prts_ok ha
  have:a=[]:=List.length_eq_zero_iff.1 (by omega)
  subst this
  simp [digs] at h1
 | succ n ih=>
  intro a b p q c d hn ha hb h
  obtain ⟨a1,a2,a3⟩:=prts_ok ha
  obtain ⟨b1,b2,b3⟩:=prts_ok hb
  have key:dnum (digs a)=dnum (digs b)→digs a=digs b:=fun e=>
   dnum_inj _ _ _ rfl (digs_all a) (digs_all b) (by rw [digs_head a a1];exact a2) (by rw [digs_head b b1];exact b2) e
  rcases a3 with ⟨e1,e2⟩|⟨ra,e1,e2⟩<;>rcases b3 with ⟨f1,f2⟩|⟨rb,f1,f2⟩
  ·rw [e2,f2] at h
   simp at h
   rw [e1,f1];exact key (by omega)
  ·rw [e2,f2] at h
   simp only [List.map_cons,List.map_nil,List.cons.injEq] at h
   have:=h.2.symm
   rw [List.map_eq_nil_iff] at this
   exact absurd this (prts_ne _ _ _)
  ·rw [e2,f2] at h
   simp only [List.map_cons,List.map_nil,List.cons.injEq] at h
   have:=h.2
   rw [List.map_eq_nil_iff] at this
   exact absurd this (prts_ne _ _ _)
  ·rw [e2] at ha h
   rw [f2] at hb h
   simp only [List.map_cons,List.cons.injEq] at h
   have hlen:=congrArg List.length e1
   simp at hlen
   have e3:=ih ra rb _ _ _ _ (by omega) (fun x hx=>ha x (by simp [hx])) (fun x hx=>hb x (by simp [hx])) h.2
   rw [e1,f1,key (by omega),e3]
theorem lords_inj {a b:List UInt8} (ha:lvalid a=true) (hb:lvalid b=true) (h:lords a=lords b):a=b:=by
 unfold lords at h
 rw [if_pos ha,if_pos hb] at h
 unfold lvalid at ha hb
 rw [List.all_eq_true] at ha hb
 simp only [beq_iff_eq] at ha hb
 unfold lparts at *
 by_cases h1:a=[]<;>by_cases h2:b=[]
 ·rw [h1,h2]
 ·rw [if_pos h1,if_neg h2] at h
  have:=h.symm
  simp only [List.map_nil,List.map_eq_nil_iff] at this
  exact absurd this (prts_ne _ _ _)
 ·rw [if_neg h1,if_pos h2] at h
  simp only [List.map_nil,List.map_eq_nil_iff] at h
  exact absurd h (prts_ne _ _ _)
 ·rw [if_neg h1,if_neg h2] at h
  rw [if_neg h1] at ha
  rw [if_neg h2] at hb
  exact prts_inj _ a b _ _ _ _ (Nat.le_refl _) ha hb h
def cmpN (a b:ByteArray):Int:=
 if a=b then 0 else match lvalid a.data.toList,lvalid b.data.toList with
  | true,true=>cmpL (lords a.data.toList) (lords b.data.toList)
  | true,false=>-1
  | false,true=>1
  | false,false=>cmpS a b
def keyN (a:ByteArray):Int×List Int×ByteArray:=if lvalid a.data.toList then (0,lords a.data.toList,⟨#[]⟩) else (1,[],a)
theorem keyN_inj (a b:ByteArray) (h:keyN a=keyN b):a=b:=by
 unfold keyN at h
 split at h<;>split at h
 ·rename_i h1 h2
  simp only [Prod.mk.injEq,and_true,true_and] at h
  exact WG (lords_inj h1 h2 h)
 ·simp at h
 ·simp at h
 ·simp only [Prod.mk.injEq,true_and] at h
  exact h
theorem cmpN_key (a b:ByteArray):cmpN a b=lex cmpI (lex cmpL cmpS) (keyN a) (keyN b):=by
 have ho:=Yi YE (Yi ord_list ord_str)
 unfold cmpN
 by_cases h:a=b
 ·subst h;rw [if_pos rfl];exact (ho.self _).symm
 ·rw [if_neg h]
  unfold keyN
  cases h1:lvalid a.data.toList<;>cases h2:lvalid b.data.toList
  ·simp [lex,cmpI,cmpL]
  ·simp [lex,cmpI]
  ·simp [lex,cmpI]
  ·have h3:cmpS ⟨#[]⟩ ⟨#[]⟩=0:=ord_str.self _
   simp only [lex,cmpI,if_true,h3]
   by_cases h4:cmpL (lords a.data.toList) (lords b.data.toList)=0<;>simp [h4]
theorem ord_lin:Ord3 cmpN:=by
 have h:=ord_map (Yi YE (Yi ord_list ord_str)) keyN keyN_inj
 have e:cmpN=fun a b=>lex cmpI (lex cmpL cmpS) (keyN a) (keyN b):=by funext a b;exact cmpN_key a b
 rw [e];exact h
def cmpO (a b:Nm):Int:=
 if cmpI a.kind b.kind≠0 then cmpI a.kind b.kind
 else if cmpN a.owner b.owner≠0 then cmpN a.owner b.owner
 else if cmpI a.number b.number≠0 then cmpI a.number b.number
 else if cmpI a.index b.index≠0 then cmpI a.index b.index
 else cmpS a.text b.text
theorem YU:Ord3 cmpO:=by
 have h:=ord_map (Yi YE (Yi ord_lin (Yi YE (Yi YE ord_str)))) (fun a:Nm=>(a.kind,a.owner,a.number,a.index,a.text)) (by
  rintro ⟨a,b,c,d,e⟩ ⟨a',b',c',d',e'⟩ h
  simp only [Prod.mk.injEq] at h
  obtain ⟨rfl,rfl,rfl,rfl,rfl⟩:=h
  rfl)
 exact h
set_option maxRecDepth 10000
variable {n:Nat} {C:Cx} {Q:Exit→Act→World→Prop} {E:List (Nat×Value)} {F:List Pf} {R R0:List HP} {k:List Fr}
section
def venc (u:Nat):List UInt8:=if u<128 then [UInt8.ofNat u] else UInt8.ofNat (u % 128+128)::venc (u / 128)
termination_by u
decreasing_by omega
theorem venc_len (k:Nat):∀u,u<128 ^ (k+1)→(venc u).length≤k+1:=by
 induction k with
 | zero=>intro u hu;unfold venc;rw [if_pos (by simpa using hu)];simp
 | succ k ih=>
  intro u hu
  unfold venc
  split
  ·simp
  ·have:=ih (u / 128) (by rw [Nat.div_lt_iff_lt_mul (by omega)];rw [Nat.pow_succ] at hu;exact hu)
   simp;omega
theorem YJ (u:Nat) (hu:u<18446744073709551616):(venc u).length≤10:=venc_len 9 u (by simp only [Nat.reducePow,Nat.reduceAdd];omega)
theorem wrap_u8 (u:Nat):IntKind.u8.wrap (u:Int)=((u % 256:Nat):Int):=by
 simp [IntKind.wrap,IntKind.bits,IntKind.signed]
theorem or_128:∀x:Fin 256,x.val ||| 128=x.val % 128+128:=by decide +kernel
theorem or128 (u:Nat):IntKind.u8.wrap ((BitVec.ofInt IntKind.u8.bits (IntKind.u8.wrap (u:Int)) ||| BitVec.ofInt IntKind.u8.bits 128).toNat:Int)=((u % 128+128:Nat):Int):=by
 have h:=or_128 ⟨u % 256,by omega⟩
 simp only at h
 have hx:u % 256 % 2 ^ 8=u % 256:=by omega
 have e:(BitVec.ofInt IntKind.u8.bits (IntKind.u8.wrap (u:Int)) ||| BitVec.ofInt IntKind.u8.bits 128).toNat=u % 256 ||| 128:=by
  rw [wrap_u8]
  show (BitVec.ofInt 8 ((u % 256:Nat):Int) ||| BitVec.ofInt 8 128).toNat=_
  rw [BitVec.toNat_or,BitVec.ofInt_natCast,BitVec.toNat_ofNat,hx]
  rfl
 rw [e,h,wrap_u8]
 congr 1;omega
theorem shr7 (u:Nat):Int.fdiv (u:Int) (2 ^ (min (7:Int).toNat IntKind.u64.bits))=((u / 128:Nat):Int):=by
 show Int.fdiv (u:Int) (2 ^ 7)=_
 rw [Int.fdiv_eq_ediv_of_nonneg _ (by decide)]
 omega
structure VX (m:Nat) (xs:List Value) (u0:Nat) where
 o:Option Addr
 m1:Nat
 cap:Nat
 ys:List Value
 u:Nat
 hk:∃pre,ys=xs++byt pre∧pre++venc u=venc u0∧m1=m+pre.length
 hu:u<18446744073709551616
theorem YV (o:Option Addr) (m cap:Nat) (xs:List Value) (u:Nat) (hu:u<18446744073709551616) (hm:m≤1099511627776) :
  Enters 196∧Spec prog 196 #[.slice o m cap,.int .u64 (u:Int)] [] [Row 5 1 o m cap xs]
   ⟨Option Addr×Nat,fun q=>.slice q.1 (m+(venc u).length) q.2,fun _=>True,fun _=>[],fun q=>[Row 5 1 q.1 (m+(venc u).length) q.2 (xs++byt (venc u))]⟩:=by
 have hl0:=YJ u hu
 refine Zb [_,_] func196 ntmps196 fun G w hp=>?_
 repeat' (first|refine ZH ?_|refine ZG ?_|refine ZK ?_|refine ZI ?_|refine ZP ?_|refine ZJ ?_|refine ZM ?_|refine ZN (fun b=>?_)|refine ZO (fun b=>?_)|refine ZA ?_|refine ZB ?_|refine ZR ?_|refine ZC (fun hc=>?_) (fun hc=>?_)|refine ZE (fun hc=>?_) (fun hc=>?_))
 refine Z6 (X:=VX m xs u) (fun q=>[(0,.slice q.o q.m1 q.cap),(1,.int .u64 (q.u:Int))]) (fun _=>[]) (fun q=>[Row 5 1 q.o q.m1 q.cap q.ys]) (fun q=>q.u) ⟨o,m,cap,xs,u,⟨[],by simp [byt],rfl,rfl⟩,hu⟩ ⟨rfl,rfl,trivial⟩ ?_
 rintro ⟨o,m1,cap,ys,v,⟨pre,rfl,hv,rfl⟩,hvu⟩
 dsimp only
 have hl:pre.length+(venc v).length≤10:=by rw [←List.length_append,hv];exact hl0
 repeat' (first|refine ZH ?_|refine ZG ?_|refine ZK ?_|refine ZI ?_|refine ZP ?_|refine ZJ ?_|refine ZM ?_|refine ZN (fun b=>?_)|refine ZO (fun b=>?_)|refine ZA ?_|refine ZB ?_|refine ZR ?_|refine Yq (fun o' cap'=>?_)|rw [or128]|rw [shr7]|refine ZC (fun hc=>?_) (fun hc=>?_)|refine ZE (fun hc=>?_) (fun hc=>?_))
 ·have hv1:128≤v:=by simp at hc;omega
  have hv2:venc v=UInt8.ofNat (v % 128+128)::venc (v / 128):=by rw [venc,if_neg (by omega)]
  refine Zc ⟨o',m+pre.length+1,cap',_,v / 128,⟨pre++[UInt8.ofNat (v % 128+128)],?_,by simp [←hv,hv2],by simp;omega⟩,by omega⟩ (by show v / 128<v;omega) ⟨rfl,rfl,trivial⟩
  simp [byt]
  omega
 ·have hv1:v<128:=by simp at hc;omega
  have hv2:venc v=[UInt8.ofNat v]:=by rw [venc,if_pos hv1]
  rw [hv2] at hv
  have e1:xs++byt pre++#[Value.int .u8 (IntKind.u8.wrap (v:Int))].toList=xs++byt (venc u):=by
   rw [←hv,wrap_u8];simp [byt]
  have e2:m+pre.length+1=m+(venc u).length:=by simp [←hv,Nat.add_assoc]
  rw [e1,e2]
  exact ZS (o',cap') rfl trivial
def Wtr (b:Nat) (bs:List UInt8):HP:=fun h=>∃q:Option Addr×Nat,Sep [Pt b (.cells #[.slice q.1 bs.length q.2,.int .i64 0] 254),Row 5 1 q.1 bs.length q.2 (byt bs)] h
theorem k_wtr {b:Nat} {bs:List UInt8} (t:∀o cap,Wk n C k Q E F (Pt b (.cells #[.slice o bs.length cap,.int .i64 0] 254)::Row 5 1 o bs.length cap (byt bs)::R0)) (hs:Sel (Wtr b bs) R R0:=by (repeat (first|exact Sel.here|apply Sel.there));first|done|fail):Wk n C k Q E F R:=
 Yo (X:=Option Addr×Nat) (p:=fun _=>True) hs (fun _ ⟨q,h⟩=>⟨q,trivial,h⟩) fun q _=>t q.1 q.2
theorem l_wtr {b:Nat} {bs:List UInt8} {ops l:List Oper} (t:∀o cap,Wl n C ops.toArray k Q l E F (Pt b (.cells #[.slice o bs.length cap,.int .i64 0] 254)::Row 5 1 o bs.length cap (byt bs)::R0)) (hs:Sel (Wtr b bs) R R0:=by (repeat (first|exact Sel.here|apply Sel.there));first|done|fail):Wl n C ops.toArray k Q l E F R:=
 l_open (X:=Option Addr×Nat) (p:=fun _=>True) hs (fun _ ⟨q,h⟩=>⟨q,trivial,h⟩) fun q _=>t q.1 q.2
theorem k_wtr' {b:Nat} {bs:List UInt8} {o:Option Addr} {cap:Nat} (t:Wk n C k Q E F (Wtr b bs::R0)) (hs:Sels [Pt b (.cells #[.slice o bs.length cap,.int .i64 0] 254),Row 5 1 o bs.length cap (byt bs)] R R0:=by (repeat (first|exact Sels.nil|exact Sel.here|apply Sel.there|apply Sels.cons));first|done|fail):Wk n C k Q E F R:=
 Zs (fun _ h=>⟨(o,cap),h⟩) t hs
theorem Wi:Enters 85∧Spec prog 85 #[] [] [] ⟨Nat,fun b=>.pointer (some ⟨b,0,none⟩),fun _=>True,fun _=>[],fun b=>[Wtr b []]⟩:=by
 refine Zb [] func85 ntmps85 fun G w hp=>?_
 repeat' (first|refine ZH ?_|refine ZG ?_|refine ZK ?_|refine ZI ?_|refine ZP ?_|refine ZJ ?_|refine ZM ?_|refine ZN (fun b=>?_)|refine ZO (fun b=>?_)|refine ZA ?_|refine ZB ?_|refine ZR ?_|refine ZC (fun hc=>?_) (fun hc=>?_)|refine ZE (fun hc=>?_) (fun hc=>?_))
 refine Zs (Lx:=[]) (r:=Row 5 1 none 0 0 []) (fun h _=>YQ _ _ h) ?_
 refine k_wtr' (bs:=[]) (o:=none) (cap:=0) (b:=b) ?_
 exact ZS b rfl trivial
theorem XG (b:Nat) (bs:List UInt8):Enters 195∧Spec prog 195 #[.pointer (some ⟨b,0,none⟩)] [] [Wtr b bs] ⟨Unit,fun _=>.bool true,fun _=>True,fun _=>[],fun _=>[Wtr b bs]⟩:=by
 refine Zb [_] func195 ntmps195 fun G w hp=>?_
 refine k_wtr fun o cap=>?_
 repeat' (first|refine ZH ?_|refine ZG ?_|refine ZK ?_|refine ZI ?_|refine ZP ?_|refine ZJ ?_|refine ZM ?_|refine ZN (fun b=>?_)|refine ZO (fun b=>?_)|refine ZA ?_|refine ZB ?_|refine ZR ?_|refine ZC (fun hc=>?_) (fun hc=>?_)|refine ZE (fun hc=>?_) (fun hc=>?_))
 refine k_wtr' ?_
 exact ZS () rfl trivial
theorem Xs {u:Nat} (hu:u<18446744073709551616):IntKind.u64.wrap (u:Int)=(u:Int):=by
 simp [IntKind.wrap,IntKind.bits,IntKind.signed];omega
theorem WQ (b:Nat) (bs:List UInt8) (u:Nat) (hu:u<9223372036854775808) (hl:bs.length≤1099511627776):Enters 138∧Spec prog 138 #[.pointer (some ⟨b,0,none⟩),.int .i64 (u:Int)] [] [Wtr b bs] ⟨Unit,fun _=>.tuple #[],fun _=>True,fun _=>[],fun _=>[Wtr b (bs++venc u)]⟩:=by
 have hu':u<18446744073709551616:=by omega
 refine Zb [_,_] func138 ntmps138 fun G w hp=>?_
 repeat' (first|refine ZH ?_|refine ZG ?_|refine ZK ?_|refine ZI ?_|refine ZP ?_|refine ZJ ?_|refine ZM ?_|refine ZN (fun b=>?_)|refine ZO (fun b=>?_)|refine ZA ?_|refine ZB ?_|refine ZR ?_|refine ZF (XG _ _) (fun _ _=>?_)|refine l_call0 (XG _ _) (fun _ _=>?_)|refine ZF (YV _ _ _ _ _ (by omega) (by omega)) (fun _ _=>?_)|refine l_call0 (YV _ _ _ _ _ (by omega) (by omega)) (fun _ _=>?_)|refine l_wtr (fun o cap=>?_)|rw [Xs hu']|refine ZC (fun hc=>?_) (fun hc=>?_)|refine ZE (fun hc=>?_) (fun hc=>?_))
 rename_i q _
 rw [←List.length_append,←byt_append]
 refine k_wtr' (o:=q.1) (cap:=q.2) ?_
 exact XB () rfl trivial
theorem wtrText_ok (b:Nat) (bs:List UInt8) (s:ByteArray) (hs:s.size≤16777216) (hl:bs.length≤1000000000000):Enters 139∧Spec prog 139 #[.pointer (some ⟨b,0,none⟩),.string s] [] [Wtr b bs] ⟨Unit,fun _=>.tuple #[],fun _=>True,fun _=>[],fun _=>[Wtr b (bs++venc s.size++s.data.toList)]⟩:=by
 have hu':s.size<18446744073709551616:=by omega
 have hl0:=YJ s.size hu'
 have hc:decide ((16777216:Int)<(s.size:Int))=false:=by simp;omega
 refine Zb [_,_] func139 ntmps139 fun G w hp=>?_
 repeat' (first|refine ZH ?_|refine ZG ?_|refine ZK ?_|refine ZI ?_|refine ZP ?_|refine ZJ ?_|refine ZM ?_|refine ZN (fun b=>?_)|refine ZO (fun b=>?_)|refine ZA ?_|refine ZB ?_|refine ZR ?_|refine ZF (XG _ _) (fun _ _=>?_)|refine l_call0 (XG _ _) (fun _ _=>?_)|refine ZF (YV _ bs.length _ _ s.size hu' (by omega)) (fun _ _=>?_)|refine l_call0 (YV _ bs.length _ _ s.size hu' (by omega)) (fun _ _=>?_)|refine l_wtr (fun o cap=>?_)|rw [Xs hu']|rw [hc]|refine l_appS (fun o' cap'=>?_)|refine ZC (fun hc=>?_) (fun hc=>?_)|refine ZE (fun hc=>?_) (fun hc=>?_))
 have e1:bs.length+(venc s.size).length+s.size=(bs++venc s.size++s.data.toList).length:=by simp;omega
 have e2:(byt bs++byt (venc s.size)++s.data.toList.map fun b=>.int .u8 b.toNat)=byt (bs++venc s.size++s.data.toList):=by simp [byt]
 rw [e1,e2]
 refine k_wtr' (o:=o') (cap:=cap') ?_
 exact XB () rfl trivial
theorem Xq (o:Option Addr) (bs:List UInt8) (cap:Nat) (hl:bs.length≤1099511627776):Enters 140∧Spec prog 140 #[.slice o bs.length cap] [] [Row 5 1 o bs.length cap (byt bs)]
  ⟨Option Addr×Nat,fun q=>.slice q.1 bs.length q.2,fun _=>True,fun _=>[],fun q=>[Row 5 1 q.1 bs.length q.2 (byt bs),Row 5 1 o bs.length cap (byt bs)]⟩:=by
 refine Zb [_] func140 ntmps140 fun G w hp=>?_
 cases o with
 | none=>
  refine Yo (X:=Unit) (p:=fun _=>bs=[]∧cap=0) (Lx:=fun _=>[]) Sel.here (fun h hr=>⟨(),?_,trivial⟩) (fun _ hb=>?_)
  ·rcases hr with ⟨_,_,h3,h4⟩|⟨_,_,_,h1,_⟩
   ·exact ⟨by simpa [byt] using h4,h3⟩
   ·cases h1
  obtain ⟨rfl,rfl⟩:=hb
  repeat' (first|refine ZH ?_|refine ZG ?_|refine ZK ?_|refine ZI ?_|refine ZP ?_|refine ZJ ?_|refine ZM ?_|refine ZN (fun b=>?_)|refine ZO (fun b=>?_)|refine ZA ?_|refine ZB ?_|refine ZR ?_|refine ZC (fun hc=>?_) (fun hc=>?_)|refine ZE (fun hc=>?_) (fun hc=>?_))
  refine Zs (Lx:=[]) (r:=Row 5 1 none 0 0 []) (fun h _=>YQ _ _ h) ?_
  refine Zs (Lx:=[]) (r:=Row 5 1 none 0 0 []) (fun h _=>YQ _ _ h) ?_
  exact ZS (none,0) rfl trivial
 | some a=>
  repeat' (first|refine ZH ?_|refine ZG ?_|refine ZK ?_|refine ZI ?_|refine ZP ?_|refine ZJ ?_|refine ZM ?_|refine ZN (fun b=>?_)|refine ZO (fun b=>?_)|refine ZA ?_|refine ZB ?_|refine ZR ?_|refine l_shut (row_zero (sz:=1)) ?_|refine l_appR (fun o' cap'=>?_)|refine ZC (fun hc=>?_) (fun hc=>?_)|refine ZE (fun hc=>?_) (fun hc=>?_))
  rw [Nat.zero_add]
  exact ZS (o',cap') rfl trivial
theorem W8 (b:Nat) (bs:List UInt8) (hl:bs.length≤1099511627776):Enters 87∧Spec prog 87 #[.pointer (some ⟨b,0,none⟩)] [] [Wtr b bs]
  ⟨Option Addr×Nat,fun q=>.tuple #[.slice q.1 bs.length q.2,.int .i64 0],fun _=>True,fun _=>[],fun q=>[Row 5 1 q.1 bs.length q.2 (byt bs),Wtr b bs]⟩:=by
 refine Zb [_] func87 ntmps87 fun G w hp=>?_
 refine k_wtr fun o cap=>?_
 repeat' (first|refine ZH ?_|refine ZG ?_|refine ZK ?_|refine ZI ?_|refine ZP ?_|refine ZJ ?_|refine ZM ?_|refine ZN (fun b=>?_)|refine ZO (fun b=>?_)|refine ZA ?_|refine ZB ?_|refine ZR ?_|refine ZZ ?_|refine ZW ?_|refine Zf ?_|refine Za ?_|refine ZY ?_|refine Ze (fun b=>?_)|refine Zg (fun b=>?_)|refine Zd ?_|refine ZX ?_|refine ZF (Xq _ _ _ (by omega)) (fun _ _=>?_)|refine l_call0 (Xq _ _ _ (by omega)) (fun _ _=>?_)|refine ZT (Xq _ _ _ (by omega)) (fun _ _=>?_)|refine ZC (fun hc=>?_) (fun hc=>?_)|refine ZL (fun hc=>?_) (fun hc=>?_)|refine ZD 4 [] [(0,0),(1,0),(2,0),(3,0),(4,0),(5,0)] [] ?_|refine ZE (fun hc=>?_) (fun hc=>?_))
 rename_i q _
 refine k_wtr' (bs:=bs) (o:=o) (cap:=cap) (b:=b) ?_
 exact ZS q rfl trivial
end
def lastN (bs:List UInt8) (most:Nat):Nat:=((bs.take most).takeWhile fun b=>decide (128≤b.toNat)).length
def dval:List UInt8→Nat
 | []=>0
 | b::l=>b.toNat % 128+128 * dval l
def pnat (bs:List UInt8) (most:Nat):Nat×Nat×Int:=
 let m:=lastN bs most
 if m=most then (0,0,3) else match bs[m]? with
  | none=>(0,0,28)
  | some b=>if 0<m∧b.toNat=0 then (0,0,3) else if m=9∧1<b.toNat then (0,0,3) else (dval (bs.take (m+1)) % 18446744073709551616,m+1,0)
theorem lastN_le (bs:List UInt8) (most:Nat):lastN bs most≤bs.length∧lastN bs most≤most:=by
 have h:=(List.takeWhile_sublist (p:=fun b:UInt8=>decide (128≤b.toNat)) (l:=bs.take most)).length_le
 rw [List.length_take] at h
 unfold lastN
 omega
theorem Xr:∀{bs:List UInt8} {most j:Nat},j≤bs.length→j≤most→(∀i<j,∃b,bs[i]? = some b∧128≤b.toNat)→(j=bs.length∨j=most∨∃b,bs[j]? = some b∧b.toNat<128)→lastN bs most=j
 | [],most,j,h1,_,_,_=>by
  have:j=0:=by simpa using h1
  subst this;simp [lastN]
 | b::bs,0,j,_,h2,_,_=>by
  have:j=0:=by omega
  subst this;simp [lastN]
 | b::bs,most+1,0,_,_,_,h4=>by
  rcases h4 with h|h|⟨c,hc,hl⟩
  ·simp at h
  ·omega
  ·simp at hc;subst hc
   have:¬(128≤b.toNat):=by omega
   simp [lastN,this]
 | b::bs,most+1,j+1,h1,h2,h3,h4=>by
  obtain ⟨c,hc,hb⟩:=h3 0 (by omega)
  simp at hc;subst hc
  have ih:=Xr (bs:=bs) (most:=most) (j:=j) (by simpa using h1) (by omega) (fun i hi=>by simpa using h3 (i+1) (by omega)) (by
   rcases h4 with h|h|h
   ·left;simpa using h
   ·right;left;omega
   ·right;right;simpa using h)
  unfold lastN at ih ⊢
  simp [hb,ih]
theorem wrapi {z:Int} (h1 : -9223372036854775808≤z) (h2:z<9223372036854775808):IntKind.i64.wrap z=z:=by
 simp [IntKind.wrap,IntKind.bits,IntKind.signed];omega
theorem and_127:∀x:Fin 256,x.val &&& 127=x.val % 128:=by decide +kernel
theorem step7 (u x:Nat) (hx:x<256):IntKind.u64.wrap ((BitVec.ofInt IntKind.u64.bits (IntKind.u64.wrap ((u:Int) * 2 ^ min (Int.toNat 7) IntKind.u64.bits)) ||| BitVec.ofInt IntKind.u64.bits (IntKind.u64.wrap (IntKind.u8.wrap ((BitVec.ofInt IntKind.u8.bits (x:Int) &&& BitVec.ofInt IntKind.u8.bits 127).toNat:Int)))).toNat:Int)
  = (((x % 128+128 * u) % 18446744073709551616:Nat):Int):=by
 have h1:(BitVec.ofInt IntKind.u8.bits (x:Int) &&& BitVec.ofInt IntKind.u8.bits 127).toNat=x % 128:=by
  show (BitVec.ofInt 8 (x:Int) &&& BitVec.ofInt 8 127).toNat=_
  rw [BitVec.toNat_and,BitVec.ofInt_natCast,BitVec.toNat_ofNat,Nat.mod_eq_of_lt (show x<2 ^ 8 by omega)]
  exact and_127 ⟨x,hx⟩
 have h2:IntKind.u64.wrap (IntKind.u8.wrap ((x % 128:Nat):Int))=((x % 128:Nat):Int):=by
  simp [IntKind.wrap,IntKind.bits,IntKind.signed];omega
 have h3:IntKind.u64.wrap ((u:Int) * 2 ^ min (Int.toNat 7) IntKind.u64.bits)=((128 * (u % 144115188075855872):Nat):Int):=by
  have:(2:Int) ^ min (Int.toNat 7) IntKind.u64.bits=128:=by decide
  rw [this]
  simp [IntKind.wrap,IntKind.bits,IntKind.signed];omega
 rw [h1,h2,h3]
 have h4:(BitVec.ofInt IntKind.u64.bits ((128 * (u % 144115188075855872):Nat):Int) ||| BitVec.ofInt IntKind.u64.bits ((x % 128:Nat):Int)).toNat=128 * (u % 144115188075855872)+x % 128:=by
  show (BitVec.ofInt 64 ((128 * (u % 144115188075855872):Nat):Int) ||| BitVec.ofInt 64 ((x % 128:Nat):Int)).toNat=_
  rw [BitVec.toNat_or,BitVec.ofInt_natCast,BitVec.ofInt_natCast,BitVec.toNat_ofNat,BitVec.toNat_ofNat,Nat.mod_eq_of_lt (show 128 * (u % 144115188075855872)<2 ^ 64 by omega),Nat.mod_eq_of_lt (show x % 128<2 ^ 64 by omega)]
  exact (Nat.two_pow_add_eq_or_of_lt (i:=7) (show x % 128<2 ^ 7 by omega) _).symm
 rw [h4]
 simp [IntKind.wrap,IntKind.bits,IntKind.signed];omega
structure DX (bs:List UInt8) (m:Nat) where
 c:Nat
 u:Nat
 z:Int
 hc:c≤m+1
 hz:z=(c:Int) - 1
 hu:u=dval ((bs.take (m+1)).drop c) % 18446744073709551616
theorem Xi (o:Option Addr) (cap:Nat) (bs:List UInt8) (most:Nat) (hlen:bs.length≤1099511627776) :
  Enters 206∧Spec prog 206 #[.slice o bs.length cap,.int .i64 (most:Int)] [Sl 5 bf o cap bs] []
   (RetV (.tuple #[.int .u64 ((pnat bs most).1:Int),.int .i64 ((pnat bs most).2.1:Int),.int .i64 (pnat bs most).2.2])):=by
 refine Zb [_,_] func206 ntmps206 fun G w hp=>?_
 repeat' (first|refine ZH ?_|refine ZG ?_|refine ZK ?_|refine ZI ?_|refine ZP ?_|refine ZJ ?_|refine ZM ?_|refine ZN (fun b=>?_)|refine ZO (fun b=>?_)|refine ZA ?_|refine ZB ?_|refine ZR ?_|(refine ZC (fun hc=>?_) (fun hc=>?_)<;>(try simp at hc))|(refine ZE (fun hc=>?_) (fun hc=>?_)<;>(try simp at hc)))
 refine Yz (X:={j:Nat // j≤bs.length∧j≤most∧∀i<j,∃b,bs[i]? = some b∧128≤b.toNat}) (Y:={j:Nat // lastN bs most=j}) (fun j=>[(0,.slice o bs.length cap),(1,.int .i64 (most:Int)),(7,.int .i64 (j.1:Int))]) (fun _=>[Sl 5 bf o cap bs]) (fun q=>[]) (fun j=>bs.length - j.1)
  (fun j=>[(0,.slice o bs.length cap),(1,.int .i64 (most:Int)),(7,.int .i64 (j.1:Int))]) (fun _=>[Sl 5 bf o cap bs]) (fun q=>[]) ⟨0,by omega,by omega,by omega⟩ ⟨rfl,rfl,rfl,trivial⟩ ?_ ?_
 ·rintro ⟨m,hm⟩
  obtain ⟨hm1,hm2⟩:=lastN_le bs most
  generalize hpn:pnat bs most=p
  unfold pnat at hpn
  rw [hm] at hm1 hm2 hpn
  dsimp only at hpn ⊢
  repeat' (first|refine ZH ?_|refine ZG ?_|refine ZK ?_|refine ZI ?_|refine ZP ?_|refine ZJ ?_|refine ZM ?_|refine ZN (fun b=>?_)|refine ZO (fun b=>?_)|refine ZA ?_|refine ZB ?_|refine ZR ?_|refine l_ix bs m (by omega) (fun b off=>?_)|refine Zm ?_|(refine ZC (fun hc=>?_) (fun hc=>?_)<;>(try simp at hc))|(refine ZE (fun hc=>?_) (fun hc=>?_)<;>(try simp at hc)))
  all_goals try (refine ZS () ?_ trivial;have e1:m=most:=(by omega);rw [if_pos e1] at hpn;rw [←hpn];rfl)
  all_goals have e1:m≠most:=(by omega)
  all_goals rw [if_neg e1] at hpn
  all_goals try (refine ZS () ?_ trivial;have e2:bs[m]? = none:=List.getElem?_eq_none (by omega);rw [e2] at hpn;rw [←hpn];rfl)
  all_goals have e2:bs[m]? = some bs[m]:=List.getElem?_eq_getElem (by omega)
  all_goals rw [e2] at hpn
  all_goals dsimp only at hpn
  all_goals try (refine ZS () ?_ trivial;rw [if_pos (by omega)] at hpn;rw [←hpn];rfl)
  all_goals rw [if_neg (by omega)] at hpn
  all_goals try (refine ZS () ?_ trivial;rw [if_pos (by omega)] at hpn;rw [←hpn];rfl)
  all_goals rw [if_neg (by omega)] at hpn
  all_goals
   refine Z6 (X:=DX bs m) (fun q=>[(0,.slice o bs.length cap),(7,.int .i64 (m:Int)),(8,.int .u64 (q.u:Int)),(9,.int .i64 q.z)]) (fun _=>[Sl 5 bf o cap bs]) (fun q=>[]) (fun q=>q.c) ⟨m+1,0,m,by omega,by omega,by simp [dval]⟩ ⟨rfl,rfl,rfl,rfl,trivial⟩ ?_
   rintro ⟨c,u,z,hc1,hc2,hc3⟩
   dsimp only
   repeat' (first|refine ZH ?_|refine ZG ?_|refine ZK ?_|refine ZI ?_|refine ZP ?_|refine ZJ ?_|refine ZM ?_|refine ZN (fun b=>?_)|refine ZO (fun b=>?_)|refine ZA ?_|refine ZB ?_|refine ZR ?_|refine l_ix bs (c - 1) (by omega) (fun b off=>?_)|refine Zm ?_|(refine ZC (fun hc=>?_) (fun hc=>?_)<;>(try simp at hc))|(refine ZE (fun hc=>?_) (fun hc=>?_)<;>(try simp at hc)))
   ·have hlt:c - 1<bs.length:=by omega
    rw [step7 u _ (UInt8.toNat_lt _),wrapi (z:=z - 1) (by omega) (by omega)]
    refine Zc ⟨c - 1,_,_,by omega,?_,?_⟩ (by show c - 1<c;omega) ⟨rfl,rfl,rfl,rfl,trivial⟩
    ·omega
    ·have hd:(bs.take (m+1)).drop (c - 1)=bs[c - 1]::(bs.take (m+1)).drop c:=by
      rw [List.drop_eq_getElem_cons (by simp;omega)]
      simp;congr 1;omega
     rw [hd,dval,hc3]
     omega
   ·refine ZS () ?_ trivial
    have hc0:c=0:=by omega
    subst hc0
    rw [←hpn,hc3]
    have e:IntKind.i64.wrap ((m:Int)+1)=((m+1:Nat):Int):=by simp [IntKind.wrap,IntKind.bits,IntKind.signed];omega
    rw [e]
    rfl
 rintro hx ⟨j,hj1,hj2,hj3⟩
 dsimp only
 repeat' (first|refine ZH ?_|refine ZG ?_|refine ZK ?_|refine ZI ?_|refine ZP ?_|refine ZJ ?_|refine ZM ?_|refine ZN (fun b=>?_)|refine ZO (fun b=>?_)|refine ZA ?_|refine ZB ?_|refine l_ix bs j (by omega) (fun b off=>?_)|refine Zm ?_|(refine ZC (fun hc=>?_) (fun hc=>?_)<;>(try simp at hc))|(refine ZE (fun hc=>?_) (fun hc=>?_)<;>(try simp at hc)))
 ·have hlt:j<bs.length:=by omega
  have e:IntKind.i64.wrap ((j:Int)+1)=((j+1:Nat):Int):=by simp [IntKind.wrap,IntKind.bits,IntKind.signed];omega
  rw [e]
  refine Zc ⟨j+1,by omega,by omega,fun i hi=>?_⟩ (by show bs.length - (j+1)<bs.length - j;omega) ⟨rfl,rfl,rfl,trivial⟩
  by_cases hij:i=j
  ·subst hij;exact ⟨bs[i],List.getElem?_eq_getElem hlt,by omega⟩
  ·exact hj3 i (by omega)
 ·have e:lastN bs most=j:=Xr hj1 hj2 hj3 (by right;right;exact ⟨bs[j],List.getElem?_eq_getElem (by omega),by omega⟩)
  exact YD hx ⟨j,e⟩ ⟨rfl,rfl,rfl,trivial⟩
 ·have e:lastN bs most=j:=Xr hj1 hj2 hj3 (by omega)
  exact YD hx ⟨j,e⟩ ⟨rfl,rfl,rfl,trivial⟩
 ·have e:lastN bs most=j:=Xr hj1 hj2 hj3 (by omega)
  exact YD hx ⟨j,e⟩ ⟨rfl,rfl,rfl,trivial⟩
variable {E':List (Nat×Value)} {F' F1 Fs F0:List Pf} {R' Rs N N' A:List HP} {k':List Fr} {ops:List Oper} {L L':List (Nat×Nat)} {Tl:List Nat} {i d:Nat} {t ty0:TypeId} {x y:Operand} {pos:String} {aft:Array Edge} {gd:Option (Nat×Bool)}
section
variable {l:List Oper}
theorem run_callF {f:FuncId} {fs cs:Array Value} (hf:Enters f) {args:Array Operand} {tys:Array TypeId} {vs:List Value} (hx:ev E x=some (.func (.func f) fs cs)) (hargs:evs (ev E) args.toList some=some vs) {a:Act} {ds:List Deferred} (ha:Agree n ds (look E) a) (w:World) (dst:Option Tmp) :
  (execOp a.eval ⟨dst,.call ⟨.value x,args,tys⟩,ty0,pos,aft,gd⟩).run prog w = .ok (.enter f (fs++vs.toArray++cs)) w:=by
 obtain ⟨us,_,h2,h3⟩:=evs_eq _ _ _ hargs
 obtain rfl:=Option.some.inj h2
 have e1:=h3 a.eval fun x _ u hu=>ha.ev (by rw [ZU];exact hu)
 have e3:args.map a.eval=us.toArray:=by rw [←Array.toList_inj];simpa using e1
 have e0:=ha.ev (x:=x) (by rw [ZU];exact hx)
 simp only [execOp,resolve,e0,Deferred.ofValue,Sem.run_bind,Sem.run_pure,Result.andThen,invoke]
 have e4:(args.map fun x=>a.eval x)=us.toArray:=e3
 rw [e4]
 exact hf _ w
theorem l_callF {f:FuncId} {fs cs:Array Value} {args:Array Operand} {tys:Array TypeId} {vs us:List Value} {post:Post} (spec:Enters f∧Spec prog f us.toArray F1 A post)
  (nx:∀x,post.pure x→Wl n C ops.toArray k Q l ((d,post.val x)::E) (post.F x++F) (post.R x++R')) (hw:wantL ops E ⟨some d,.call ⟨.value x,args,tys⟩,ty0,pos,aft,gd⟩=some true:=by rfl) (hn:Nat.blt d n=true:=by rfl)
  (hx:ev E x=some (.func (.func f) fs cs):=by rfl) (hargs:evs (ev E) args.toList some=some vs:=by rfl) (has:fs.toList++vs++cs.toList=us:=by rfl) (sel:Sels A R R':=by (repeat (first|exact Sels.nil|exact Sel.here|apply Sel.there|apply Sels.cons));first|done|fail)
  (hF:EntF F F1:=by (repeat (first|exact trivial|exact Sel.here|apply Sel.there|apply EntF.cons));first|done|fail) :
  Wl n C ops.toArray k Q (⟨some d,.call ⟨.value x,args,tys⟩,ty0,pos,aft,gd⟩::l) E F R:=
 Z8 (fun t ht=>by cases ht;exact Nat.le_of_ble_eq_true hn) (fun c hc=>by cases hc) hw fun a w ha hsat=>by
  unfold OpRes
  rw [run_callF spec.1 hx hargs ha w]
  have e:fs++vs.toArray++cs=us.toArray:=by rw [←has,←Array.toList_inj];simp
  rw [e]
  refine Yu spec.2 hsat sel hF.all fun x w' hx hs'=>?_
  exact fun a' ha'=>nx x hx a' w' ha' hs'
end
theorem dval_lt:∀l:List UInt8,dval l<128 ^ l.length
 | []=>by simp [dval]
 | b::l=>by
  have:=dval_lt l
  rw [dval,List.length_cons,Nat.pow_succ]
  omega
theorem pnat_le (bs:List UInt8):(pnat bs 9).1<9223372036854775808∧(pnat bs 9).2.1≤bs.length:=by
 have hl:=lastN_le bs 9
 have hd:=dval_lt (bs.take (lastN bs 9+1))
 unfold pnat
 dsimp only
 split
 ·simp
 ·rename_i hne
  split
  ·simp
  ·rename_i b hb
   have hlt:=(List.getElem?_eq_some_iff.1 hb).1
   split
   ·simp
   ·split
    ·simp
    ·refine ⟨?_,by dsimp only;omega⟩
     have h1:(bs.take (lastN bs 9+1)).length≤9:=by simp;omega
     have h2:128 ^ (bs.take (lastN bs 9+1)).length≤128 ^ 9:=Nat.pow_le_pow_right (by omega) h1
     have h3:(128:Nat) ^ 9=9223372036854775808:=by decide
     have:=Nat.mod_le (dval (bs.take (lastN bs 9+1))) 18446744073709551616
     dsimp only;omega
theorem parse_ok (o:Option Addr) (cap:Nat) (bs:List UInt8) (hlen:bs.length≤1099511627776) :
  Enters 164∧Spec prog 164 #[.slice o bs.length cap] [Sl 5 bf o cap bs] []
   (RetV (.tuple #[.int .i64 ((pnat bs 9).1:Int),.int .i64 ((pnat bs 9).2.1:Int),.int .i64 (pnat bs 9).2.2])):=by
 have h1:=pnat_le bs
 refine Zb [_] func164 ntmps164 fun G w hp=>?_
 repeat' (first|refine ZH ?_|refine ZG ?_|refine ZK ?_|refine ZI ?_|refine ZP ?_|refine ZJ ?_|refine ZM ?_|refine ZN (fun b=>?_)|refine ZO (fun b=>?_)|refine ZA ?_|refine ZB ?_|refine ZR ?_|refine ZF (Xi _ _ _ 9 hlen) (fun _ _=>?_)|refine l_call0 (Xi _ _ _ 9 hlen) (fun _ _=>?_)|(refine ZC (fun hc=>?_) (fun hc=>?_)<;>(try simp at hc))|(refine ZE (fun hc=>?_) (fun hc=>?_)<;>(try simp at hc)))
 rw [wrapi (z:=((pnat bs 9).1:Int)) (by omega) (by omega)]
 exact ZS () rfl trivial
def pnum (bs:List UInt8) (most:Int):Int×Nat×Int:=
 ((pnat bs 9).1,(pnat bs 9).2.1,if (pnat bs 9).2.2=0∧most<(pnat bs 9).1 then 2 else (pnat bs 9).2.2)
theorem numberF_ok (o:Option Addr) (cap:Nat) (bs:List UInt8) (b:Nat) (most:Int) (hlen:bs.length≤1099511627776) :
  Enters 163∧Spec prog 163 #[.slice o bs.length cap,.pointer (some ⟨b,0,none⟩)] [Sl 5 bf o cap bs] [Pt b (.cells #[.int .i64 most] 3)]
   ⟨Unit,fun _=>.tuple #[.int .i64 (pnum bs most).1,.int .i64 ((pnum bs most).2.1:Int),.int .i64 (pnum bs most).2.2],fun _=>True,fun _=>[],fun _=>[Pt b (.cells #[.int .i64 most] 3)]⟩:=by
 refine Zb [_,_] func163 ntmps163 fun G w hp=>?_
 repeat' (first|refine ZH ?_|refine ZG ?_|refine ZK ?_|refine ZI ?_|refine ZP ?_|refine ZJ ?_|refine ZM ?_|refine ZN (fun b=>?_)|refine ZO (fun b=>?_)|refine ZA ?_|refine ZB ?_|refine ZR ?_|refine ZF (parse_ok _ _ _ hlen) (fun _ _=>?_)|refine l_call0 (parse_ok _ _ _ hlen) (fun _ _=>?_)|(refine ZC (fun hc=>?_) (fun hc=>?_)<;>(try simp at hc))|(refine ZE (fun hc=>?_) (fun hc=>?_)<;>(try simp at hc)))
 all_goals (refine ZS () ?_ trivial;simp_all [pnum,resV]<;>omega)
def ptext (bs:List UInt8) (most:Int):ByteArray×Nat×Int:=
 if (pnat bs 9).2.2≠0 then (⟨#[]⟩,0,(pnat bs 9).2.2)
 else if most<(pnat bs 9).1∨16777216<(pnat bs 9).1 then (⟨#[]⟩,0,5)
 else if bs.length<(pnat bs 9).2.1+(pnat bs 9).1 then (⟨#[]⟩,0,28)
 else (⟨((bs.take ((pnat bs 9).2.1+(pnat bs 9).1)).drop (pnat bs 9).2.1).toArray⟩,(pnat bs 9).2.1+(pnat bs 9).1,0)
theorem textF_ok (o:Option Addr) (cap:Nat) (bs:List UInt8) (b:Nat) (most:Int) (hlen:bs.length≤1099511627776) :
  Enters 166∧Spec prog 166 #[.slice o bs.length cap,.pointer (some ⟨b,0,none⟩)] [Sl 5 bf o cap bs] [Pt b (.cells #[.int .i64 most] 3)]
   ⟨Unit,fun _=>.tuple #[.string (ptext bs most).1,.int .i64 ((ptext bs most).2.1:Int),.int .i64 (ptext bs most).2.2],fun _=>True,fun _=>[],fun _=>[Pt b (.cells #[.int .i64 most] 3)]⟩:=by
 obtain ⟨h1,h2⟩:=pnat_le bs
 refine Zb [_,_] func166 ntmps166 fun G w hp=>?_
 generalize hp:ptext bs most=p
 unfold ptext at hp
 generalize hq:pnat bs 9=q at *
 have hpar:=parse_ok o cap bs hlen
 rw [hq] at hpar
 obtain ⟨u,sz,e⟩:=q
 dsimp only at *
 repeat' (first|refine ZH ?_|refine ZG ?_|refine ZK ?_|refine ZI ?_|refine ZP ?_|refine ZJ ?_|refine ZM ?_|refine ZN (fun b=>?_)|refine ZO (fun b=>?_)|refine ZA ?_|refine ZB ?_|refine ZR ?_|refine ZF (hpar) (fun _ _=>?_)|refine l_call0 (hpar) (fun _ _=>?_)|rw [wrapi (z:=(bs.length:Int) - (sz:Int)) (by omega) (by omega)]|rw [wrapi (z:=(sz:Int)+(u:Int)) (by omega) (by omega)]|refine l_slLH (es:=bs) sz (sz+u) (by omega) (by omega) (fun o'=>?_)|refine l_b2s ?_|(refine ZC (fun hc=>?_) (fun hc=>?_)<;>(try simp at hc))|(refine ZE (fun hc=>?_) (fun hc=>?_)<;>(try simp at hc)))
 all_goals refine ZS () ?_ trivial
 all_goals rw [←hp]
 all_goals repeat (first|rw [if_pos (by omega)]|rw [if_neg (by omega)])
 all_goals simp [resV]
structure RS where
 rest:List UInt8
 pos:Nat
 err:Int
def Rdr (b:Nat) (o:Option Addr) (cap:Nat) (s:RS):HP:=Pt b (.cells #[.slice o s.rest.length cap,.int .i64 (s.pos:Int),.int .i64 s.err] 282)
def rstep {α:Type} (zero:α) (s:RS) (p:α×Nat×Int):α×RS:=
 if s.err≠0 then (zero,s) else if p.2.2≠0 then (zero,⟨s.rest,s.pos,p.2.2⟩) else (p.1,⟨s.rest.drop p.2.1,s.pos+p.2.1,0⟩)
theorem readInt_ok (b g:Nat) (o:Option Addr) (cap:Nat) (s:RS) (c:Value) (bx:Nat) (obj:Obj) (p:Int×Nat×Int) (hb:s.pos+s.rest.length≤1099511627776) (hpl:p.2.1≤s.rest.length)
  (hg:Enters g∧Spec prog g #[.slice o s.rest.length cap,c] [Sl 5 bf o cap s.rest] [Pt bx obj] ⟨Unit,fun _=>.tuple #[.int .i64 p.1,.int .i64 (p.2.1:Int),.int .i64 p.2.2],fun _=>True,fun _=>[],fun _=>[Pt bx obj]⟩) :
  Enters 162∧Spec prog 162 #[.pointer (some ⟨b,0,none⟩),.func (.func g) #[] #[c]] [Sl 5 bf o cap s.rest] [Rdr b o cap s,Pt bx obj]
   ⟨Option Addr×Nat,fun _=>.int .i64 (rstep 0 s p).1,fun _=>True,fun q=>[Sl 5 bf q.1 q.2 (rstep 0 s p).2.rest],fun q=>[Rdr b q.1 q.2 (rstep 0 s p).2]⟩:=by
 obtain ⟨bs,at0,er⟩:=s
 obtain ⟨v,sz,e⟩:=p
 generalize hr:rstep 0 (RS.mk bs at0 er) (v,sz,e)=r
 unfold rstep at hr
 unfold Rdr
 dsimp only at *
 refine Zb [_,_] func162 ntmps162 fun G w hp=>?_
 repeat' (first|refine ZH ?_|refine ZG ?_|refine ZK ?_|refine ZI ?_|refine ZP ?_|refine ZJ ?_|refine ZM ?_|refine ZN (fun b=>?_)|refine ZO (fun b=>?_)|refine ZA ?_|refine ZB ?_|refine ZR ?_|refine l_callF hg (fun _ _=>?_)|refine l_slL (es:=bs) sz hpl (fun o'=>?_)|rw [wrapi (z:=(at0:Int)+(sz:Int)) (by omega) (by omega),←Int.natCast_add]|(refine ZC (fun hc=>?_) (fun hc=>?_)<;>(try simp at hc))|(refine ZE (fun hc=>?_) (fun hc=>?_)<;>(try simp at hc)))
 ·rw [if_pos hc] at hr
  subst hr
  exact ZS (o,cap) rfl trivial
 ·rw [if_neg (by omega),if_pos hc] at hr
  subst hr
  exact ZS (o,cap) rfl trivial
 ·rename_i h0 _ _
  subst h0
  rw [if_neg (by omega),if_neg (by omega)] at hr
  subst hr
  exact ZS (o',cap - sz) rfl trivial
theorem readStr_ok (b g:Nat) (o:Option Addr) (cap:Nat) (s:RS) (c:Value) (bx:Nat) (obj:Obj) (p:ByteArray×Nat×Int) (hb:s.pos+s.rest.length≤1099511627776) (hpl:p.2.1≤s.rest.length)
  (hg:Enters g∧Spec prog g #[.slice o s.rest.length cap,c] [Sl 5 bf o cap s.rest] [Pt bx obj] ⟨Unit,fun _=>.tuple #[.string p.1,.int .i64 (p.2.1:Int),.int .i64 p.2.2],fun _=>True,fun _=>[],fun _=>[Pt bx obj]⟩) :
  Enters 165∧Spec prog 165 #[.pointer (some ⟨b,0,none⟩),.func (.func g) #[] #[c]] [Sl 5 bf o cap s.rest] [Rdr b o cap s,Pt bx obj]
   ⟨Option Addr×Nat,fun _=>.string (rstep ⟨#[]⟩ s p).1,fun _=>True,fun q=>[Sl 5 bf q.1 q.2 (rstep ⟨#[]⟩ s p).2.rest],fun q=>[Rdr b q.1 q.2 (rstep ⟨#[]⟩ s p).2]⟩:=by
 obtain ⟨bs,at0,er⟩:=s
 obtain ⟨v,sz,e⟩:=p
 generalize hr:rstep ⟨#[]⟩ (RS.mk bs at0 er) (v,sz,e)=r
 unfold rstep at hr
 unfold Rdr
 dsimp only at *
 refine Zb [_,_] func165 ntmps165 fun G w hp=>?_
 repeat' (first|refine ZH ?_|refine ZG ?_|refine ZK ?_|refine ZI ?_|refine ZP ?_|refine ZJ ?_|refine ZM ?_|refine ZN (fun b=>?_)|refine ZO (fun b=>?_)|refine ZA ?_|refine ZB ?_|refine ZR ?_|refine l_callF hg (fun _ _=>?_)|refine l_slL (es:=bs) sz hpl (fun o'=>?_)|rw [wrapi (z:=(at0:Int)+(sz:Int)) (by omega) (by omega),←Int.natCast_add]|(refine ZC (fun hc=>?_) (fun hc=>?_)<;>(try simp at hc))|(refine ZE (fun hc=>?_) (fun hc=>?_)<;>(try simp at hc)))
 ·rw [if_pos hc] at hr
  subst hr
  exact ZS (o,cap) rfl trivial
 ·rw [if_neg (by omega),if_pos hc] at hr
  subst hr
  exact ZS (o,cap) rfl trivial
 ·rename_i h0 _ _
  subst h0
  rw [if_neg (by omega),if_neg (by omega)] at hr
  subst hr
  exact ZS (o',cap - sz) rfl trivial
def rnum (s:RS) (most:Int):Int×RS:=rstep 0 s (pnum s.rest most)
def rtext (s:RS) (most:Int):ByteArray×RS:=rstep ⟨#[]⟩ s (ptext s.rest most)
theorem pnum_le (bs:List UInt8) (most:Int):(pnum bs most).2.1≤bs.length:=(pnat_le bs).2
theorem WN (bs:List UInt8) (most:Int):(ptext bs most).2.1≤bs.length:=by
 have:=(pnat_le bs).2
 unfold ptext
 split
 ·simp
 ·split
  ·simp
  ·split
   ·simp
   ·dsimp only;omega
theorem rstep_le {α:Type} (z:α) (s:RS) (p:α×Nat×Int) (hp:p.2.1≤s.rest.length):(rstep z s p).2.pos+(rstep z s p).2.rest.length≤s.pos+s.rest.length:=by
 unfold rstep
 split
 ·simp
 ·split
  ·simp
  ·simp;omega
theorem WT (b:Nat) (o:Option Addr) (cap:Nat) (s:RS) (most:Int) (hb:s.pos+s.rest.length≤1099511627776) :
  Enters 118∧Spec prog 118 #[.pointer (some ⟨b,0,none⟩),.int .i64 most] [Sl 5 bf o cap s.rest] [Rdr b o cap s]
   ⟨Option Addr×Nat,fun _=>.int .i64 (rnum s most).1,fun _=>True,fun q=>[Sl 5 bf q.1 q.2 (rnum s most).2.rest],fun q=>[Rdr b q.1 q.2 (rnum s most).2]⟩:=by
 refine Zb [_,_] func118 ntmps118 fun G w hp=>?_
 repeat' (first|refine ZH ?_|refine ZG ?_|refine ZK ?_|refine ZI ?_|refine ZP ?_|refine ZJ ?_|refine ZM ?_|refine ZN (fun b=>?_)|refine ZO (fun b=>?_)|refine ZA ?_|refine ZB ?_|refine ZR ?_|refine ZF (readInt_ok _ _ _ _ s _ _ _ (pnum s.rest most) hb (pnum_le _ _) (numberF_ok _ _ _ _ most (by omega))) (fun _ _=>?_)|refine l_call0 (readInt_ok _ _ _ _ s _ _ _ (pnum s.rest most) hb (pnum_le _ _) (numberF_ok _ _ _ _ most (by omega))) (fun _ _=>?_)|(refine ZC (fun hc=>?_) (fun hc=>?_)<;>(try simp at hc))|(refine ZE (fun hc=>?_) (fun hc=>?_)<;>(try simp at hc)))
 rename_i q _
 exact ZS q rfl trivial
theorem rdrText_ok (b:Nat) (o:Option Addr) (cap:Nat) (s:RS) (most:Int) (hb:s.pos+s.rest.length≤1099511627776) :
  Enters 119∧Spec prog 119 #[.pointer (some ⟨b,0,none⟩),.int .i64 most] [Sl 5 bf o cap s.rest] [Rdr b o cap s]
   ⟨Option Addr×Nat,fun _=>.string (rtext s most).1,fun _=>True,fun q=>[Sl 5 bf q.1 q.2 (rtext s most).2.rest],fun q=>[Rdr b q.1 q.2 (rtext s most).2]⟩:=by
 refine Zb [_,_] func119 ntmps119 fun G w hp=>?_
 repeat' (first|refine ZH ?_|refine ZG ?_|refine ZK ?_|refine ZI ?_|refine ZP ?_|refine ZJ ?_|refine ZM ?_|refine ZN (fun b=>?_)|refine ZO (fun b=>?_)|refine ZA ?_|refine ZB ?_|refine ZR ?_|refine ZF (readStr_ok _ _ _ _ s _ _ _ (ptext s.rest most) hb (WN _ _) (textF_ok _ _ _ _ most (by omega))) (fun _ _=>?_)|refine l_call0 (readStr_ok _ _ _ _ s _ _ _ (ptext s.rest most) hb (WN _ _) (textF_ok _ _ _ _ most (by omega))) (fun _ _=>?_)|(refine ZC (fun hc=>?_) (fun hc=>?_)<;>(try simp at hc))|(refine ZE (fun hc=>?_) (fun hc=>?_)<;>(try simp at hc)))
 rename_i q _
 exact ZS q rfl trivial
theorem Wn (o:Option Addr) (cap:Nat) (bs:List UInt8) (hlen:bs.length≤1099511627776) :
  Enters 117∧Spec prog 117 #[.slice o bs.length cap] [] [Row 5 1 o bs.length cap (byt bs)]
   ⟨Nat×Option Addr×Nat,fun q=>.pointer (some ⟨q.1,0,none⟩),fun _=>True,fun q=>[Sl 5 bf q.2.1 q.2.2 bs],fun q=>[Rdr q.1 q.2.1 q.2.2 ⟨bs,0,0⟩,Row 5 1 o bs.length cap (byt bs)]⟩:=by
 refine Zb [_] func117 ntmps117 fun G w hp=>?_
 repeat' (first|refine ZH ?_|refine ZG ?_|refine ZK ?_|refine ZI ?_|refine ZP ?_|refine ZJ ?_|refine ZM ?_|refine ZN (fun b=>?_)|refine ZO (fun b=>?_)|refine ZA ?_|refine ZB ?_|refine ZR ?_|refine ZF (Xq _ _ _ hlen) (fun _ _=>?_)|refine l_call0 (Xq _ _ _ hlen) (fun _ _=>?_)|(refine ZC (fun hc=>?_) (fun hc=>?_)<;>(try simp at hc))|(refine ZE (fun hc=>?_) (fun hc=>?_)<;>(try simp at hc)))
 rename_i q _
 refine Xt (sz:=1) (f:=bf) (o:=q.1) (cap:=q.2) bs ?_ (byt_flat bs) rfl
 exact ZS (b,q.1,q.2) rfl trivial
theorem rdrClose_ok (b:Nat) (o:Option Addr) (cap:Nat) (s:RS) :
  Enters 120∧Spec prog 120 #[.pointer (some ⟨b,0,none⟩)] [] [Rdr b o cap s]
   ⟨Unit,fun _=>.int .i64 (if s.err≠0 then s.err else if s.rest=[] then 0 else 5),fun _=>True,fun _=>[],fun _=>[Rdr b o cap s]⟩:=by
 refine Zb [_] func120 ntmps120 fun G w hp=>?_
 unfold Rdr
 repeat' (first|refine ZH ?_|refine ZG ?_|refine ZK ?_|refine ZI ?_|refine ZP ?_|refine ZJ ?_|refine ZM ?_|refine ZN (fun b=>?_)|refine ZO (fun b=>?_)|refine ZA ?_|refine ZB ?_|refine ZR ?_|(refine ZC (fun hc=>?_) (fun hc=>?_)<;>(try simp at hc))|(refine ZE (fun hc=>?_) (fun hc=>?_)<;>(try simp at hc)))
 all_goals (refine ZS () ?_ trivial;simp_all [resV,List.length_pos_iff])
section
variable {l:List Oper}
theorem l_sx {s:ByteArray} {z:Int} {rs:TRow} (i:Nat) (hlt:i<s.data.toList.length)
  (nx:Wl n C ops.toArray k Q l ((d,.int .u8 (s.data.toList[i]).toNat)::E) F R)
  (hw:wantL ops E ⟨some d,.index t x y,ty0,pos,aft,gd⟩=some true:=by rfl) (hn:Nat.blt d n=true:=by rfl) (hx:ev E x=some (.string s):=by rfl) (hy:ev E y=some (.int .i64 z):=by rfl)
  (hts:lookT tab t=some rs:=by rfl) (hrs:rs.k = .str:=by rfl) (hz:z=(i:Int):=by first|rfl|omega):Wl n C ops.toArray k Q (⟨some d,.index t x y,ty0,pos,aft,gd⟩::l) E F R:=
 l_six i _ (List.getElem?_eq_getElem hlt) nx hw hn hx hy hts hrs hz
end
theorem WV {p:UInt8→Bool}:∀(l:List UInt8) (i:Nat),i≤(l.takeWhile p).length→(i<(l.takeWhile p).length↔∃c,l[i]? = some c∧p c=true)
 | [],i,h=>by simp
 | a::l,0,_=>by
  rw [List.takeWhile_cons]
  split
  ·rename_i h;simp [h]
  ·rename_i h;simp [h]
 | a::l,i+1,h=>by
  rw [List.takeWhile_cons] at h ⊢
  split at h
  ·rename_i hp
   simp only [hp,if_true,List.length_cons,List.getElem?_cons_succ] at h ⊢
   have:=WV (p:=p) l i (by omega)
   rw [←this];omega
  ·simp at h
theorem digs_lt {l:List UInt8} {i:Nat} (h:i≤(digs l).length):i<(digs l).length↔i<7∧∃c,l[i]? = some c∧isDig c=true:=by
 have h1:=WV (p:=isDig) (l.take 7) i h
 unfold digs
 rw [h1,List.getElem?_take]
 by_cases h7:i<7<;>simp [h7]
theorem digs_get {l:List UInt8} {i:Nat} (h:i<(digs l).length):(digs l)[i]? = l[i]?:=by
 rw [digs_pre l,List.getElem?_take,if_pos h]
theorem dnum_lt:∀(l:List UInt8) (n:Nat),(∀c ∈ l,isDig c=true)→l.foldl (fun n c=>n * 10+(c.toNat - 48)) n<(n+1) * 10 ^ l.length
 | [],n,_=>by simp
 | c::l,n,h=>by
  have h1:=dnum_lt l (n * 10+(c.toNat - 48)) fun d hd=>h d (List.mem_cons_of_mem _ hd)
  have h2:=dig_lt (h c (by simp))
  refine Nat.lt_of_lt_of_le h1 ?_
  rw [List.length_cons,Nat.pow_succ]
  have:(n * 10+(c.toNat - 48)+1)≤(n+1) * 10:=by omega
  calc (n * 10+(c.toNat - 48)+1) * 10 ^ l.length≤((n+1) * 10) * 10 ^ l.length:=Nat.mul_le_mul_right _ this
   _=(n+1) * (10 ^ l.length * 10):=by rw [Nat.mul_assoc,Nat.mul_comm 10]
theorem dnum_take_lt (l:List UInt8) (i:Nat):dnum ((digs l).take i)<10000000:=by
 have h1:=dnum_lt ((digs l).take i) 0 fun c hc=>digs_all l c (List.mem_of_mem_take hc)
 have h2:=(Xp l).1
 have h3:((digs l).take i).length≤7:=by simp;omega
 have h4:10 ^ ((digs l).take i).length≤10 ^ 7:=Nat.pow_le_pow_right (by omega) h3
 unfold dnum
 omega
theorem dnum_succ {l:List UInt8} {i:Nat} {c:UInt8} (h:(digs l)[i]? = some c):dnum ((digs l).take (i+1))=dnum ((digs l).take i) * 10+(c.toNat - 48):=by
 rw [List.take_add_one,h]
 exact Ww _ _
def Prt.v (p:Prt):Value:=.agg #[.int .i64 (p.ord:Int),.int .i64 (p.pos:Int),.int .i64 p.e]
def ffirst (l:List UInt8) (pos count:Nat):Prt×Nat:=if ferr l count≠0 then (⟨0,pos,ferr l count⟩,pos) else (⟨dnum (digs l),pos,0⟩,pos+(digs l).length)
theorem wu8 {z:Int} (h:0≤z) (h2:z<256):IntKind.u8.wrap z=z:=by
 simp [IntKind.wrap,IntKind.bits,IntKind.signed];omega
theorem u8eq (c:UInt8):((c.toNat:Int)=48)↔c=48:=by
 constructor
 ·intro h;exact UInt8.toNat_inj.1 (by show c.toNat=48;omega)
 ·intro h;subst h;rfl
theorem first_ok (s:ByteArray) (p count:Nat) (hp:p≤s.size) (hs:s.size≤1099511627776) :
  Enters 221∧Spec prog 221 #[.string s,.int .i64 (p:Int),.int .i64 (count:Int)] [] []
   (RetV (.tuple #[(ffirst (s.data.toList.drop p) p count).1.v,.int .i64 ((ffirst (s.data.toList.drop p) p count).2:Int)])):=by
 have hsz:s.data.toList.length=s.size:=by simp
 generalize hl:s.data.toList.drop p=l
 have hll:l.length=s.size - p:=by rw [←hl];simp
 have hget:∀i,l[i]? = s.data.toList[p+i]?:=fun i=>by rw [←hl,List.getElem?_drop]
 have hd:=Xp l
 refine Zb [_,_,_] func221 ntmps221 fun G w hp=>?_
 repeat' (first|refine ZH ?_|refine ZG ?_|refine ZK ?_|refine ZI ?_|refine ZP ?_|refine ZJ ?_|refine ZM ?_|refine ZN (fun b=>?_)|refine ZO (fun b=>?_)|refine ZA ?_|refine ZB ?_|refine ZR ?_|(refine ZC (fun hc=>?_) (fun hc=>?_)<;>(try simp at hc))|(refine ZE (fun hc=>?_) (fun hc=>?_)<;>(try simp at hc)))
 refine Yz (X:={i:Nat // i≤(digs l).length}) (Y:=Unit) (fun i=>[(0,.string s),(1,.int .i64 (p:Int)),(2,.int .i64 (count:Int)),(6,.pointer (some ⟨b,0,none⟩)),(8,.int .i64 ((p+i.1:Nat):Int)),(9,.int .i64 (dnum ((digs l).take i.1):Int))]) (fun _=>[]) (fun _=>[Pt b (.cells #[.int .i64 0,.int .i64 0,.int .i64 0] 316)]) (fun i=>(digs l).length - i.1)
  (fun _=>[(0,.string s),(1,.int .i64 (p:Int)),(2,.int .i64 (count:Int)),(6,.pointer (some ⟨b,0,none⟩)),(8,.int .i64 ((p+(digs l).length:Nat):Int)),(9,.int .i64 (dnum (digs l):Int))]) (fun _=>[]) (fun _=>[Pt b (.cells #[.int .i64 0,.int .i64 0,.int .i64 0] 316)])
  ⟨0,by omega⟩ ⟨rfl,rfl,rfl,rfl,rfl,rfl,trivial⟩ ?_ ?_
 ·intro _
  generalize hf:ffirst l p count=r
  unfold ffirst at hf
  have h0:∀h:p<s.data.size,l.head? = some s.data[p]:=fun h=>by
   rw [List.head?_eq_getElem?,hget 0,Nat.add_zero];simp
  have hn:l=[]↔p=s.size:=by rw [←List.length_eq_zero_iff];omega
  have hdn:digs l=[]↔(digs l).length=0:=List.length_eq_zero_iff.symm
  have hss:s.data.size=s.size:=rfl
  repeat' (first|refine ZH ?_|refine ZG ?_|refine ZK ?_|refine ZI ?_|refine ZP ?_|refine ZJ ?_|refine ZM ?_|refine ZN (fun b=>?_)|refine ZO (fun b=>?_)|refine ZA ?_|refine ZB ?_|refine ZR ?_|refine l_sx (s:=s) p (by omega) ?_|rw [wrapi (z:=((p+(digs l).length:Nat):Int) - (p:Int)) (by omega) (by omega)]|(refine ZC (fun hc=>?_) (fun hc=>?_)<;>(try simp at hc))|(refine ZE (fun hc=>?_) (fun hc=>?_)<;>(try simp at hc)))
  ·have e:ferr l count=9:=by rw [ferr,if_pos (by omega)]
   rw [e] at hf;subst hf;exact ZS () rfl trivial
  ·have e:ferr l count=4:=by rw [ferr,if_neg (by omega),if_pos (hn.2 (by omega))]
   rw [e] at hf;subst hf;exact ZS () rfl trivial
  ·have e:ferr l count=6:=by rw [ferr,if_neg (by omega),if_neg (fun e=>by have:=hn.1 e;omega),if_pos (hdn.2 (by omega))]
   rw [e] at hf;subst hf;exact ZS () rfl trivial
  ·have e:ferr l count=3:=by
    rw [ferr,if_neg (by omega),if_neg (fun e=>by have:=hn.1 e;omega),if_neg (fun e=>by have:=hdn.1 e;omega),if_pos]
    rw [h0 (by omega)]
    exact congrArg some ((u8eq _).1 hc)
   rw [e] at hf;subst hf;exact ZS () rfl trivial
  ·have e:ferr l count=2:=by
    rw [ferr,if_neg (by omega),if_neg (fun e=>by have:=hn.1 e;omega),if_neg (fun e=>by have:=hdn.1 e;omega),if_neg,if_pos (by omega)]
    rw [h0 (by omega)]
    intro e
    have:=(u8eq _).2 (Option.some.inj e)
    omega
   rw [e] at hf;subst hf;exact ZS () rfl trivial
  ·have e:ferr l count=0:=by
    rw [ferr,if_neg (by omega),if_neg (fun e=>by have:=hn.1 e;omega),if_neg (fun e=>by have:=hdn.1 e;omega),if_neg,if_neg (by omega)]
    rw [h0 (by omega)]
    intro e
    have:=(u8eq _).2 (Option.some.inj e)
    omega
   rw [e] at hf;subst hf;exact ZS () rfl trivial
 rintro hx ⟨i,hi⟩
 dsimp only
 have hlt:=digs_lt hi
 have hdl:=dnum_take_lt l i
 repeat' (first|refine ZH ?_|refine ZG ?_|refine ZK ?_|refine ZI ?_|refine ZP ?_|refine ZJ ?_|refine ZM ?_|refine ZN (fun b=>?_)|refine ZO (fun b=>?_)|refine ZA ?_|refine ZB ?_|refine ZF (isDigit_ok _) (fun _ _=>?_)|refine l_call0 (isDigit_ok _) (fun _ _=>?_)|refine l_sx (s:=s) (p+i) (by omega) ?_|rw [wrapi (z:=((p+i:Nat):Int) - (p:Int)) (by omega) (by omega)]|(refine ZC (fun hc=>?_) (fun hc=>?_)<;>(try simp at hc))|(refine ZE (fun hc=>?_) (fun hc=>?_)<;>(try simp at hc)))
 ·have hpi:p+i<s.data.size:=by have:s.data.size=s.size:=rfl;omega
  have hcc:l[i]? = some s.data[p+i]:=by rw [hget i];simp
  have hic:isDig s.data[p+i]=true:=by simp [isDig];omega
  have hi2:=hlt.2 ⟨by omega,_,hcc,hic⟩
  have hds:=dnum_succ (i:=i) ((digs_get hi2).trans hcc)
  have e1:s.data.toList[p+i]'(by omega)=s.data[p+i]:=by simp
  have e2:IntKind.i64.wrap (IntKind.i64.wrap ((dnum ((digs l).take i):Int) * 10)+IntKind.i64.wrap (IntKind.u8.wrap ((s.data[p+i].toNat:Int) - 48)))=(dnum ((digs l).take (i+1)):Int):=by
   rw [wu8 (by omega) (by omega),wrapi (z:=(dnum ((digs l).take i):Int) * 10) (by omega) (by omega),wrapi (z:=(s.data[p+i].toNat:Int) - 48) (by omega) (by omega),wrapi (by omega) (by omega),hds]
   omega
  rw [e1,e2,wrapi (z:=((p+i:Nat):Int)+1) (by omega) (by omega)]
  refine Zc ⟨i+1,hi2⟩ (by show (digs l).length - (i+1)<(digs l).length - i;omega) ⟨rfl,rfl,rfl,rfl,rfl,rfl,trivial⟩
 all_goals
  have e:i=(digs l).length:=by
   refine Nat.le_antisymm hi (Nat.le_of_not_lt fun h=>?_)
   obtain ⟨h7,c,hc1,hc2⟩:=hlt.1 h
   rw [hget i] at hc1
   have h8:=(List.getElem?_eq_some_iff.1 hc1).1
   simp [isDig] at hc2
   try (
    have h9:s.data[p+i]? = some c:=by simpa using hc1
    rw [Array.getElem?_eq_getElem (by omega)] at h9
    obtain rfl:=Option.some.inj h9)
   omega
  have e2:dnum ((digs l).take i)=dnum (digs l):=by rw [e,List.take_length]
  exact YD hx () ⟨rfl,rfl,rfl,rfl,by rw [←e];rfl,by rw [←e2];rfl,trivial⟩
theorem XU (s:List UInt8) (p c:Nat) (hp:p≤s.length):p≤(ffirst (s.drop p) p c).2∧(ffirst (s.drop p) p c).2≤s.length∧((ffirst (s.drop p) p c).1.e=0→c≠8)∧
  prts (s.drop p) p c=if (ffirst (s.drop p) p c).1.e≠0 then [(ffirst (s.drop p) p c).1] else match s[(ffirst (s.drop p) p c).2]? with
   | none=>[(ffirst (s.drop p) p c).1]
   | some ch=>if ch≠46 then [(ffirst (s.drop p) p c).1,⟨0,(ffirst (s.drop p) p c).2,6⟩] else (ffirst (s.drop p) p c).1::prts (s.drop ((ffirst (s.drop p) p c).2+1)) ((ffirst (s.drop p) p c).2+1) (c+1):=by
 have hd:=Xp (s.drop p)
 have hl:(s.drop p).length=s.length - p:=by simp
 generalize hl':s.drop p=l at *
 unfold ffirst
 by_cases hf:ferr l c=0
 ·rw [if_neg (by simp [hf])]
  refine ⟨by dsimp only;omega,by dsimp only;omega,fun _ h8=>?_,?_⟩
  ·unfold ferr at hf;rw [if_pos h8] at hf;cases hf
  ·conv=>lhs;unfold prts
   rw [if_neg (by simp [hf])]
   dsimp only
   rw [if_neg (by simp)]
   have e1:l.drop (digs l).length=s.drop (p+(digs l).length):=by rw [←hl',List.drop_drop]
   by_cases hlt:p+(digs l).length<s.length
   ·have e2:=List.getElem?_eq_getElem hlt
    have e3:=List.drop_eq_getElem_cons hlt
    rw [e2]
    dsimp only
    split
    ·rename_i h4;rw [e1,e3] at h4;cases h4
    ·rename_i ch rest h4
     rw [e1,e3] at h4
     injection h4 with h5 h6
     rw [h5,h6]
   ·have e2:s[p+(digs l).length]? = none:=List.getElem?_eq_none (by omega)
    rw [e2]
    dsimp only
    split
    ·rfl
    ·rename_i h4
     rw [e1,List.drop_eq_nil_of_le (by omega)] at h4
     cases h4
 ·rw [if_pos hf]
  refine ⟨by dsimp only;omega,by dsimp only;omega,fun h=>absurd h hf,?_⟩
  unfold prts
  rw [if_pos hf]
  simp [hf]
structure PX (s:List UInt8) where
 pre:List Prt
 p:Nat
 c:Nat
 h1:p≤s.length
 h2:c≤8
 h3:lparts s=pre++(if s=[] then [] else prts (s.drop p) p c)
theorem W5 (s:ByteArray) (b:Nat) (hs:s.size≤1099511627776):Iter 220 [.pointer (some ⟨b,0,none⟩)] Prt.v (lparts s.data.toList) [Blk b (.cells #[.string s] 9)] []:=by
 intro v Y I Ix hy
 have hsz:s.data.toList.length=s.size:=by simp
 refine Zb [_,_] func220 ntmps220 fun G w hp=>?_
 repeat' (first|refine ZH ?_|refine ZG ?_|refine ZK ?_|refine ZI ?_|refine ZP ?_|refine ZJ ?_|refine ZM ?_|refine ZN (fun b=>?_)|refine ZO (fun b=>?_)|refine ZA ?_|refine ZB ?_|refine ZR ?_|(refine ZC (fun hc=>?_) (fun hc=>?_)<;>(try simp at hc))|(refine ZE (fun hc=>?_) (fun hc=>?_)<;>(try simp at hc)))
 refine Z6 (X:=PX s.data.toList) (fun q=>[(0,v),(1,.pointer (some ⟨b,0,none⟩)),(3,.int .i64 (q.p:Int)),(4,.int .i64 (q.c:Int))]) (fun _=>[Y,Blk b (.cells #[.string s] 9)]) (fun q=>[I q.pre]) (fun q=>s.size - q.p) ⟨[],0,0,by omega,by omega,by simp [lparts]⟩ ⟨rfl,rfl,rfl,rfl,trivial⟩ ?_
 rintro ⟨pre,p,c,h1,h2,h3⟩
 dsimp only
 obtain ⟨g1,g2,g3,g4⟩:=XU s.data.toList p c h1
 have hf:=first_ok s p c (by omega) hs
 generalize hr:ffirst (s.data.toList.drop p) p c=r at *
 obtain ⟨pt,fe⟩:=r
 dsimp only at *
 have hemp:∀h:(!s.toList == ByteArray.toList ⟨#[]⟩)=false,s.data.toList=[]:=fun h=>by
  simpa [Zt] using h
 have hne:∀h:(!s.toList == ByteArray.toList ⟨#[]⟩)=true,s.data.toList≠[]:=fun h=>by
  simpa [Zt] using h
 repeat' (first|refine ZH ?_|refine ZG ?_|refine ZK ?_|refine ZI ?_|refine ZP ?_|refine ZJ ?_|refine ZM ?_|refine ZN (fun b=>?_)|refine ZO (fun b=>?_)|refine ZA ?_|refine ZB ?_|refine ZF (hf) (fun _ _=>?_)|refine l_call0 (hf) (fun _ _=>?_)|refine ZC (fun hc=>?_) (fun hc=>?_)|refine ZE (fun hc=>?_) (fun hc=>?_))
 ·have hne:=hne hc
  rw [if_neg hne,g4] at h3
  have hpre:pre++[pt] <+: lparts s.data.toList:=by
   rw [h3]
   refine (List.prefix_append_right_inj pre).2 ?_
   split
   ·exact List.prefix_refl _
   ·split
    ·exact List.prefix_refl _
    ·split
     ·exact ⟨_,rfl⟩
     ·exact ⟨_,rfl⟩
  refine Yg (hy pre pt hpre) (fun bb _=>?_)
  cases bb with
  | false=>
   repeat' (first|refine ZH ?_|refine ZG ?_|refine ZK ?_|refine ZI ?_|refine ZP ?_|refine ZJ ?_|refine ZM ?_|refine ZN (fun b=>?_)|refine ZO (fun b=>?_)|refine ZA ?_|refine ZB ?_|refine ZC (fun hc=>?_) (fun hc=>?_)|refine ZE (fun hc=>?_) (fun hc=>?_))
   exact YR (YX (Z4 (some (pre++[pt])) rfl (fun q hq=>by cases hq;exact hpre)))
  | true=>
   repeat' (first|refine ZH ?_|refine ZG ?_|refine ZK ?_|refine ZI ?_|refine ZP ?_|refine ZJ ?_|refine ZM ?_|refine ZN (fun b=>?_)|refine ZO (fun b=>?_)|refine ZA ?_|refine ZB ?_|refine ZC (fun hc=>?_) (fun hc=>?_))
   ·have he:pt.e≠0:=by simpa using hc
    rw [if_pos he] at h3
    rw [h3]
    exact YR (YX (Z4 none rfl (fun q hq=>by cases hq)))
   ·have he:pt.e=0:=by simpa using hc
    rw [if_neg (by simp [he])] at h3
    have g3:=g3 he
    refine ZE (fun hc=>?_) (fun hc=>?_)
    ·have hfe:fe=s.size:=by simp at hc;omega
     have e2:s.data.toList[fe]? = none:=List.getElem?_eq_none (by omega)
     rw [e2] at h3
     dsimp only at h3
     rw [h3]
     exact YR (YX (Z4 none rfl (fun q hq=>by cases hq)))
    ·have hfe:fe<s.data.toList.length:=by simp at hc;omega
     have e2:=List.getElem?_eq_getElem hfe
     rw [e2] at h3
     dsimp only at h3
     repeat' (first|refine ZH ?_|refine ZG ?_|refine ZK ?_|refine ZI ?_|refine ZP ?_|refine ZJ ?_|refine ZM ?_|refine ZN (fun b=>?_)|refine ZO (fun b=>?_)|refine ZA ?_|refine ZB ?_|refine l_sx (s:=s) fe hfe ?_|refine ZC (fun hc=>?_) (fun hc=>?_)|refine ZE (fun hc=>?_) (fun hc=>?_))
     ·have h46:s.data.toList[fe]≠46:=fun e=>by rw [e] at hc;simp at hc
      rw [if_pos h46] at h3
      refine Yg (hy (pre++[pt]) ⟨0,fe,6⟩ (by rw [h3];simp)) (fun bb _=>?_)
      cases bb with
      | false=>
       repeat' (first|refine ZH ?_|refine ZG ?_|refine ZK ?_|refine ZI ?_|refine ZP ?_|refine ZJ ?_|refine ZM ?_|refine ZN (fun b=>?_)|refine ZO (fun b=>?_)|refine ZA ?_|refine ZB ?_|refine ZC (fun hc=>?_) (fun hc=>?_)|refine ZE (fun hc=>?_) (fun hc=>?_))
       exact YR (YX (Z4 (some (pre++[pt]++[⟨0,fe,6⟩])) rfl (fun q hq=>by cases hq;rw [h3];simp)))
      | true=>
       repeat' (first|refine ZH ?_|refine ZG ?_|refine ZK ?_|refine ZI ?_|refine ZP ?_|refine ZJ ?_|refine ZM ?_|refine ZN (fun b=>?_)|refine ZO (fun b=>?_)|refine ZA ?_|refine ZB ?_|refine ZC (fun hc=>?_) (fun hc=>?_)|refine ZE (fun hc=>?_) (fun hc=>?_))
       have h3:lparts s.data.toList=pre++[pt]++[⟨0,fe,6⟩]:=by rw [h3];simp
       rw [h3]
       exact YR (YX (Z4 none rfl (fun q hq=>by cases hq)))
     ·have h46:s.data.toList[fe]=46:=UInt8.toNat_inj.1 (by simp at hc;simp;omega)
      rw [if_neg (by simp [h46])] at h3
      rw [wrapi (z:=(fe:Int)+1) (by omega) (by omega),wrapi (z:=(c:Int)+1) (by omega) (by omega)]
      exact Zc ⟨pre++[pt],fe+1,c+1,by omega,by omega,by rw [h3,if_neg hne];simp⟩ (by show s.size - (fe+1)<s.size - p;omega) ⟨rfl,rfl,rfl,rfl,trivial⟩
 ·have hemp:=hemp hc
  rw [if_pos hemp,List.append_nil] at h3
  refine ZR ?_
  rw [h3]
  exact XB none rfl (fun q hq=>by cases hq)
section
variable {l:List Oper}
theorem YZ {b:Nat} {o:Obj} (t:Wk n C k Q E (Blk b o::F) R0) (hs:Sel (Pt b o) R R0:=by (repeat (first|exact Sel.here|apply Sel.there));first|done|fail):Wk n C k Q E F R:=
 fun a w ha hsat=>t a w ha (hsat.sel hs).freeze
theorem k_add {f:Pf} (h:∀hp,f.p hp) (t:Wk n C k Q E (f::F) R):Wk n C k Q E F R:=fun a w ha ⟨_,_,st⟩=>t a w ha (Yw st (h _))
theorem w_add {f:Pf} (h:∀hp,f.p hp) (t:Wret n C Q E (f::F) R):Wret n C Q E F R:=fun a w ha ⟨_,_,st⟩=>t a w ha (Yw st (h _))
theorem sl_nil {α:Type} (T:Nat) (f:α→List Value) (h:H):(Sl T f none 0 []).p h:=⟨by simp,.inl rfl⟩
theorem w_rv {fn:Func} {v v':Value} {G:H} {w0:World} {hp0:H} (h:v=v') (t:Wret n C (bodyPost prog fn ((RetV v').holds G w0 hp0)) E F R):Wret n C (bodyPost prog fn ((RetV v).holds G w0 hp0)) E F R:=by subst h;exact t
theorem w_open {X:Type} {r:HP} {Lx:X→List HP} {p:X→Prop} (hs:Sel r R R0) (h:∀hh,r hh→∃x,p x∧Sep (Lx x) hh) (t:∀x,p x→Wret n C Q E F (Lx x++R0)):Wret n C Q E F R:=fun a w ha hsat=>by
 obtain ⟨⟨x,hx⟩,h1⟩:=(hsat.sel hs).open' (X:={x // p x}) (L:=fun x=>Lx x.1) fun hh hr=>let ⟨x,h1,h2⟩:=h hh hr;⟨⟨x,h1⟩,h2⟩
 exact t x hx a w ha h1
end
theorem Xn (s:ByteArray):Enters 199∧Spec prog 199 #[.string s] [] []
  ⟨Nat,fun b=>.func (.func 220) #[] #[.pointer (some ⟨b,0,none⟩)],fun _=>True,fun b=>[Blk b (.cells #[.string s] 9)],fun _=>[]⟩:=by
 refine Zb [_] func199 ntmps199 fun G w hp=>?_
 repeat' (first|refine ZH ?_|refine ZG ?_|refine ZK ?_|refine ZI ?_|refine ZP ?_|refine ZJ ?_|refine ZM ?_|refine ZN (fun b=>?_)|refine ZO (fun b=>?_)|refine ZA ?_|refine ZB ?_|refine ZR ?_|refine ZC (fun hc=>?_) (fun hc=>?_)|refine ZE (fun hc=>?_) (fun hc=>?_))
 refine YZ ?_
 exact ZS b rfl trivial
def lparse (s:ByteArray):ByteArray×Nat×Int:=
 match (lparts s.data.toList).find? fun p=>p.e != 0 with
 | none=>(s,0,0)
 | some p=>(⟨#[]⟩,p.pos,p.e)
theorem parse_find {pre:List Prt} {e:Prt} {xs:List Prt} (h:pre++[e] <+: xs) (h0:∀x ∈ pre,x.e=0) (he:e.e≠0):xs.find? (fun p=>p.e != 0)=some e:=by
 obtain ⟨t,rfl⟩:=h
 rw [List.append_assoc,List.find?_append]
 have:pre.find? (fun p=>p.e != 0)=none:=List.find?_eq_none.2 fun x hx=>by simp [h0 x hx]
 simp [this,he]
abbrev JL (b2 b3 b4:Nat) (p e:Int):List HP:=[Pt b2 (.cells #[.string ⟨#[]⟩] 23),Pt b3 (.cells #[.int .i64 p] 3),Pt b4 (.cells #[.int .i64 e] 34)]
def JP (b2 b3 b4:Nat) (pre:List Prt):HP:=fun h=>(∀x ∈ pre,x.e=0)∧Sep (JL b2 b3 b4 0 0) h
def JPx (b2 b3 b4:Nat) (pre:List Prt):HP:=fun h=>∃q:List Prt×Prt,(pre=q.1++[q.2]∧(∀x ∈ q.1,x.e=0)∧q.2.e≠0)∧Sep (JL b2 b3 b4 q.2.pos q.2.e) h
theorem parseL_ok (s:ByteArray) (hs:s.size≤1099511627776):Enters 159∧Spec prog 159 #[.string s] [] []
  (RetV (.tuple #[.string (lparse s).1,.int .i64 ((lparse s).2.1:Int),.int .i64 (lparse s).2.2])):=by
 refine ⟨enters_of func159 (by kernel_rfl) rfl,spec_ofM (vs:=[_]) func159 rfl ntmps159 rfl fun G w hp=>?_⟩
 repeat' (first|refine ZH ?_|refine ZG ?_|refine ZK ?_|refine ZI ?_|refine ZP ?_|refine ZJ ?_|refine ZM ?_|refine ZN (fun b=>?_)|refine ZO (fun b=>?_)|refine ZA ?_|refine ZB ?_|refine ZR ?_|refine ZZ ?_|refine ZW ?_|refine Zf ?_|refine Za ?_|refine ZY ?_|refine Ze (fun b=>?_)|refine Zg (fun b=>?_)|refine Zd ?_|refine ZX ?_|refine ZF (Xn _) (fun _ _=>?_)|refine l_call0 (Xn _) (fun _ _=>?_)|refine ZT (Xn _) (fun _ _=>?_)|refine ZC (fun hc=>?_) (fun hc=>?_)|refine ZL (fun hc=>?_) (fun hc=>?_)|refine ZD 4 [] [(0,0),(1,0),(2,0),(3,0),(4,4),(5,4)] [6] ?_|refine ZE (fun hc=>?_) (fun hc=>?_))
 rename_i b2 b3 q _
 generalize b=b4
 refine Zs (r:=JP b2 b3 b4 []) (Lx:=JL b2 b3 b4 0 0) (fun h hh=>⟨fun x hx=>(by cases hx),hh⟩) ?_
 refine k_range (α:=Prt) (enc:=Prt.v) (xs:=lparts s.data.toList) (JP b2 b3 b4) (JPx b2 b3 b4) (W5 s q hs) ?_ ?_ ?_
 ·intro lr l pre e hpre G w0 hp0
  refine Yo (X:=Unit) (Lx:=fun _=>JL b2 b3 b4 0 0) (p:=fun _=>∀x ∈ pre,x.e=0) (r:=JP b2 b3 b4 pre) (.there .here) (fun h hh=>⟨(),hh.1,hh.2⟩) (fun _ hall=>?_)
  repeat' (first|refine ZH ?_|refine ZG ?_|refine ZK ?_|refine ZI ?_|refine ZP ?_|refine ZJ ?_|refine ZM ?_|refine ZN (fun b=>?_)|refine ZO (fun b=>?_)|refine ZA ?_|refine ZB ?_|refine ZR ?_|refine ZZ ?_|refine ZW ?_|refine Zf ?_|refine Za ?_|refine ZY ?_|refine Ze (fun b=>?_)|refine Zg (fun b=>?_)|refine Zd ?_|refine ZX ?_|refine k_beg ?_|refine ZC (fun hc=>?_) (fun hc=>?_)|refine ZL (fun hc=>?_) (fun hc=>?_)|refine ZD 4 [Pt b2 (.cells _ _ _),Pt b3 (.cells _ _ _),Pt b4 (.cells _ _ _)] [(0,0),(1,0),(2,0),(3,0),(4,4),(5,4),(6,4)] [] ?_|refine ZE (fun hc=>?_) (fun hc=>?_))
  ·have he:e.e≠0:=by simpa using hc
   refine Zs (Lx:=JL b2 b3 b4 e.pos e.e) (r:=JPx b2 b3 b4 (pre++[e])) (fun h hh=>⟨(pre,e),⟨rfl,hall,he⟩,hh⟩) ?_
   exact k_rr
  ·have he:e.e=0:=by simpa using hc
   refine Zs (Lx:=JL b2 b3 b4 0 0) (r:=JP b2 b3 b4 (pre++[e])) (fun h hh=>⟨fun x hx=>?_,hh⟩) ?_
   ·rcases List.mem_append.1 hx with hx|hx
    ·exact hall x hx
    ·simp at hx;subst hx;exact he
   exact k_rn
 ·intro D
  refine Yo (X:=Unit) (Lx:=fun _=>JL b2 b3 b4 0 0) (p:=fun _=>∀x ∈ lparts s.data.toList,x.e=0) (r:=JP b2 b3 b4 (lparts s.data.toList)) .here (fun h hh=>⟨(),hh.1,hh.2⟩) (fun _ hall=>?_)
  have hp:lparse s=(s,0,0):=by
   have:(lparts s.data.toList).find? (fun p=>p.e != 0)=none:=List.find?_eq_none.2 fun x hx=>by simp [hall x hx]
   rw [lparse,this]
  rw [hp]
  repeat' (first|refine ZH ?_|refine ZG ?_|refine ZK ?_|refine ZI ?_|refine ZP ?_|refine ZJ ?_|refine ZM ?_|refine ZN (fun b=>?_)|refine ZO (fun b=>?_)|refine ZA ?_|refine ZB ?_|refine ZR ?_|refine ZZ ?_|refine ZW ?_|refine Zf ?_|refine Za ?_|refine ZY ?_|refine Ze (fun b=>?_)|refine Zg (fun b=>?_)|refine Zd ?_|refine ZX ?_|refine ZC (fun hc=>?_) (fun hc=>?_)|refine ZL (fun hc=>?_) (fun hc=>?_)|refine ZD 4 [] [(0,0),(1,0),(2,0),(3,0),(4,4),(5,4)] [6] ?_|refine ZE (fun hc=>?_) (fun hc=>?_))
  exact k_retM () rfl trivial
 ·intro D pre hpre
  refine w_open (X:=List Prt×Prt) (Lx:=fun q=>JL b2 b3 b4 q.2.pos q.2.e) (r:=JPx b2 b3 b4 pre) .here (fun h hh=>hh) (fun q hq=>?_)
  obtain ⟨rfl,h1,h2⟩:=hq
  rw [lparse,parse_find hpre h1 h2]
  exact w_retM () rfl trivial
theorem lparse_valid (s:ByteArray):((lparse s).2.2 == 0)=lvalid s.data.toList:=by
 unfold lparse lvalid
 cases h:(lparts s.data.toList).find? fun p=>p.e != 0 with
 | none=>
  have h1:=List.find?_eq_none.1 h
  simp at h1
  symm
  simpa using h1
 | some p=>
  have h1:=List.find?_some h
  have h2:=List.mem_of_find?_eq_some h
  simp at h1
  have e1:(p.e == 0)=false:=by simpa using h1
  dsimp only
  rw [e1]
  symm
  rw [List.all_eq_false]
  exact ⟨p,h2,by simpa using h1⟩
theorem YS (s:ByteArray) (hs:s.size≤1099511627776):Enters 111∧Spec prog 111 #[.string s] [] [] (RetV (.bool (lvalid s.data.toList))):=by
 refine Zb [_] func111 ntmps111 fun G w hp=>?_
 repeat' (first|refine ZH ?_|refine ZG ?_|refine ZK ?_|refine ZI ?_|refine ZP ?_|refine ZJ ?_|refine ZM ?_|refine ZN (fun b=>?_)|refine ZO (fun b=>?_)|refine ZA ?_|refine ZB ?_|refine ZR ?_|refine ZF (parseL_ok s hs) (fun _ _=>?_)|refine l_call0 (parseL_ok s hs) (fun _ _=>?_)|refine ZC (fun hc=>?_) (fun hc=>?_)|refine ZE (fun hc=>?_) (fun hc=>?_))
 refine ZS () ?_ trivial
 rw [←lparse_valid];rfl
theorem prts_len:∀(m:Nat) (l:List UInt8) (p c:Nat),l.length≤m→(prts l p c).length≤l.length+1:=by
 intro m
 induction m with
 | zero=>
  intro l p c hl
  obtain rfl:=List.length_eq_zero_iff.1 (show l.length=0 by omega)
  unfold prts
  split
  ·simp
  ·rename_i h;simp [ferr] at h;split at h<;>simp_all
 | succ m ih=>
  intro l p c hl
  unfold prts
  split
  ·simp
  ·split
   ·simp
   ·rename_i c' rest h
    have h1:=congrArg List.length h
    simp at h1
    split
    ·simp;omega
    ·have:=ih rest (p+(digs l).length+1) (c+1) (by omega)
     simp;omega
theorem lparts_len (s:List UInt8):(lparts s).length≤s.length+1:=by
 unfold lparts
 split
 ·simp
 ·exact prts_len _ s 0 0 (Nat.le_refl _)
def zf (z:Int):List Value:=[.int .i64 z]
def ords (l:List Prt):List Int:=l.map fun p=>(p.ord:Int)
theorem lords_ok {s:List UInt8} (h:∀x ∈ lparts s,x.e=0):lords s=ords (lparts s):=by
 have:lvalid s=true:=by simpa [lvalid] using h
 rw [lords,if_pos this];rfl
theorem lords_bad {s:List UInt8} (h:∃x ∈ lparts s,x.e≠0):lords s=[]:=by
 have:lvalid s=false:=by simpa [lvalid] using h
 rw [lords,this];rfl
abbrev JOL (b2 b3:Nat) (pre:List Prt) (q:Option Addr×Nat):List HP:=[Pt b2 (.cells #[.slice none 0 0] 194),Pt b3 (.cells #[.slice q.1 pre.length q.2] 194),Row 3 1 q.1 pre.length q.2 ((ords pre).flatMap zf)]
def JO (b2 b3:Nat) (pre:List Prt):HP:=fun h=>∃q,(∀x ∈ pre,x.e=0)∧Sep (JOL b2 b3 pre q) h
def JOx (b2:Nat) (pre:List Prt):HP:=fun h=>(∃x ∈ pre,x.e≠0)∧Sep [Pt b2 (.cells #[.slice none 0 0] 194)] h
theorem XF (s:ByteArray) (hs:s.size≤1099511627776):Enters 151∧Spec prog 151 #[.string s] [] []
  ⟨Option Addr×Nat,fun q=>.slice q.1 (lords s.data.toList).length q.2,fun _=>True,fun q=>[Sl 3 zf q.1 q.2 (lords s.data.toList)],fun _=>[]⟩:=by
 have hlen:=lparts_len s.data.toList
 have hsz:s.data.toList.length=s.size:=by simp
 refine ⟨enters_of func151 (by kernel_rfl) rfl,spec_ofM (vs:=[_]) func151 rfl ntmps151 rfl fun G w hp=>?_⟩
 repeat' (first|refine ZH ?_|refine ZG ?_|refine ZK ?_|refine ZI ?_|refine ZP ?_|refine ZJ ?_|refine ZM ?_|refine ZN (fun b=>?_)|refine ZO (fun b=>?_)|refine ZA ?_|refine ZB ?_|refine ZR ?_|refine ZF (Xn _) (fun _ _=>?_)|refine l_call0 (Xn _) (fun _ _=>?_)|refine ZC (fun hc=>?_) (fun hc=>?_)|refine ZE (fun hc=>?_) (fun hc=>?_))
 rename_i b2 q _
 generalize b=b3
 refine Zs (Lx:=[]) (r:=Row 3 1 none 0 0 []) (fun h _=>YQ _ _ h) ?_
 refine Zs (Lx:=JOL b2 b3 [] (none,0)) (r:=JO b2 b3 []) (fun h hh=>⟨(none,0),fun x hx=>(by cases hx),hh⟩) ?_
 refine k_range (α:=Prt) (enc:=Prt.v) (xs:=lparts s.data.toList) (JO b2 b3) (JOx b2) (W5 s q hs) ?_ ?_ ?_
 ·intro lr l pre e hpre G w0 hp0
  have hple:=hpre.length_le
  simp only [List.length_append,List.length_singleton] at hple
  refine Yo (X:=Option Addr×Nat) (Lx:=fun q=>JOL b2 b3 pre q) (p:=fun _=>∀x ∈ pre,x.e=0) (r:=JO b2 b3 pre) (.there .here) (fun h hh=>hh) (fun q hall=>?_)
  repeat' (first|refine ZH ?_|refine ZG ?_|refine ZK ?_|refine ZI ?_|refine ZP ?_|refine ZJ ?_|refine ZM ?_|refine ZN (fun b=>?_)|refine ZO (fun b=>?_)|refine ZA ?_|refine ZB ?_|refine ZR ?_|refine k_beg ?_|refine Yq (fun o' cap'=>?_)|refine ZC (fun hc=>?_) (fun hc=>?_)|refine ZE (fun hc=>?_) (fun hc=>?_))
  ·have he:e.e≠0:=by simpa using hc
   refine Zs (Lx:=[Pt b2 (.cells #[.slice none 0 0] 194)]) (r:=JOx b2 (pre++[e])) (fun h hh=>⟨⟨e,by simp,he⟩,hh⟩) ?_
   exact k_rr
  ·have he:e.e=0:=by simpa using hc
   have e1:pre.length+1=(pre++[e]).length:=by simp
   have e2:(ords pre).flatMap zf++#[Value.int .i64 (e.ord:Int)].toList=(ords (pre++[e])).flatMap zf:=by simp [ords,zf]
   rw [e1,e2]
   refine Zs (Lx:=JOL b2 b3 (pre++[e]) (o',cap')) (r:=JO b2 b3 (pre++[e])) (fun h hh=>⟨(o',cap'),fun x hx=>?_,hh⟩) ?_
   ·rcases List.mem_append.1 hx with hx|hx
    ·exact hall x hx
    ·simp at hx;subst hx;exact he
   exact k_rn
 ·intro D
  refine Yo (X:=Option Addr×Nat) (Lx:=fun q=>JOL b2 b3 (lparts s.data.toList) q) (p:=fun _=>∀x ∈ lparts s.data.toList,x.e=0) (r:=JO b2 b3 (lparts s.data.toList)) .here (fun h hh=>hh) (fun q hall=>?_)
  dsimp only [JOL]
  rw [lords_ok hall,show (lparts s.data.toList).length=(ords (lparts s.data.toList)).length by simp [ords]]
  repeat' (first|refine ZH ?_|refine ZG ?_|refine ZK ?_|refine ZI ?_|refine ZP ?_|refine ZJ ?_|refine ZM ?_|refine ZN (fun b=>?_)|refine ZO (fun b=>?_)|refine ZA ?_|refine ZB ?_|refine ZR ?_|refine ZC (fun hc=>?_) (fun hc=>?_)|refine ZE (fun hc=>?_) (fun hc=>?_))
  refine Xt (sz:=1) (f:=zf) (o:=q.1) (cap:=q.2) (ords (lparts s.data.toList)) ?_ rfl rfl
  exact k_retM q rfl trivial
 ·intro D pre hpre
  refine w_open (X:=Unit) (Lx:=fun _=>[Pt b2 (.cells #[.slice none 0 0] 194)]) (p:=fun _=>∃x ∈ pre,x.e≠0) (r:=JOx b2 pre) .here (fun h hh=>⟨(),hh⟩) (fun q hq=>?_)
  obtain ⟨x,hx,he⟩:=hq
  rw [lords_bad ⟨x,hpre.subset hx,he⟩]
  refine w_add (sl_nil 3 zf) ?_
  exact w_retM (none,0) rfl trivial
theorem cmpSl_ok (o1 o2:Option Addr) (c1 c2:Nat) (e1 e2:List Int) (h1:e1.length≤1099511627776) (h2:e2.length≤1099511627776):Enters 150∧Spec prog 150 #[.slice o1 e1.length c1,.slice o2 e2.length c2]
  [Sl 3 zf o1 c1 e1,Sl 3 zf o2 c2 e2] [] (RetV (.int .i64 (cmpL e1 e2))):=by
 refine Zb [_,_] func150 ntmps150 fun G w hp=>?_
 repeat' (first|refine ZH ?_|refine ZG ?_|refine ZK ?_|refine ZI ?_|refine ZP ?_|refine ZJ ?_|refine ZM ?_|refine ZN (fun b=>?_)|refine ZO (fun b=>?_)|refine ZA ?_|refine ZB ?_|refine ZR ?_|refine ZC (fun hc=>?_) (fun hc=>?_)|refine ZE (fun hc=>?_) (fun hc=>?_))
 refine Z6 (X:={i:Nat // i≤e1.length∧i≤e2.length∧cmpL e1 e2=cmpL (e1.drop i) (e2.drop i)}) (fun i=>[(0,.slice o1 e1.length c1),(1,.slice o2 e2.length c2),(9,.slice o1 e1.length c1),(10,.int .i64 (e1.length:Int)),(11,.int .i64 (i.1:Int))]) (fun _=>[Sl 3 zf o1 c1 e1,Sl 3 zf o2 c2 e2]) (fun _=>[]) (fun i=>e1.length - i.1) ⟨0,by omega,by omega,rfl⟩ ⟨rfl,rfl,rfl,rfl,rfl,trivial⟩ ?_
 rintro ⟨i,hi1,hi2,hi3⟩
 dsimp only
 repeat' (first|refine ZH ?_|refine ZG ?_|refine ZK ?_|refine ZI ?_|refine ZP ?_|refine ZJ ?_|refine ZM ?_|refine ZN (fun b=>?_)|refine ZO (fun b=>?_)|refine ZA ?_|refine ZB ?_|refine ZR ?_|refine ZF (XD _ _) (fun _ _=>?_)|refine l_call0 (XD _ _) (fun _ _=>?_)|refine l_ix e1 i (by omega) (fun b off=>?_)|refine l_ix e2 i (by omega) (fun b off=>?_)|refine Zm ?_|(refine ZC (fun hc=>?_) (fun hc=>?_)<;>(try simp at hc))|(refine ZE (fun hc=>?_) (fun hc=>?_)<;>(try simp at hc)))
 ·have d1:=List.drop_eq_getElem_cons (l:=e1) (i:=i) (by omega)
  have d2:e2.drop i=[]:=List.drop_eq_nil_of_le (by omega)
  have e:cmpL e1 e2=1:=by rw [hi3,d1,d2];rfl
  exact YR (YX (w_rv (congrArg (Value.int .i64) e) (Z4 () rfl trivial)))
 ·have d1:=List.drop_eq_getElem_cons (l:=e1) (i:=i) (by omega)
  have d2:=List.drop_eq_getElem_cons (l:=e2) (i:=i) (by omega)
  have e:cmpL e1 e2=cmpI e1[i] e2[i]:=by rw [hi3,d1,d2,cmpL,if_pos hc]
  exact YR (YX (w_rv (congrArg (Value.int .i64) e) (Z4 () rfl trivial)))
 ·have d1:=List.drop_eq_getElem_cons (l:=e1) (i:=i) (by omega)
  have d2:=List.drop_eq_getElem_cons (l:=e2) (i:=i) (by omega)
  rw [wrapi (z:=(i:Int)+1) (by omega) (by omega)]
  exact Zc ⟨i+1,by omega,by omega,by rw [hi3,d1,d2,cmpL,if_neg (by simp [hc])]⟩ (by show e1.length - (i+1)<e1.length - i;omega) ⟨rfl,rfl,rfl,rfl,rfl,trivial⟩
 ·have d1:e1.drop i=[]:=List.drop_eq_nil_of_le (by omega)
  have d2:=List.drop_eq_getElem_cons (l:=e2) (i:=i) (by omega)
  rw [hi3,d1,d2]
  exact ZS () rfl trivial
 ·have d1:e1.drop i=[]:=List.drop_eq_nil_of_le (by omega)
  have d2:e2.drop i=[]:=List.drop_eq_nil_of_le (by omega)
  rw [hi3,d1,d2]
  exact ZS () rfl trivial
theorem lords_len (s:List UInt8):(lords s).length≤s.length+1:=by
 unfold lords
 split
 ·simp;exact lparts_len s
 ·simp
theorem Y9 (a b:ByteArray) (ha:a.size≤1099511627770) (hb:b.size≤1099511627770):Enters 96∧Spec prog 96 #[.string a,.string b] [] [] (RetV (.int .i64 (cmpN a b))):=by
 have la:=lords_len a.data.toList
 have lb:=lords_len b.data.toList
 have sa:a.data.toList.length=a.size:=by simp
 have sb:b.data.toList.length=b.size:=by simp
 have va:=YS a (by omega)
 have vb:=YS b (by omega)
 have key:(a.toList == b.toList)=decide (a=b):=by
  rw [Zt,Zt,Bool.eq_iff_iff]
  simp only [beq_iff_eq,decide_eq_true_eq]
  exact ⟨WG,fun h=>by rw [h]⟩
 generalize hr:cmpN a b=r
 unfold cmpN at hr
 cases hva:lvalid a.data.toList<;>cases hvb:lvalid b.data.toList
 all_goals rw [hva] at va hr
 all_goals rw [hvb] at vb hr
 all_goals dsimp only at hr
 all_goals refine Zb [_,_] func96 ntmps96 fun G w hp=>?_
 all_goals repeat' (first|refine ZH ?_|refine ZG ?_|refine ZK ?_|refine ZI ?_|refine ZP ?_|refine ZJ ?_|refine ZM ?_|refine ZN (fun b=>?_)|refine ZO (fun b=>?_)|refine ZA ?_|refine ZB ?_|refine ZR ?_|refine ZF (va) (fun _ _=>?_)|refine l_call0 (va) (fun _ _=>?_)|refine ZF (vb) (fun _ _=>?_)|refine l_call0 (vb) (fun _ _=>?_)|refine ZF (XF a (by omega)) (fun _ _=>?_)|refine l_call0 (XF a (by omega)) (fun _ _=>?_)|refine ZF (XF b (by omega)) (fun _ _=>?_)|refine l_call0 (XF b (by omega)) (fun _ _=>?_)|refine ZF (cmpSl_ok _ _ _ _ (lords a.data.toList) (lords b.data.toList) (by omega) (by omega)) (fun _ _=>?_)|refine l_call0 (cmpSl_ok _ _ _ _ (lords a.data.toList) (lords b.data.toList) (by omega) (by omega)) (fun _ _=>?_)|refine ZF (cmp_lin _ _) (fun _ _=>?_)|refine l_call0 (cmp_lin _ _) (fun _ _=>?_)|refine ZC (fun hc=>?_) (fun hc=>?_)|refine ZE (fun hc=>?_) (fun hc=>?_))
 all_goals first|rw [key,decide_eq_true_eq] at hc|rw [key,decide_eq_false_iff_not] at hc
 all_goals first
  | (rw [if_pos hc] at hr;subst hr;exact ZS () rfl trivial)
  | (rw [if_neg hc] at hr;subst hr;exact ZS () rfl trivial)
abbrev Al:=List (Nm×ByteArray)
inductive Tr where
 | nil
 | node (l:Tr) (a:Nm) (v:ByteArray) (r:Tr)
namespace Tr
def ht:Tr→Nat
 | nil=>0
 | node l _ _ r=>1+max l.ht r.ht
def sz:Tr→Nat
 | nil=>0
 | node l _ _ r=>1+l.sz+r.sz
def by_:Tr→Nat
 | nil=>0
 | node l _ v r=>v.size+l.by_+r.by_
def els:Tr→Al
 | nil=>[]
 | node l a v r=>l.els++(a,v)::r.els
def bal (l:Tr) (a:Nm) (v:ByteArray) (r:Tr):Tr:=
 if r.ht+1<l.ht then
  match l with
  | nil=>node l a v r
  | node ll la lv lr=>
   if lr.ht≤ll.ht then node ll la lv (node lr a v r)
   else match lr with
    | nil=>node l a v r
    | node il ia iv ir=>node (node ll la lv il) ia iv (node ir a v r)
 else if l.ht+1<r.ht then
  match r with
  | nil=>node l a v r
  | node rl ra rv rr=>
   if rl.ht≤rr.ht then node (node l a v rl) ra rv rr
   else match rl with
    | nil=>node l a v r
    | node il ia iv ir=>node (node l a v il) ia iv (node ir ra rv rr)
 else node l a v r
def put (a:Nm) (v:ByteArray):Tr→Tr
 | nil=>node nil a v nil
 | node l b u r=>if cmpO a b<0 then bal (put a v l) b u r else if 0<cmpO a b then bal l b u (put a v r) else node l a v r
def find (a:Nm):Tr→Option ByteArray
 | nil=>none
 | node l b u r=>if cmpO a b=0 then some u else if cmpO a b<0 then find a l else find a r
theorem els_bal (l:Tr) (a:Nm) (v:ByteArray) (r:Tr):(bal l a v r).els=l.els++(a,v)::r.els:=by
 unfold bal
 split
 ·split
  ·rfl
  ·split
   ·simp [els]
   ·split
    ·simp [els]
    ·simp [els]
 ·split
  ·split
   ·rfl
   ·split
    ·simp [els]
    ·split
     ·simp [els]
     ·simp [els]
  ·rfl
theorem sz_els (t:Tr):t.sz=t.els.length:=by
 induction t with
 | nil=>rfl
 | node l a v r hl hr=>simp [sz,els,hl,hr];omega
def ab (l:Al):Nat:=(l.map fun x=>x.2.size).sum
theorem by_els (t:Tr):t.by_=ab t.els:=by
 induction t with
 | nil=>rfl
 | node l a v r hl hr=>simp [by_,els,hl,hr,ab];omega
theorem ht_sz (t:Tr):t.ht≤t.sz:=by
 induction t with
 | nil=>simp [ht]
 | node l a v r hl hr=>simp only [ht,sz];omega
end Tr
def Srt (l:Al):Prop:=l.Pairwise fun x y=>cmpO x.1 y.1<0
def insO (a:Nm) (v:ByteArray):Al→Al
 | []=>[(a,v)]
 | (b,u)::l=>if cmpO a b<0 then (a,v)::(b,u)::l else if 0<cmpO a b then (b,u)::insO a v l else (a,v)::l
def getO (a:Nm):Al→Option ByteArray
 | []=>none
 | (b,u)::l=>if cmpO a b=0 then some u else getO a l
theorem Yp (a b:Nm):cmpO a b<0↔0<cmpO b a:=YU.anti a b
theorem WO (a b:Nm):cmpO a b=0↔a=b:=YU.eq a b
theorem Y6 {a b c:Nm} (h:cmpO a b<0) (k:cmpO b c<0):cmpO a c<0:=YU.trans a b c h k
theorem insO_lt (a:Nm) (v:ByteArray) (b:Nm) (u:ByteArray) (ys:Al):∀xs:Al,(∀x ∈ xs,cmpO x.1 b<0)→cmpO a b<0→insO a v (xs++(b,u)::ys)=insO a v xs++(b,u)::ys
 | [],_,h=>by simp [insO,h]
 | (c,w)::xs,hx,h=>by
  have ih:=insO_lt a v b u ys xs (fun x hx'=>hx x (List.mem_cons_of_mem _ hx')) h
  simp only [List.cons_append,insO,ih]
  split
  ·simp
  ·split<;>simp
theorem insO_gt (a:Nm) (v:ByteArray) (b:Nm) (u:ByteArray) (ys:Al):∀xs:Al,(∀x ∈ xs,cmpO x.1 b<0)→0<cmpO a b→insO a v (xs++(b,u)::ys)=xs++(b,u)::insO a v ys
 | [],_,h=>by
  have h1:¬cmpO a b<0:=by omega
  simp [insO,h,h1]
 | (c,w)::xs,hx,h=>by
  have ih:=insO_gt a v b u ys xs (fun x hx'=>hx x (List.mem_cons_of_mem _ hx')) h
  have h0:cmpO c b<0:=hx (c,w) (by simp)
  have h1:cmpO c a<0:=Y6 h0 ((Yp b a).2 h)
  have h2:0<cmpO a c:=(Yp c a).1 h1
  have h3:¬cmpO a c<0:=by omega
  simp only [List.cons_append,insO,ih,h2,h3,if_true,if_false]
theorem insO_eq (a:Nm) (v:ByteArray) (b:Nm) (u:ByteArray) (ys:Al):∀xs:Al,(∀x ∈ xs,cmpO x.1 b<0)→cmpO a b=0→insO a v (xs++(b,u)::ys)=xs++(a,v)::ys
 | [],_,h=>by simp [insO,h]
 | (c,w)::xs,hx,h=>by
  have ih:=insO_eq a v b u ys xs (fun x hx'=>hx x (List.mem_cons_of_mem _ hx')) h
  obtain rfl:=(WO a b).1 h
  have h0:cmpO c a<0:=hx (c,w) (by simp)
  have h2:0<cmpO a c:=(Yp c a).1 h0
  have h3:¬cmpO a c<0:=by omega
  simp only [List.cons_append,insO,ih,h2,h3,if_true,if_false]
theorem srt_split {xs ys:Al} {b:Nm} {u:ByteArray} (h:Srt (xs++(b,u)::ys)):Srt xs∧Srt ys∧(∀x ∈ xs,cmpO x.1 b<0)∧∀y ∈ ys,cmpO b y.1<0:=by
 unfold Srt at *
 rw [List.pairwise_append,List.pairwise_cons] at h
 exact ⟨h.1,h.2.1.2,fun x hx=>h.2.2 x hx (b,u) (by simp),fun y hy=>h.2.1.1 y hy⟩
theorem els_put (a:Nm) (v:ByteArray):∀t:Tr,Srt t.els→(Tr.put a v t).els=insO a v t.els
 | .nil,_=>rfl
 | .node l b u r,h=>by
  obtain ⟨h1,h2,h3,h4⟩:=srt_split h
  have il:=els_put a v l h1
  have ir:=els_put a v r h2
  unfold Tr.put
  split
  ·rename_i hc
   rw [Tr.els_bal,il]
   exact (insO_lt a v b u _ _ h3 hc).symm
  ·split
   ·rename_i hc
    rw [Tr.els_bal,ir]
    exact (insO_gt a v b u _ _ h3 hc).symm
   ·exact (insO_eq a v b u _ _ h3 (by omega)).symm
theorem W4 (a:Nm):∀xs ys:Al,getO a (xs++ys)=(getO a xs).or (getO a ys)
 | [],_=>by simp [getO]
 | (b,u)::xs,ys=>by
  simp only [List.cons_append,getO,W4 a xs ys]
  split<;>simp
theorem XO {a:Nm}:∀{xs:Al},(∀x ∈ xs,cmpO a x.1≠0)→getO a xs=none
 | [],_=>rfl
 | (b,u)::xs,h=>by
  rw [getO,if_neg (h (b,u) (by simp))]
  exact XO fun x hx=>h x (by simp [hx])
theorem Wg (a:Nm):∀t:Tr,Srt t.els→Tr.find a t=getO a t.els
 | .nil,_=>rfl
 | .node l b u r,h=>by
  obtain ⟨h1,h2,h3,h4⟩:=srt_split h
  have il:=Wg a l h1
  have ir:=Wg a r h2
  unfold Tr.find Tr.els
  rw [W4,getO]
  by_cases h0:cmpO a b=0
  ·rw [if_pos h0,if_pos h0]
   obtain rfl:=(WO a b).1 h0
   rw [XO fun x hx=>by
    have:=(Yp _ _).1 (h3 x hx)
    omega]
   rfl
  ·rw [if_neg h0,if_neg h0]
   by_cases hl:cmpO a b<0
   ·rw [if_pos hl,il]
    rw [XO (xs:=r.els) fun y hy=>by
     have:=Y6 hl (h4 y hy)
     omega]
    simp
   ·rw [if_neg hl,ir]
    rw [XO (xs:=l.els) fun x hx=>by
     have h5:cmpO b a<0:=(Yp b a).2 (by omega)
     have h6:=Y6 (h3 x hx) h5
     have:=(Yp _ _).1 h6
     omega]
    simp
theorem Wa (a:Nm) (v:ByteArray):∀(l:Al) (x:Nm×ByteArray),x ∈ insO a v l→x=(a,v)∨x ∈ l
 | [],x,h=>by simpa [insO] using h
 | (b,u)::l,x,h=>by
  unfold insO at h
  split at h
  ·simpa using h
  ·split at h
   ·rcases List.mem_cons.1 h with h|h
    ·right;simp [h]
    ·rcases Wa a v l x h with h|h
     ·exact .inl h
     ·right;simp [h]
   ·rcases List.mem_cons.1 h with h|h
    ·exact .inl h
    ·right;simp [h]
theorem srt_ins (a:Nm) (v:ByteArray):∀l:Al,Srt l→Srt (insO a v l)
 | [],_=>by simp [insO,Srt]
 | (b,u)::l,h=>by
  have hp:=List.pairwise_cons.1 h
  unfold insO
  split
  ·rename_i hc
   refine List.pairwise_cons.2 ⟨fun y hy=>?_,h⟩
   rcases List.mem_cons.1 hy with rfl|hy
   ·exact hc
   ·exact Y6 hc (hp.1 y hy)
  ·split
   ·rename_i hc
    refine List.pairwise_cons.2 ⟨fun y hy=>?_,srt_ins a v l hp.2⟩
    rcases Wa a v l y hy with rfl|hy
    ·exact (Yp b a).2 hc
    ·exact hp.1 y hy
   ·rename_i h1 h2
    obtain rfl:=(WO a b).1 (by omega)
    exact List.pairwise_cons.2 ⟨hp.1,hp.2⟩
theorem insO_len (a:Nm) (v:ByteArray):∀l:Al,(insO a v l).length≤l.length+1
 | []=>by simp [insO]
 | (b,u)::l=>by
  have:=insO_len a v l
  unfold insO
  split
  ·simp
  ·split<;>simp<;>omega
theorem row_pt {T sz m b:Nat} {cs:Array Value} (hm:cs.size=m * sz) (h:H) (hb:Sep [Pt b (.cells cs T)] h):Row T sz (some ⟨b,0,none⟩) m m cs.toList h:=by
 obtain ⟨h1,h2,_,s1,_,hx,_⟩:=hb
 refine .inr ⟨b,[],(0,0),rfl,?_,by simpa using hm,by simpa using hm,Nat.le_refl _,.inl rfl⟩
 simpa using s1 _ _ hx
def or0:List Int→Int
 | []=>0
 | x::l=>if x≠0 then x else or0 l
theorem or_ok (o:Option Addr) (c:Nat) (es:List Int) (h1:es.length≤1099511627776):Spec prog 94 #[.slice o es.length c] [Sl 3 zf o c es] [] (RetV (.int .i64 (or0 es))):=by
 refine (show Enters 94∧Spec prog 94 #[.slice o es.length c] [Sl 3 zf o c es] [] (RetV (.int .i64 (or0 es))) from ?_).2
 refine Zb [_] func94 ntmps94 fun G w hp=>?_
 repeat' (first|refine ZH ?_|refine ZG ?_|refine ZK ?_|refine ZI ?_|refine ZP ?_|refine ZJ ?_|refine ZM ?_|refine ZN (fun b=>?_)|refine ZO (fun b=>?_)|refine ZA ?_|refine ZB ?_|refine ZR ?_|refine ZC (fun hc=>?_) (fun hc=>?_)|refine ZE (fun hc=>?_) (fun hc=>?_))
 refine Z6 (X:={i:Nat // i≤es.length∧or0 es=or0 (es.drop i)}) (fun i=>[(3,.int .i64 0),(6,.slice o es.length c),(7,.int .i64 (es.length:Int)),(8,.int .i64 (i.1:Int))]) (fun _=>[Sl 3 zf o c es]) (fun _=>[]) (fun i=>es.length - i.1) ⟨0,by omega,rfl⟩ ⟨rfl,rfl,rfl,rfl,trivial⟩ ?_
 rintro ⟨i,hi1,hi3⟩
 dsimp only
 repeat' (first|refine ZH ?_|refine ZG ?_|refine ZK ?_|refine ZI ?_|refine ZP ?_|refine ZJ ?_|refine ZM ?_|refine ZN (fun b=>?_)|refine ZO (fun b=>?_)|refine ZA ?_|refine ZB ?_|refine ZR ?_|refine l_ix es i (by omega) (fun b off=>?_)|refine Zm ?_|(refine ZC (fun hc=>?_) (fun hc=>?_)<;>(try simp at hc))|(refine ZE (fun hc=>?_) (fun hc=>?_)<;>(try simp at hc)))
 ·have d1:=List.drop_eq_getElem_cons (l:=es) (i:=i) (by omega)
  have e:or0 es=es[i]:=by rw [hi3,d1,or0,if_pos hc]
  exact YR (YX (w_rv (congrArg (Value.int .i64) e) (Z4 () rfl trivial)))
 ·have d1:=List.drop_eq_getElem_cons (l:=es) (i:=i) (by omega)
  rw [wrapi (z:=(i:Int)+1) (by omega) (by omega)]
  exact Zc ⟨i+1,by omega,by rw [hi3,d1,or0,if_neg (by simp [hc])]⟩ (by show es.length - (i+1)<es.length - i;omega) ⟨rfl,rfl,rfl,rfl,trivial⟩
 ·have d1:es.drop i=[]:=List.drop_eq_nil_of_le (by omega)
  rw [hi3,d1]
  exact ZS () rfl trivial
theorem or3_ok (b:Nat) (x y z:Int):Enters 94∧Spec prog 94 #[.slice (some ⟨b,0,none⟩) 3 3] [] [Pt b (.cells #[.int .i64 x,.int .i64 y,.int .i64 z] 3)] (RetV (.int .i64 (or0 [x,y,z]))):=by
 refine ⟨enters_of func94 (by kernel_rfl) rfl,fun G w hp hs=>?_⟩
 have h1:=(hs.shut (R:=[]) (L:=[Pt b (.cells #[.int .i64 x,.int .i64 y,.int .i64 z] 3)]) (x:=Row 3 1 (some ⟨b,0,none⟩) 3 3 [.int .i64 x,.int .i64 y,.int .i64 z]) fun h hh=>row_pt rfl h hh)
 have h2:=frz_row (f:=zf) (es:=[x,y,z]) rfl rfl Sel.here h1
 exact Yu (or_ok (some ⟨b,0,none⟩) 3 [x,y,z] (by simp)) h2 .nil (fun hp hF f hf=>by simp at hf;subst hf;exact hF _ (by simp)) fun x w' hx h3=>⟨x,rfl,hx,h3.facts (F':=[]) (fun _ _ _ h=>by cases h)⟩
theorem YA (a a':Nm) (ha:a.owner.size≤1099511627770) (hb:a'.owner.size≤1099511627770):Enters 82∧Spec prog 82 #[a.v,a'.v] [] [] (RetV (.int .i64 (cmpO a a'))):=by
 generalize hr:cmpO a a'=r
 unfold cmpO at hr
 refine Zb [_,_] func82 ntmps82 fun G w hp=>?_
 repeat' (first|refine ZH ?_|refine ZG ?_|refine ZK ?_|refine ZI ?_|refine ZP ?_|refine ZJ ?_|refine ZM ?_|refine ZN (fun b=>?_)|refine ZO (fun b=>?_)|refine ZA ?_|refine ZB ?_|refine ZR ?_|refine ZZ ?_|refine ZW ?_|refine Zf ?_|refine Za ?_|refine ZY ?_|refine Ze (fun b=>?_)|refine Zg (fun b=>?_)|refine Zd ?_|refine ZX ?_|refine ZF (XD _ _) (fun _ _=>?_)|refine l_call0 (XD _ _) (fun _ _=>?_)|refine ZT (XD _ _) (fun _ _=>?_)|refine ZF (Y9 a.owner a'.owner ha hb) (fun _ _=>?_)|refine l_call0 (Y9 a.owner a'.owner ha hb) (fun _ _=>?_)|refine ZT (Y9 a.owner a'.owner ha hb) (fun _ _=>?_)|refine ZF (cmp_str _ _) (fun _ _=>?_)|refine l_call0 (cmp_str _ _) (fun _ _=>?_)|refine ZT (cmp_str _ _) (fun _ _=>?_)|refine ZF (or3_ok _ _ _ _) (fun _ _=>?_)|refine l_call0 (or3_ok _ _ _ _) (fun _ _=>?_)|refine ZT (or3_ok _ _ _ _) (fun _ _=>?_)|(refine ZC (fun hc=>?_) (fun hc=>?_)<;>(try simp at hc))|(refine ZL (fun hc=>?_) (fun hc=>?_)<;>(try simp at hc))|refine ZD 7 [] [(0,0),(1,0),(2,0),(3,0),(5,0),(6,0),(7,0),(8,0),(10,0),(11,0),(12,0),(13,0),(4,4),(9,4),(14,4),(15,1),(16,4),(17,0)] [] ?_|(refine ZE (fun hc=>?_) (fun hc=>?_)<;>(try simp at hc)))
 ·rw [if_pos hc] at hr;subst hr;exact ZS () rfl trivial
 ·rename_i h _ _
  rw [if_neg (by simp [h]),if_pos hc] at hr;subst hr;exact ZS () rfl trivial
 ·rename_i h _ _ _ _ _ _ _ _ _ _ _
  rw [if_neg (by simp_all),if_neg (by simp_all)] at hr
  have e:r=or0 [cmpI a.number a'.number,cmpI a.index a'.index,cmpS a.text a'.text]:=by
   rw [←hr]
   simp only [or0]
   split
   ·rfl
   ·split
    ·rfl
    ·split
     ·rfl
     ·omega
  subst e
  exact ZS () rfl trivial
structure Usage where
 word:ByteArray
 owner:Bool
 number:Bool
 index:Bool
 text:Bool
 most:Int
 deriving Inhabited
def uf (u:Usage):List Value:=[.string u.word,.bool u.owner,.bool u.number,.bool u.index,.bool u.text,.int .i64 u.most]
def usages:List Usage:=[
 ⟨⟨#[]⟩,false,false,false,false,0⟩,
 ⟨⟨#[112,114,111,99,101,115,115]⟩,true,false,false,false,0⟩,
 ⟨⟨#[114,101,103,105,115,116,101,114,115]⟩,true,false,false,false,0⟩,
 ⟨⟨#[112,97,103,101]⟩,true,false,true,false,63⟩,
 ⟨⟨#[116,97,98,108,101]⟩,true,false,false,false,0⟩,
 ⟨⟨#[99,111,117,110,116,101,114]⟩,true,false,false,false,0⟩,
 ⟨⟨#[112,101,110,100,105,110,103]⟩,true,false,false,false,0⟩,
 ⟨⟨#[110,111,100,101]⟩,true,true,false,false,0⟩,
 ⟨⟨#[98,108,111,99,107]⟩,true,true,true,false,63⟩,
 ⟨⟨#[101,110,116,114,121]⟩,true,true,false,true,0⟩,
 ⟨⟨#[108,105,115,116,105,110,103]⟩,true,true,false,false,0⟩,
 ⟨⟨#[112,105,112,101]⟩,true,true,false,false,0⟩,
 ⟨⟨#[108,111,99,107]⟩,true,true,false,false,0⟩,
 ⟨⟨#[116,101,114,109,105,110,97,108]⟩,false,true,false,false,0⟩,
 ⟨⟨#[97,99,99,111,117,110,116]⟩,false,false,false,true,0⟩,
 ⟨⟨#[99,108,111,99,107]⟩,false,false,false,false,0⟩,
 ⟨⟨#[112,111,114,116]⟩,false,true,false,false,0⟩,
 ⟨⟨#[98,111,120]⟩,false,false,false,true,0⟩,
 ⟨⟨#[111,117,116]⟩,true,true,true,false,1073741824⟩,
 ⟨⟨#[115,104,101,108,108]⟩,true,false,false,false,0⟩,
 ⟨⟨#[101,112,111,99,104]⟩,false,false,false,false,0⟩]
def Usg:Pf:=⟨fun h=>∃T fz,h 0=some (.cells (usages.flatMap uf).toArray T fz),fun _ _ s ⟨T,fz,h⟩=>⟨T,fz,s _ _ h⟩⟩
section
variable {l:List Oper}
theorem run_indexArr {T sz m i b:Nat} {w:World} {rs tr:TRow} (hts:lookT tab t=some rs) (hrs:rs.k = .arr m T) (hT:lookT tab T=some tr) (hsz:tr.size=sz) {z:Int} (hz:z=(i:Int)) (hi:i<m) :
  (Instr.indexAt t (.pointer (some ⟨b,0,none⟩)) (.int .i64 z)).run prog w = .ok (.pointer (some ⟨b,i * sz,none⟩)) w:=by
 obtain ⟨d1,hd1,hk1⟩:=Zl.und hts
 rw [hrs] at hk1
 have hu1:(underlying t).run prog w = .ok (.array m T) w:=by
  cases d1<;>simp [chkKind] at hk1
  obtain ⟨rfl,rfl⟩:=hk1
  simp [underlying,hd1,go_sem]
 have hs1:=Zl.sizeOf hT w
 rw [hsz] at hs1
 subst hz
 unfold Instr.indexAt
 simp only [asIntOf,Sem.run_bind,Sem.run_pure,Result.andThen,hu1,Instr.sureAddr]
 have hc:(0:Int)≤(i:Int)∧(i:Int)<((m:Nat):Int):=⟨by omega,by omega⟩
 rw [if_pos hc]
 simp only [Sem.run_bind,hs1,Result.andThen,Sem.run_pure,Int.toNat_natCast]
 rw [Xf rfl,Nat.zero_add]
theorem l_usg {m T:Nat} {z:Int} {rs tr:TRow} (i:Nat) (hlt:i<usages.length)
  (nx:∀T' o,o=i * 6→Wl n C ops.toArray k Q l ((d,.pointer (some ⟨0,o,none⟩))::E) (Cel T' 0 o (uf usages[i])::F) R)
  (hw:wantL ops E ⟨some d,.indexAddr t x y,ty0,pos,aft,gd⟩=some true:=by rfl) (hn:Nat.blt d n=true:=by rfl) (hx:ev E x=some (.pointer (some ⟨0,0,none⟩)):=by rfl) (hy:ev E y=some (.int .i64 z):=by rfl)
  (hs:Sel Usg F F0:=by (repeat (first|exact Sel.here|apply Sel.there));first|done|fail) (hts:lookT tab t=some rs:=by rfl) (hrs:rs.k = .arr m T:=by rfl) (hT:lookT tab T=some tr:=by rfl) (hsz:tr.size=6:=by rfl) (hm:m=usages.length:=by rfl)
  (hz:z=(i:Int):=by first|rfl|omega):Wl n C ops.toArray k Q (⟨some d,.indexAddr t x y,ty0,pos,aft,gd⟩::l) E F R:=
 Z8 (fun t ht=>by cases ht;exact Nat.le_of_ble_eq_true hn) (fun c hc=>by cases hc) hw fun a w ha hsat=>by
  obtain ⟨hp,hr,st⟩:=hsat
  obtain ⟨T',fz,h1⟩:=st.f _ hs.mem
  have hr1:=run_indexArr (w:=w) (b:=0) hts hrs hT hsz hz (by rw [hm];exact hlt)
  unfold OpRes
  simp only [execOp,ha.ev (x:=x) (by rw [ZU];exact hx),ha.ev (x:=y) (by rw [ZU];exact hy),Sem.run_bind,Result.andThen,hr1,Sem.run_pure]
  have hc:(Cel T' 0 (i * 6) (uf usages[i])).p hp:=by
   refine ⟨_,(T',fz),(usages.take i).flatMap uf,(usages.drop (i+1)).flatMap uf,h1,?_,?_⟩
   ·simpa using Y5 (f:=uf) (List.getElem?_eq_getElem hlt)
   ·rw [Zw (sz:=6) (fun _=>rfl)]
    simp;omega
  exact fun a' ha'=>nx T' _ rfl a' w ha' (Yw st hc)
end
def isE (s:ByteArray):Bool:=s.toList == ByteArray.toList ⟨#[]⟩
def badc (c:UInt8):Bool:=decide ((c.toNat:Int)<33) || (decide ((126:Int)<c.toNat) || ((c.toNat:Int) == 47))
def oword (s:ByteArray):Bool:=!isE s && decide (s.size≤32) && s.data.toList.all fun c=>!badc c
def within (x m:Int):Bool:=decide (0≤x) && decide (x≤m)
def uchk (u:Usage) (a:Nm):Int:=
 if (!u.owner && !isE a.owner) || (!u.number && a.number != 0) || (!u.index && a.index != 0) || (!u.text && !isE a.text) then 1
 else if u.owner && !lvalid a.owner.data.toList then 12
 else if (u.number && !within a.number 1073741824) || (u.index && !within a.index u.most) then 2
 else if u.text && !oword a.text then 12
 else 0
def nchk (a:Nm):Int:=if 1≤a.kind∧a.kind≤20 then uchk (usages.getD a.kind.toNat default) a else 11
theorem XE (s:ByteArray) (hs:s.size≤1099511627776):Enters 161∧Spec prog 161 #[.string s] [] [] (RetV (.bool (oword s))):=by
 have hsz:s.data.toList.length=s.size:=by simp
 generalize hr:oword s=r
 unfold oword at hr
 refine Zb [_] func161 ntmps161 fun G w hp=>?_
 repeat' (first|refine ZH ?_|refine ZG ?_|refine ZK ?_|refine ZI ?_|refine ZP ?_|refine ZJ ?_|refine ZM ?_|refine ZN (fun b=>?_)|refine ZO (fun b=>?_)|refine ZA ?_|refine ZB ?_|refine ZR ?_|refine ZC (fun hc=>?_) (fun hc=>?_)|refine ZE (fun hc=>?_) (fun hc=>?_))
 ·have hc:isE s=true:=hc
  rw [hc] at hr;simp at hr;subst hr
  exact ZS () rfl trivial
 ·rename_i h1
  have h1:isE s=false:=h1
  have h2:¬s.size≤32:=by simp at hc;omega
  rw [h1,decide_eq_false h2] at hr;simp at hr;subst hr
  exact ZS () rfl trivial
 rename_i h1
 have h1:isE s=false:=h1
 have h2:s.size≤32:=by simp at hc;omega
 rw [h1,decide_eq_true h2] at hr;simp only [Bool.not_false,Bool.and_self,Bool.true_and] at hr
 refine Z6 (X:={i:Nat // i≤s.size∧∀j,j<i→∀c,s.data.toList[j]? = some c→badc c=false}) (fun i=>[(0,.string s),(12,.int .i64 (s.size:Int)),(13,.int .i64 (i.1:Int))]) (fun _=>[]) (fun _=>[]) (fun i=>s.size - i.1) ⟨0,by omega,fun j hj=>by omega⟩ ⟨rfl,rfl,rfl,trivial⟩ ?_
 rintro ⟨i,hi1,hi2⟩
 dsimp only
 by_cases hlt:i<s.data.toList.length
 ·obtain ⟨c,hcc⟩:∃c,s.data.toList[i]? = some c:=⟨_,List.getElem?_eq_getElem hlt⟩
  have bad:badc c=true→r=false:=fun hb=>by
   rw [←hr,List.all_eq_false]
   exact ⟨c,List.mem_of_getElem? hcc,by simp [hb]⟩
  repeat' (first|refine ZH ?_|refine ZG ?_|refine ZK ?_|refine ZI ?_|refine ZP ?_|refine ZJ ?_|refine ZM ?_|refine ZN (fun b=>?_)|refine ZO (fun b=>?_)|refine ZA ?_|refine ZB ?_|refine ZR ?_|refine l_six (s:=s) i c hcc ?_|(refine ZC (fun hc=>?_) (fun hc=>?_)<;>(try simp at hc)<;>(try omega))|(refine ZE (fun hc=>?_) (fun hc=>?_)<;>(try simp at hc)<;>(try omega)))
  all_goals try (
   have e:=bad (by simp [badc];omega)
   exact YR (YX (w_rv (congrArg Value.bool e) (Z4 () rfl trivial))))
  rw [wrapi (z:=(i:Int)+1) (by omega) (by omega)]
  refine Zc ⟨i+1,by omega,fun j hj c' hc'=>?_⟩ (by show s.size - (i+1)<s.size - i;omega) ⟨rfl,rfl,rfl,trivial⟩
  by_cases hij:j=i
  ·subst hij
   obtain rfl:=Option.some.inj (hcc.symm.trans hc')
   simp [badc];omega
  ·exact hi2 j (by omega) c' hc'
 ·have e:r=true:=by
   rw [←hr,List.all_eq_true]
   intro c hc
   obtain ⟨j,hj,rfl⟩:=List.mem_iff_getElem.1 hc
   rw [hi2 j (by omega) _ (List.getElem?_eq_getElem hj)];rfl
  repeat' (first|refine ZH ?_|refine ZG ?_|refine ZK ?_|refine ZI ?_|refine ZP ?_|refine ZJ ?_|refine ZM ?_|refine ZN (fun b=>?_)|refine ZO (fun b=>?_)|refine ZA ?_|refine ZB ?_|refine ZR ?_|(refine ZC (fun hc=>?_) (fun hc=>?_)<;>(try simp at hc)<;>(try omega))|(refine ZE (fun hc=>?_) (fun hc=>?_)<;>(try simp at hc)<;>(try omega)))
  subst e
  exact ZS () rfl trivial
end Go.Proofs.YtdkndahndgkmnaaGreatDoor
set_option maxRecDepth 10000
set_option maxHeartbeats 4000000
namespace Go.Proofs.YtdkndahndgkmnaaGreatDoor
open Go.Proofs.Tryz
open Go.RowKit
theorem klt {a:Nm} (hk:1≤a.kind∧a.kind≤20):a.kind.toNat<usages.length:=by show a.kind.toNat<21;omega
theorem chk_TFFF (a:Nm) (ha:a.owner.size≤1099511627776) (ht:a.text.size≤1099511627776) (hk:1≤a.kind∧a.kind≤20) (uw:ByteArray) (um:Int) (hu:usages[a.kind.toNat]'(klt hk)=⟨uw,true,false,false,false,um⟩) :
  Enters 113∧Spec prog 113 #[a.v] [Usg] [] (RetV (.int .i64 (uchk ⟨uw,true,false,false,false,um⟩ a))):=by
 have v1:=YS a.owner ha
 have v2:=XE a.text ht
 have v3:=YT a.kind
 have e3:(decide (1≤a.kind) && decide (a.kind≤20))=true:=by simp [hk]
 rw [e3] at v3
 generalize hr:uchk ⟨uw,true,false,false,false,um⟩ a=r
 unfold uchk at hr
 simp only [Bool.not_false,Bool.not_true,Bool.true_and,Bool.false_and,Bool.or_false,Bool.false_or] at hr
 refine Zb [_] func113 ntmps113 fun G w hp=>?_
 repeat' (first|refine ZH ?_|refine ZG ?_|refine ZK ?_|refine ZI ?_|refine ZP ?_|refine ZJ ?_|refine ZM ?_|refine ZN (fun b=>?_)|refine ZO (fun b=>?_)|refine ZA ?_|refine ZB ?_|refine ZR ?_|refine ZF (v3) (fun _ _=>?_)|refine l_call0 (v3) (fun _ _=>?_)|refine ZC (fun hc=>?_) (fun hc=>?_))
 refine l_usg a.kind.toNat (klt hk) (fun T' o ho=>?_)
 rw [hu]
 repeat' (first|refine ZH ?_|refine ZG ?_|refine ZK ?_|refine ZI ?_|refine ZP ?_|refine ZJ ?_|refine ZM ?_|refine ZN (fun b=>?_)|refine ZO (fun b=>?_)|refine ZA ?_|refine ZB ?_|refine ZR ?_|refine ZF (v1) (fun _ _=>?_)|refine l_call0 (v1) (fun _ _=>?_)|refine ZF (v2) (fun _ _=>?_)|refine l_call0 (v2) (fun _ _=>?_)|refine ZF (Zz _ _) (fun _ _=>?_)|refine l_call0 (Zz _ _) (fun _ _=>?_)|refine Zm ?_|refine ZC (fun hc=>?_) (fun hc=>?_)|refine ZE (fun hc=>?_) (fun hc=>?_))
 all_goals (refine ZS () ?_ trivial;rw [←hr];clear hr v1 v2 v3 hu hk e3;simp only [cond_true,Bool.not_false] at *;simp_all [isE,resV,RetV])
theorem chk_TFTF (a:Nm) (ha:a.owner.size≤1099511627776) (ht:a.text.size≤1099511627776) (hk:1≤a.kind∧a.kind≤20) (uw:ByteArray) (um:Int) (hu:usages[a.kind.toNat]'(klt hk)=⟨uw,true,false,true,false,um⟩) :
  Enters 113∧Spec prog 113 #[a.v] [Usg] [] (RetV (.int .i64 (uchk ⟨uw,true,false,true,false,um⟩ a))):=by
 have v1:=YS a.owner ha
 have v2:=XE a.text ht
 have v3:=YT a.kind
 have e3:(decide (1≤a.kind) && decide (a.kind≤20))=true:=by simp [hk]
 rw [e3] at v3
 generalize hr:uchk ⟨uw,true,false,true,false,um⟩ a=r
 unfold uchk at hr
 simp only [Bool.not_false,Bool.not_true,Bool.true_and,Bool.false_and,Bool.or_false,Bool.false_or] at hr
 refine Zb [_] func113 ntmps113 fun G w hp=>?_
 repeat' (first|refine ZH ?_|refine ZG ?_|refine ZK ?_|refine ZI ?_|refine ZP ?_|refine ZJ ?_|refine ZM ?_|refine ZN (fun b=>?_)|refine ZO (fun b=>?_)|refine ZA ?_|refine ZB ?_|refine ZR ?_|refine ZF (v3) (fun _ _=>?_)|refine l_call0 (v3) (fun _ _=>?_)|refine ZC (fun hc=>?_) (fun hc=>?_))
 refine l_usg a.kind.toNat (klt hk) (fun T' o ho=>?_)
 rw [hu]
 repeat' (first|refine ZH ?_|refine ZG ?_|refine ZK ?_|refine ZI ?_|refine ZP ?_|refine ZJ ?_|refine ZM ?_|refine ZN (fun b=>?_)|refine ZO (fun b=>?_)|refine ZA ?_|refine ZB ?_|refine ZR ?_|refine ZF (v1) (fun _ _=>?_)|refine l_call0 (v1) (fun _ _=>?_)|refine ZF (v2) (fun _ _=>?_)|refine l_call0 (v2) (fun _ _=>?_)|refine ZF (Zz _ _) (fun _ _=>?_)|refine l_call0 (Zz _ _) (fun _ _=>?_)|refine Zm ?_|refine ZC (fun hc=>?_) (fun hc=>?_)|refine ZE (fun hc=>?_) (fun hc=>?_))
 all_goals (refine ZS () ?_ trivial;rw [←hr];clear hr v1 v2 v3 hu hk e3;simp only [cond_true,Bool.not_false] at *;simp_all [isE,within,resV,RetV])
theorem chk_TTFF (a:Nm) (ha:a.owner.size≤1099511627776) (ht:a.text.size≤1099511627776) (hk:1≤a.kind∧a.kind≤20) (uw:ByteArray) (um:Int) (hu:usages[a.kind.toNat]'(klt hk)=⟨uw,true,true,false,false,um⟩) :
  Enters 113∧Spec prog 113 #[a.v] [Usg] [] (RetV (.int .i64 (uchk ⟨uw,true,true,false,false,um⟩ a))):=by
 have v1:=YS a.owner ha
 have v2:=XE a.text ht
 have v3:=YT a.kind
 have e3:(decide (1≤a.kind) && decide (a.kind≤20))=true:=by simp [hk]
 rw [e3] at v3
 generalize hr:uchk ⟨uw,true,true,false,false,um⟩ a=r
 unfold uchk at hr
 simp only [Bool.not_false,Bool.not_true,Bool.true_and,Bool.false_and,Bool.or_false,Bool.false_or] at hr
 refine Zb [_] func113 ntmps113 fun G w hp=>?_
 repeat' (first|refine ZH ?_|refine ZG ?_|refine ZK ?_|refine ZI ?_|refine ZP ?_|refine ZJ ?_|refine ZM ?_|refine ZN (fun b=>?_)|refine ZO (fun b=>?_)|refine ZA ?_|refine ZB ?_|refine ZR ?_|refine ZF (v3) (fun _ _=>?_)|refine l_call0 (v3) (fun _ _=>?_)|refine ZC (fun hc=>?_) (fun hc=>?_))
 refine l_usg a.kind.toNat (klt hk) (fun T' o ho=>?_)
 rw [hu]
 repeat' (first|refine ZH ?_|refine ZG ?_|refine ZK ?_|refine ZI ?_|refine ZP ?_|refine ZJ ?_|refine ZM ?_|refine ZN (fun b=>?_)|refine ZO (fun b=>?_)|refine ZA ?_|refine ZB ?_|refine ZR ?_|refine ZF (v1) (fun _ _=>?_)|refine l_call0 (v1) (fun _ _=>?_)|refine ZF (v2) (fun _ _=>?_)|refine l_call0 (v2) (fun _ _=>?_)|refine ZF (Zz _ _) (fun _ _=>?_)|refine l_call0 (Zz _ _) (fun _ _=>?_)|refine Zm ?_|refine ZC (fun hc=>?_) (fun hc=>?_)|refine ZE (fun hc=>?_) (fun hc=>?_))
 all_goals (refine ZS () ?_ trivial;rw [←hr];clear hr v1 v2 v3 hu hk e3;simp only [cond_true,Bool.not_false] at *;simp_all [isE,within,resV,RetV])
theorem chk_TTTF (a:Nm) (ha:a.owner.size≤1099511627776) (ht:a.text.size≤1099511627776) (hk:1≤a.kind∧a.kind≤20) (uw:ByteArray) (um:Int) (hu:usages[a.kind.toNat]'(klt hk)=⟨uw,true,true,true,false,um⟩) :
  Enters 113∧Spec prog 113 #[a.v] [Usg] [] (RetV (.int .i64 (uchk ⟨uw,true,true,true,false,um⟩ a))):=by
 have v1:=YS a.owner ha
 have v2:=XE a.text ht
 have v3:=YT a.kind
 have e3:(decide (1≤a.kind) && decide (a.kind≤20))=true:=by simp [hk]
 rw [e3] at v3
 generalize hr:uchk ⟨uw,true,true,true,false,um⟩ a=r
 unfold uchk at hr
 simp only [Bool.not_false,Bool.not_true,Bool.true_and,Bool.false_and,Bool.or_false,Bool.false_or] at hr
 refine Zb [_] func113 ntmps113 fun G w hp=>?_
 repeat' (first|refine ZH ?_|refine ZG ?_|refine ZK ?_|refine ZI ?_|refine ZP ?_|refine ZJ ?_|refine ZM ?_|refine ZN (fun b=>?_)|refine ZO (fun b=>?_)|refine ZA ?_|refine ZB ?_|refine ZR ?_|refine ZF (v3) (fun _ _=>?_)|refine l_call0 (v3) (fun _ _=>?_)|refine ZC (fun hc=>?_) (fun hc=>?_))
 refine l_usg a.kind.toNat (klt hk) (fun T' o ho=>?_)
 rw [hu]
 repeat' (first|refine ZH ?_|refine ZG ?_|refine ZK ?_|refine ZI ?_|refine ZP ?_|refine ZJ ?_|refine ZM ?_|refine ZN (fun b=>?_)|refine ZO (fun b=>?_)|refine ZA ?_|refine ZB ?_|refine ZR ?_|refine ZF (v1) (fun _ _=>?_)|refine l_call0 (v1) (fun _ _=>?_)|refine ZF (v2) (fun _ _=>?_)|refine l_call0 (v2) (fun _ _=>?_)|refine ZF (Zz _ _) (fun _ _=>?_)|refine l_call0 (Zz _ _) (fun _ _=>?_)|refine Zm ?_|refine ZC (fun hc=>?_) (fun hc=>?_)|refine ZE (fun hc=>?_) (fun hc=>?_))
 all_goals (refine ZS () ?_ trivial;rw [←hr];clear hr v1 v2 v3 hu hk e3;simp only [cond_true,Bool.not_false] at *;simp_all [isE,within,resV,RetV])
theorem chk_TTFT (a:Nm) (ha:a.owner.size≤1099511627776) (ht:a.text.size≤1099511627776) (hk:1≤a.kind∧a.kind≤20) (uw:ByteArray) (um:Int) (hu:usages[a.kind.toNat]'(klt hk)=⟨uw,true,true,false,true,um⟩) :
  Enters 113∧Spec prog 113 #[a.v] [Usg] [] (RetV (.int .i64 (uchk ⟨uw,true,true,false,true,um⟩ a))):=by
 have v1:=YS a.owner ha
 have v2:=XE a.text ht
 have v3:=YT a.kind
 have e3:(decide (1≤a.kind) && decide (a.kind≤20))=true:=by simp [hk]
 rw [e3] at v3
 generalize hr:uchk ⟨uw,true,true,false,true,um⟩ a=r
 unfold uchk at hr
 simp only [Bool.not_false,Bool.not_true,Bool.true_and,Bool.false_and,Bool.or_false,Bool.false_or] at hr
 refine Zb [_] func113 ntmps113 fun G w hp=>?_
 repeat' (first|refine ZH ?_|refine ZG ?_|refine ZK ?_|refine ZI ?_|refine ZP ?_|refine ZJ ?_|refine ZM ?_|refine ZN (fun b=>?_)|refine ZO (fun b=>?_)|refine ZA ?_|refine ZB ?_|refine ZR ?_|refine ZF (v3) (fun _ _=>?_)|refine l_call0 (v3) (fun _ _=>?_)|refine ZC (fun hc=>?_) (fun hc=>?_))
 refine l_usg a.kind.toNat (klt hk) (fun T' o ho=>?_)
 rw [hu]
 repeat' (first|refine ZH ?_|refine ZG ?_|refine ZK ?_|refine ZI ?_|refine ZP ?_|refine ZJ ?_|refine ZM ?_|refine ZN (fun b=>?_)|refine ZO (fun b=>?_)|refine ZA ?_|refine ZB ?_|refine ZR ?_|refine ZF (v1) (fun _ _=>?_)|refine l_call0 (v1) (fun _ _=>?_)|refine ZF (v2) (fun _ _=>?_)|refine l_call0 (v2) (fun _ _=>?_)|refine ZF (Zz _ _) (fun _ _=>?_)|refine l_call0 (Zz _ _) (fun _ _=>?_)|refine Zm ?_|refine ZC (fun hc=>?_) (fun hc=>?_)|refine ZE (fun hc=>?_) (fun hc=>?_))
 all_goals (refine ZS () ?_ trivial;rw [←hr];clear hr v1 v2 v3 hu hk e3;simp only [cond_true,Bool.not_false] at *;simp_all [within,resV,RetV])
theorem chk_FTFF (a:Nm) (ha:a.owner.size≤1099511627776) (ht:a.text.size≤1099511627776) (hk:1≤a.kind∧a.kind≤20) (uw:ByteArray) (um:Int) (hu:usages[a.kind.toNat]'(klt hk)=⟨uw,false,true,false,false,um⟩) :
  Enters 113∧Spec prog 113 #[a.v] [Usg] [] (RetV (.int .i64 (uchk ⟨uw,false,true,false,false,um⟩ a))):=by
 have v1:=YS a.owner ha
 have v2:=XE a.text ht
 have v3:=YT a.kind
 have e3:(decide (1≤a.kind) && decide (a.kind≤20))=true:=by simp [hk]
 rw [e3] at v3
 generalize hr:uchk ⟨uw,false,true,false,false,um⟩ a=r
 unfold uchk at hr
 simp only [Bool.not_false,Bool.not_true,Bool.true_and,Bool.false_and,Bool.or_false] at hr
 refine Zb [_] func113 ntmps113 fun G w hp=>?_
 repeat' (first|refine ZH ?_|refine ZG ?_|refine ZK ?_|refine ZI ?_|refine ZP ?_|refine ZJ ?_|refine ZM ?_|refine ZN (fun b=>?_)|refine ZO (fun b=>?_)|refine ZA ?_|refine ZB ?_|refine ZR ?_|refine ZF (v3) (fun _ _=>?_)|refine l_call0 (v3) (fun _ _=>?_)|refine ZC (fun hc=>?_) (fun hc=>?_))
 refine l_usg a.kind.toNat (klt hk) (fun T' o ho=>?_)
 rw [hu]
 repeat' (first|refine ZH ?_|refine ZG ?_|refine ZK ?_|refine ZI ?_|refine ZP ?_|refine ZJ ?_|refine ZM ?_|refine ZN (fun b=>?_)|refine ZO (fun b=>?_)|refine ZA ?_|refine ZB ?_|refine ZR ?_|refine ZF (v1) (fun _ _=>?_)|refine l_call0 (v1) (fun _ _=>?_)|refine ZF (v2) (fun _ _=>?_)|refine l_call0 (v2) (fun _ _=>?_)|refine ZF (Zz _ _) (fun _ _=>?_)|refine l_call0 (Zz _ _) (fun _ _=>?_)|refine Zm ?_|refine ZC (fun hc=>?_) (fun hc=>?_)|refine ZE (fun hc=>?_) (fun hc=>?_))
 all_goals (refine ZS () ?_ trivial;rw [←hr];clear hr v1 v2 v3 hu hk e3;simp only [cond_true,Bool.not_false] at *;simp_all [isE,within,resV,RetV])
theorem chk_FFFT (a:Nm) (ha:a.owner.size≤1099511627776) (ht:a.text.size≤1099511627776) (hk:1≤a.kind∧a.kind≤20) (uw:ByteArray) (um:Int) (hu:usages[a.kind.toNat]'(klt hk)=⟨uw,false,false,false,true,um⟩) :
  Enters 113∧Spec prog 113 #[a.v] [Usg] [] (RetV (.int .i64 (uchk ⟨uw,false,false,false,true,um⟩ a))):=by
 have v1:=YS a.owner ha
 have v2:=XE a.text ht
 have v3:=YT a.kind
 have e3:(decide (1≤a.kind) && decide (a.kind≤20))=true:=by simp [hk]
 rw [e3] at v3
 generalize hr:uchk ⟨uw,false,false,false,true,um⟩ a=r
 unfold uchk at hr
 simp only [Bool.not_false,Bool.not_true,Bool.true_and,Bool.false_and,Bool.or_false] at hr
 refine Zb [_] func113 ntmps113 fun G w hp=>?_
 repeat' (first|refine ZH ?_|refine ZG ?_|refine ZK ?_|refine ZI ?_|refine ZP ?_|refine ZJ ?_|refine ZM ?_|refine ZN (fun b=>?_)|refine ZO (fun b=>?_)|refine ZA ?_|refine ZB ?_|refine ZR ?_|refine ZF (v3) (fun _ _=>?_)|refine l_call0 (v3) (fun _ _=>?_)|refine ZC (fun hc=>?_) (fun hc=>?_))
 refine l_usg a.kind.toNat (klt hk) (fun T' o ho=>?_)
 rw [hu]
 repeat' (first|refine ZH ?_|refine ZG ?_|refine ZK ?_|refine ZI ?_|refine ZP ?_|refine ZJ ?_|refine ZM ?_|refine ZN (fun b=>?_)|refine ZO (fun b=>?_)|refine ZA ?_|refine ZB ?_|refine ZR ?_|refine ZF (v1) (fun _ _=>?_)|refine l_call0 (v1) (fun _ _=>?_)|refine ZF (v2) (fun _ _=>?_)|refine l_call0 (v2) (fun _ _=>?_)|refine ZF (Zz _ _) (fun _ _=>?_)|refine l_call0 (Zz _ _) (fun _ _=>?_)|refine Zm ?_|refine ZC (fun hc=>?_) (fun hc=>?_)|refine ZE (fun hc=>?_) (fun hc=>?_))
 all_goals (refine ZS () ?_ trivial;rw [←hr];clear hr v1 v2 v3 hu hk e3;simp only [cond_true,Bool.not_false] at *;simp_all [isE,resV,RetV])
theorem chk_FFFF (a:Nm) (ha:a.owner.size≤1099511627776) (ht:a.text.size≤1099511627776) (hk:1≤a.kind∧a.kind≤20) (uw:ByteArray) (um:Int) (hu:usages[a.kind.toNat]'(klt hk)=⟨uw,false,false,false,false,um⟩) :
  Enters 113∧Spec prog 113 #[a.v] [Usg] [] (RetV (.int .i64 (uchk ⟨uw,false,false,false,false,um⟩ a))):=by
 have v1:=YS a.owner ha
 have v2:=XE a.text ht
 have v3:=YT a.kind
 have e3:(decide (1≤a.kind) && decide (a.kind≤20))=true:=by simp [hk]
 rw [e3] at v3
 generalize hr:uchk ⟨uw,false,false,false,false,um⟩ a=r
 unfold uchk at hr
 simp only [Bool.not_false,Bool.true_and,Bool.false_and,Bool.or_false] at hr
 refine Zb [_] func113 ntmps113 fun G w hp=>?_
 repeat' (first|refine ZH ?_|refine ZG ?_|refine ZK ?_|refine ZI ?_|refine ZP ?_|refine ZJ ?_|refine ZM ?_|refine ZN (fun b=>?_)|refine ZO (fun b=>?_)|refine ZA ?_|refine ZB ?_|refine ZR ?_|refine ZF (v3) (fun _ _=>?_)|refine l_call0 (v3) (fun _ _=>?_)|refine ZC (fun hc=>?_) (fun hc=>?_))
 refine l_usg a.kind.toNat (klt hk) (fun T' o ho=>?_)
 rw [hu]
 repeat' (first|refine ZH ?_|refine ZG ?_|refine ZK ?_|refine ZI ?_|refine ZP ?_|refine ZJ ?_|refine ZM ?_|refine ZN (fun b=>?_)|refine ZO (fun b=>?_)|refine ZA ?_|refine ZB ?_|refine ZR ?_|refine ZF (v1) (fun _ _=>?_)|refine l_call0 (v1) (fun _ _=>?_)|refine ZF (v2) (fun _ _=>?_)|refine l_call0 (v2) (fun _ _=>?_)|refine ZF (Zz _ _) (fun _ _=>?_)|refine l_call0 (Zz _ _) (fun _ _=>?_)|refine Zm ?_|refine ZC (fun hc=>?_) (fun hc=>?_)|refine ZE (fun hc=>?_) (fun hc=>?_))
 all_goals (refine ZS () ?_ trivial;rw [←hr];clear hr v1 v2 v3 hu hk e3;simp only [cond_true,Bool.not_false] at *;simp_all [isE,resV,RetV])
def okf (u:Usage):Bool:=(u.owner || !u.index) && (u.owner || !(u.number && u.text)) && !(u.index && u.text) && (!(u.owner && u.text) || u.number)
theorem okf_all:usages.all okf=true:=by decide
theorem nameCheck_ok (a:Nm) (ha:a.owner.size≤1099511627776) (ht:a.text.size≤1099511627776):Enters 113∧Spec prog 113 #[a.v] [Usg] [] (RetV (.int .i64 (nchk a))):=by
 by_cases hk:1≤a.kind∧a.kind≤20
 ·have hn:nchk a=uchk (usages[a.kind.toNat]'(klt hk)) a:=by
   rw [nchk,if_pos hk,List.getD_eq_getElem?_getD,List.getElem?_eq_getElem (klt hk),Option.getD_some]
  rw [hn]
  have hu:okf (usages[a.kind.toNat]'(klt hk))=true:=List.all_eq_true.1 okf_all _ (List.getElem_mem (klt hk))
  generalize hus:usages[a.kind.toNat]'(klt hk)=u at *
  obtain ⟨uw,uo,un,ui,ut,um⟩:=u
  cases uo<;>cases un<;>cases ui<;>cases ut
  all_goals first
   | (simp [okf] at hu;done)
   | exact chk_TFFF a ha ht hk _ _ hus
   | exact chk_TFTF a ha ht hk _ _ hus
   | exact chk_TTFF a ha ht hk _ _ hus
   | exact chk_TTTF a ha ht hk _ _ hus
   | exact chk_TTFT a ha ht hk _ _ hus
   | exact chk_FTFF a ha ht hk _ _ hus
   | exact chk_FFFT a ha ht hk _ _ hus
   | exact chk_FFFF a ha ht hk _ _ hus
 ·have hn:nchk a=11:=by rw [nchk,if_neg hk]
  rw [hn]
  have v3:=YT a.kind
  have e3:(decide (1≤a.kind) && decide (a.kind≤20))=false:=by simp;omega
  rw [e3] at v3
  refine Zb [_] func113 ntmps113 fun G w hp=>?_
  repeat' (first|refine ZH ?_|refine ZG ?_|refine ZK ?_|refine ZI ?_|refine ZP ?_|refine ZJ ?_|refine ZM ?_|refine ZN (fun b=>?_)|refine ZO (fun b=>?_)|refine ZA ?_|refine ZB ?_|refine ZR ?_|refine ZF (v3) (fun _ _=>?_)|refine l_call0 (v3) (fun _ _=>?_)|refine ZC (fun hc=>?_) (fun hc=>?_)|refine ZE (fun hc=>?_) (fun hc=>?_))
  exact ZS () rfl trivial
end Go.Proofs.YtdkndahndgkmnaaGreatDoor
namespace Go.Proofs.YtdkndahndgkmnaaGreatDoor
open Go.RowKit Go.Proofs.Tryz
variable {n:Nat} {C:Cx} {Q:Exit→Act→World→Prop} {E E':List (Nat×Value)} {F F1:List Pf} {R R0:List HP} {k:List Fr} {ops:List Oper}
section
variable {l:List Oper}
theorem k_mk {f:Pf} (h:∀hp,(∀x ∈ F1,x.p hp)→f.p hp) (t:Wk n C k Q E (f::F) R) (hF:EntF F F1:=by (repeat (first|exact trivial|exact Sel.here|apply Sel.there|apply EntF.cons));first|done|fail):Wk n C k Q E F R:=
 fun a w ha ⟨hp,_,st⟩=>t a w ha (Yw st (h hp (hF.all hp st.f)))
theorem l_mk {f:Pf} (h:∀hp,(∀x ∈ F1,x.p hp)→f.p hp) (t:Wl n C ops.toArray k Q l E (f::F) R) (hF:EntF F F1:=by (repeat (first|exact trivial|exact Sel.here|apply Sel.there|apply EntF.cons));first|done|fail):Wl n C ops.toArray k Q l E F R:=
 fun a w ha ⟨hp,_,st⟩=>t a w ha (Yw st (h hp (hF.all hp st.f)))
end
abbrev ndc (pl pr:Option Addr) (a:Nm) (v:ByteArray) (h s b:Int):Obj:=.cells #[.pointer pl,.pointer pr,.int .i64 a.kind,.string a.owner,.int .i64 a.number,.int .i64 a.index,.string a.text,.string v,.int .i64 h,.int .i64 s,.int .i64 b] 238
def TrP:Option Addr→Tr→H→Prop
 | p,.nil,_=>p=none
 | p,.node l a v r,h=>∃b pl pr,p=some ⟨b,0,none⟩∧h b=some (ndc pl pr a v (Tr.node l a v r).ht (Tr.node l a v r).sz (Tr.node l a v r).by_)∧TrP pl l h∧TrP pr r h
theorem Wf:∀(t:Tr) (p:Option Addr) (h k:H),Sub h k→TrP p t h→TrP p t k
 | .nil,_,_,_,_,hh=>hh
 | .node l _ _ r,_,h,k,s,⟨b,pl,pr,h1,h2,h3,h4⟩=>⟨b,pl,pr,h1,s _ _ h2,Wf l pl h k s h3,Wf r pr h k s h4⟩
def TrF (p:Option Addr) (t:Tr):Pf:=⟨TrP p t,Wf t p⟩
def Nd (p:Option Addr) (a:Nm) (v:ByteArray):Pf:=⟨fun h=>∃b pl pr x y z,p=some ⟨b,0,none⟩∧h b=some (ndc pl pr a v x y z),fun _ _ s ⟨b,pl,pr,x,y,z,h1,h2⟩=>⟨b,pl,pr,x,y,z,h1,s _ _ h2⟩⟩
theorem ZV (p:Option Addr) (t:Tr):Enters 208∧Spec prog 208 #[.pointer p] [TrF p t] [] (RetV (.int .i64 (t.ht:Int))):=by
 refine Zb [_] func208 ntmps208 fun G w hp=>?_
 cases t with
 | nil=>
  refine Z1 (X:=Unit) (Fx:=fun _=>[]) (p:=fun _=>p=none) (f:=TrF p .nil) .here (fun h hh=>⟨(),hh,fun _ hx=>by cases hx⟩) (fun _ hp=>?_)
  subst hp
  repeat' (first|refine ZH ?_|refine ZG ?_|refine ZK ?_|refine ZI ?_|refine ZP ?_|refine ZJ ?_|refine ZM ?_|refine ZN (fun b=>?_)|refine ZO (fun b=>?_)|refine ZA ?_|refine ZB ?_|refine ZR ?_|refine ZC (fun hc=>?_) (fun hc=>?_)|refine ZE (fun hc=>?_) (fun hc=>?_))
  exact ZS () rfl trivial
 | node l a v r=>
  refine Z1 (X:=Nat×Option Addr×Option Addr) (Fx:=fun x=>[Blk x.1 (ndc x.2.1 x.2.2 a v (Tr.node l a v r).ht (Tr.node l a v r).sz (Tr.node l a v r).by_)]) (p:=fun x=>p=some ⟨x.1,0,none⟩) (f:=TrF p (.node l a v r)) .here (fun h ⟨b,pl,pr,h1,h2,_,_⟩=>⟨(b,pl,pr),h1,fun f hf=>by simp at hf;subst hf;exact h2⟩) (fun x hp=>?_)
  subst hp
  repeat' (first|refine ZH ?_|refine ZG ?_|refine ZK ?_|refine ZI ?_|refine ZP ?_|refine ZJ ?_|refine ZM ?_|refine ZN (fun b=>?_)|refine ZO (fun b=>?_)|refine ZA ?_|refine ZB ?_|refine ZR ?_|refine ZC (fun hc=>?_) (fun hc=>?_)|refine ZE (fun hc=>?_) (fun hc=>?_))
  exact ZS () rfl trivial
theorem Yd (p:Option Addr) (t:Tr):Enters 170∧Spec prog 170 #[.pointer p] [TrF p t] [] (RetV (.int .i64 (t.sz:Int))):=by
 refine Zb [_] func170 ntmps170 fun G w hp=>?_
 cases t with
 | nil=>
  refine Z1 (X:=Unit) (Fx:=fun _=>[]) (p:=fun _=>p=none) (f:=TrF p .nil) .here (fun h hh=>⟨(),hh,fun _ hx=>by cases hx⟩) (fun _ hp=>?_)
  subst hp
  repeat' (first|refine ZH ?_|refine ZG ?_|refine ZK ?_|refine ZI ?_|refine ZP ?_|refine ZJ ?_|refine ZM ?_|refine ZN (fun b=>?_)|refine ZO (fun b=>?_)|refine ZA ?_|refine ZB ?_|refine ZR ?_|refine ZC (fun hc=>?_) (fun hc=>?_)|refine ZE (fun hc=>?_) (fun hc=>?_))
  exact ZS () rfl trivial
 | node l a v r=>
  refine Z1 (X:=Nat×Option Addr×Option Addr) (Fx:=fun x=>[Blk x.1 (ndc x.2.1 x.2.2 a v (Tr.node l a v r).ht (Tr.node l a v r).sz (Tr.node l a v r).by_)]) (p:=fun x=>p=some ⟨x.1,0,none⟩) (f:=TrF p (.node l a v r)) .here (fun h ⟨b,pl,pr,h1,h2,_,_⟩=>⟨(b,pl,pr),h1,fun f hf=>by simp at hf;subst hf;exact h2⟩) (fun x hp=>?_)
  subst hp
  repeat' (first|refine ZH ?_|refine ZG ?_|refine ZK ?_|refine ZI ?_|refine ZP ?_|refine ZJ ?_|refine ZM ?_|refine ZN (fun b=>?_)|refine ZO (fun b=>?_)|refine ZA ?_|refine ZB ?_|refine ZR ?_|refine ZC (fun hc=>?_) (fun hc=>?_)|refine ZE (fun hc=>?_) (fun hc=>?_))
  exact ZS () rfl trivial
theorem Yt (p:Option Addr) (t:Tr):Enters 209∧Spec prog 209 #[.pointer p] [TrF p t] [] (RetV (.int .i64 (t.by_:Int))):=by
 refine Zb [_] func209 ntmps209 fun G w hp=>?_
 cases t with
 | nil=>
  refine Z1 (X:=Unit) (Fx:=fun _=>[]) (p:=fun _=>p=none) (f:=TrF p .nil) .here (fun h hh=>⟨(),hh,fun _ hx=>by cases hx⟩) (fun _ hp=>?_)
  subst hp
  repeat' (first|refine ZH ?_|refine ZG ?_|refine ZK ?_|refine ZI ?_|refine ZP ?_|refine ZJ ?_|refine ZM ?_|refine ZN (fun b=>?_)|refine ZO (fun b=>?_)|refine ZA ?_|refine ZB ?_|refine ZR ?_|refine ZC (fun hc=>?_) (fun hc=>?_)|refine ZE (fun hc=>?_) (fun hc=>?_))
  exact ZS () rfl trivial
 | node l a v r=>
  refine Z1 (X:=Nat×Option Addr×Option Addr) (Fx:=fun x=>[Blk x.1 (ndc x.2.1 x.2.2 a v (Tr.node l a v r).ht (Tr.node l a v r).sz (Tr.node l a v r).by_)]) (p:=fun x=>p=some ⟨x.1,0,none⟩) (f:=TrF p (.node l a v r)) .here (fun h ⟨b,pl,pr,h1,h2,_,_⟩=>⟨(b,pl,pr),h1,fun f hf=>by simp at hf;subst hf;exact h2⟩) (fun x hp=>?_)
  subst hp
  repeat' (first|refine ZH ?_|refine ZG ?_|refine ZK ?_|refine ZI ?_|refine ZP ?_|refine ZJ ?_|refine ZM ?_|refine ZN (fun b=>?_)|refine ZO (fun b=>?_)|refine ZA ?_|refine ZB ?_|refine ZR ?_|refine ZC (fun hc=>?_) (fun hc=>?_)|refine ZE (fun hc=>?_) (fun hc=>?_))
  exact ZS () rfl trivial
theorem Zk (pl pm pr:Option Addr) (l r:Tr) (a:Nm) (v:ByteArray) (hs:l.sz+r.sz≤1099511627776) (hb:v.size+l.by_+r.by_≤1152921504606846976):Enters 171∧Spec prog 171 #[.pointer pl,.pointer pm,.pointer pr] [TrF pl l,Nd pm a v,TrF pr r] []
  ⟨Nat,fun b=>.pointer (some ⟨b,0,none⟩),fun _=>True,fun b=>[TrF (some ⟨b,0,none⟩) (.node l a v r)],fun _=>[]⟩:=by
 have hl:=l.ht_sz
 have hr:=r.ht_sz
 refine Zb [_,_,_] func171 ntmps171 fun G w hp=>?_
 refine Z1 (X:=Nat×Option Addr×Option Addr×Int×Int×Int) (Fx:=fun x=>[Blk x.1 (ndc x.2.1 x.2.2.1 a v x.2.2.2.1 x.2.2.2.2.1 x.2.2.2.2.2)]) (p:=fun x=>pm=some ⟨x.1,0,none⟩) (f:=Nd pm a v) (.there .here) (fun h ⟨b,pl,pr,x,y,z,h1,h2⟩=>⟨(b,pl,pr,x,y,z),h1,fun f hf=>by simp at hf;subst hf;exact h2⟩) (fun x hp=>?_)
 subst hp
 repeat' (first|refine ZH ?_|refine ZG ?_|refine ZK ?_|refine ZI ?_|refine ZP ?_|refine ZJ ?_|refine ZM ?_|refine ZN (fun b=>?_)|refine ZO (fun b=>?_)|refine ZA ?_|refine ZB ?_|refine ZR ?_|refine ZZ ?_|refine ZW ?_|refine Zf ?_|refine Za ?_|refine ZY ?_|refine Ze (fun b=>?_)|refine Zg (fun b=>?_)|refine Zd ?_|refine ZX ?_|refine ZF (ZV pl l) (fun _ _=>?_)|refine l_call0 (ZV pl l) (fun _ _=>?_)|refine ZT (ZV pl l) (fun _ _=>?_)|refine ZF (ZV pr r) (fun _ _=>?_)|refine l_call0 (ZV pr r) (fun _ _=>?_)|refine ZT (ZV pr r) (fun _ _=>?_)|refine ZF (Yd pl l) (fun _ _=>?_)|refine l_call0 (Yd pl l) (fun _ _=>?_)|refine ZT (Yd pl l) (fun _ _=>?_)|refine ZF (Yd pr r) (fun _ _=>?_)|refine l_call0 (Yd pr r) (fun _ _=>?_)|refine ZT (Yd pr r) (fun _ _=>?_)|refine ZF (Yt pl l) (fun _ _=>?_)|refine l_call0 (Yt pl l) (fun _ _=>?_)|refine ZT (Yt pl l) (fun _ _=>?_)|refine ZF (Yt pr r) (fun _ _=>?_)|refine l_call0 (Yt pr r) (fun _ _=>?_)|refine ZT (Yt pr r) (fun _ _=>?_)|refine ZC (fun hc=>?_) (fun hc=>?_)|refine ZL (fun hc=>?_) (fun hc=>?_)|refine ZD 1 [] [(0,0),(1,0),(2,0),(3,0),(4,0),(5,0),(6,0),(7,0),(8,0),(9,0),(10,0),(12,0),(16,0),(19,0),(22,0),(23,0),(24,0),(25,0),(26,0),(27,0),(30,0),(11,4),(13,4),(14,0),(15,0),(17,4),(18,0),(20,4),(21,0),(28,4),(29,0),(31,4),(32,0),(33,0),(34,1),(35,0)] [] ?_|refine ZE (fun hc=>?_) (fun hc=>?_))
 have e1:IntKind.i64.wrap (1+if (l.ht:Int)<r.ht then (r.ht:Int) else l.ht)=((Tr.node l a v r).ht:Int):=by
  rw [wrapi (by split<;>omega) (by split<;>omega)];simp only [Tr.ht];split<;>omega
 have e2:IntKind.i64.wrap (IntKind.i64.wrap (1+(l.sz:Int))+r.sz)=((Tr.node l a v r).sz:Int):=by
  rw [wrapi (z:=1+(l.sz:Int)) (by omega) (by omega),wrapi (by omega) (by omega)];simp only [Tr.sz];omega
 have e3:IntKind.i64.wrap (IntKind.i64.wrap ((v.size:Int)+l.by_)+r.by_)=((Tr.node l a v r).by_:Int):=by
  rw [wrapi (z:=(v.size:Int)+l.by_) (by omega) (by omega),wrapi (by omega) (by omega)];simp only [Tr.by_];omega
 rw [e1,e2,e3]
 refine YZ ?_
 refine k_mk (F1:=[Blk b (ndc pl pr a v (Tr.node l a v r).ht (Tr.node l a v r).sz (Tr.node l a v r).by_),TrF pl l,TrF pr r]) (f:=TrF (some ⟨b,0,none⟩) (.node l a v r)) (fun hp hF=>⟨b,pl,pr,rfl,hF (Blk b (ndc pl pr a v (Tr.node l a v r).ht (Tr.node l a v r).sz (Tr.node l a v r).by_)) (by simp),hF (TrF pl l) (by simp),hF (TrF pr r) (by simp)⟩) ?_
 exact ZS b rfl trivial
theorem nd_of {p:Option Addr} {l r:Tr} {a:Nm} {v:ByteArray} {h:H} (hh:TrP p (.node l a v r) h):(Nd p a v).p h:=
 let ⟨b,pl,pr,h1,h2,_,_⟩:=hh
 ⟨b,pl,pr,_,_,_,h1,h2⟩
variable {F0:List Pf}
section
variable {l:List Oper}
theorem k_tr {p:Option Addr} {l r:Tr} {a:Nm} {v:ByteArray} (t:∀b pl pr,p=some ⟨b,0,none⟩→Wk n C k Q E (Blk b (ndc pl pr a v (Tr.node l a v r).ht (Tr.node l a v r).sz (Tr.node l a v r).by_)::Nd p a v::TrF pl l::TrF pr r::F) R) (hs:Sel (TrF p (.node l a v r)) F F0:=by (repeat (first|exact Sel.here|apply Sel.there));first|done|fail):Wk n C k Q E F R:=by
 refine Z1 (X:=Nat×Option Addr×Option Addr) (Fx:=fun x=>[Blk x.1 (ndc x.2.1 x.2.2 a v (Tr.node l a v r).ht (Tr.node l a v r).sz (Tr.node l a v r).by_),Nd p a v,TrF x.2.1 l,TrF x.2.2 r]) (p:=fun x=>p=some ⟨x.1,0,none⟩) (f:=TrF p (.node l a v r)) hs (fun h hh=>?_) (fun x hp=>t x.1 x.2.1 x.2.2 hp)
 have hn:=nd_of hh
 obtain ⟨b,pl,pr,h1,h2,h3,h4⟩:=hh
 refine ⟨(b,pl,pr),h1,fun f hf=>?_⟩
 simp only [List.mem_cons,List.not_mem_nil,or_false] at hf
 rcases hf with rfl|rfl|rfl|rfl
 ·exact h2
 ·exact hn
 ·exact h3
 ·exact h4
theorem k_trn {p:Option Addr} (t:p=none→Wk n C k Q E F R) (hs:Sel (TrF p .nil) F F0:=by (repeat (first|exact Sel.here|apply Sel.there));first|done|fail):Wk n C k Q E F R:=
 Z1 (X:=Unit) (Fx:=fun _=>[]) (p:=fun _=>p=none) (f:=TrF p .nil) hs (fun h hh=>⟨(),hh,fun _ hx=>by cases hx⟩) (fun _ hp=>t hp)
end
set_option maxHeartbeats 2000000 in
theorem Ym (pl pm pr:Option Addr) (l r:Tr) (a:Nm) (v:ByteArray) (hs:l.sz+r.sz≤1099511627776) (hb:v.size+l.by_+r.by_≤1152921504606846976):Enters 169∧Spec prog 169 #[.pointer pl,.pointer pm,.pointer pr] [TrF pl l,Nd pm a v,TrF pr r] []
  ⟨Nat,fun b=>.pointer (some ⟨b,0,none⟩),fun _=>True,fun b=>[TrF (some ⟨b,0,none⟩) (Tr.bal l a v r)],fun _=>[]⟩:=by
 have hl:=l.ht_sz
 have hr:=r.ht_sz
 have w1:=wrapi (z:=(l.ht:Int) - r.ht) (by omega) (by omega)
 refine Zb [_,_,_] func169 ntmps169 fun G w hp=>?_
 generalize hbal:Tr.bal l a v r=t
 unfold Tr.bal at hbal
 have k1:=hs
 have k2:=hb
 by_cases h1:r.ht+1<l.ht
 ·rw [if_pos h1] at hbal
  cases l with
  | nil=>simp [Tr.ht] at h1
  | node ll la lv lr=>
   dsimp only at hbal
   simp only [Tr.sz] at k1
   simp only [Tr.by_] at k2
   refine k_tr (p:=pl) (l:=ll) (r:=lr) (a:=la) (v:=lv) (fun b pll plr hp=>?_)
   subst hp
   by_cases h2:lr.ht≤ll.ht
   ·rw [if_pos h2] at hbal
    subst hbal
    repeat' (first|refine ZH ?_|refine ZG ?_|refine ZK ?_|refine ZI ?_|refine ZP ?_|refine ZJ ?_|refine ZM ?_|refine ZN (fun b=>?_)|refine ZO (fun b=>?_)|refine ZA ?_|refine ZB ?_|refine ZR ?_|refine ZZ ?_|refine ZW ?_|refine Zf ?_|refine Za ?_|refine ZY ?_|refine Ze (fun b=>?_)|refine Zg (fun b=>?_)|refine Zd ?_|refine ZX ?_|refine ZF (ZV _ (Tr.node ll la lv lr)) (fun _ _=>?_)|refine l_call0 (ZV _ (Tr.node ll la lv lr)) (fun _ _=>?_)|refine ZT (ZV _ (Tr.node ll la lv lr)) (fun _ _=>?_)|refine ZF (ZV pr r) (fun _ _=>?_)|refine l_call0 (ZV pr r) (fun _ _=>?_)|refine ZT (ZV pr r) (fun _ _=>?_)|refine ZF (ZV pll ll) (fun _ _=>?_)|refine l_call0 (ZV pll ll) (fun _ _=>?_)|refine ZT (ZV pll ll) (fun _ _=>?_)|refine ZF (ZV plr lr) (fun _ _=>?_)|refine l_call0 (ZV plr lr) (fun _ _=>?_)|refine ZT (ZV plr lr) (fun _ _=>?_)|refine ZF (Zk plr pm pr lr r a v (by first|omega|(simp only [Tr.sz];omega)) (by first|omega|(simp only [Tr.by_];omega))) (fun _ _=>?_)|refine l_call0 (Zk plr pm pr lr r a v (by first|omega|(simp only [Tr.sz];omega)) (by first|omega|(simp only [Tr.by_];omega))) (fun _ _=>?_)|refine ZT (Zk plr pm pr lr r a v (by first|omega|(simp only [Tr.sz];omega)) (by first|omega|(simp only [Tr.by_];omega))) (fun _ _=>?_)|refine ZF (Zk pll _ _ ll (.node lr a v r) la lv (by first|omega|(simp only [Tr.sz];omega)) (by first|omega|(simp only [Tr.by_];omega))) (fun _ _=>?_)|refine l_call0 (Zk pll _ _ ll (.node lr a v r) la lv (by first|omega|(simp only [Tr.sz];omega)) (by first|omega|(simp only [Tr.by_];omega))) (fun _ _=>?_)|refine ZT (Zk pll _ _ ll (.node lr a v r) la lv (by first|omega|(simp only [Tr.sz];omega)) (by first|omega|(simp only [Tr.by_];omega))) (fun _ _=>?_)|rw [w1]|(refine ZC (fun hc=>?_) (fun hc=>?_)<;>(try simp at hc)<;>(try omega))|(refine ZL (fun hc=>?_) (fun hc=>?_)<;>(try simp at hc)<;>(try omega))|refine ZD 2 [] [(0,0),(1,0),(2,0),(3,0),(4,0),(5,0),(6,0),(8,0),(9,0),(10,0),(11,0),(7,4),(12,4),(13,0),(14,0),(15,0)] [] ?_|refine ZD 3 [] [(0,0),(1,0),(2,0),(3,0),(4,0),(5,0),(6,0),(7,0),(8,0),(9,0),(10,0),(11,4),(12,4),(13,0)] [] ?_|refine ZD 6 [] [(0,0),(1,0),(2,0),(3,0),(4,0),(5,0),(6,0),(7,0),(8,0),(10,0),(11,0),(12,0),(13,0),(14,0),(15,0),(16,0),(9,4),(17,4),(18,4),(19,0)] [] ?_|refine ZD 7 [] [(0,0),(1,0),(2,0),(3,0),(4,0),(5,0),(6,0),(8,0),(9,0),(10,0),(11,0),(7,4),(12,4),(13,0),(14,0),(15,0)] [] ?_|refine ZD 8 [] [(0,0),(1,0),(2,0),(3,0),(4,0),(5,0),(7,0),(8,0),(9,0),(10,0),(11,0),(6,4),(12,4),(13,0)] [] ?_|refine ZD 11 [] [(0,0),(1,0),(2,0),(3,0),(4,0),(5,0),(7,0),(8,0),(9,0),(10,0),(11,0),(12,0),(13,0),(14,0),(15,0),(16,0),(6,4),(17,4),(18,4),(19,0)] [] ?_|(refine ZE (fun hc=>?_) (fun hc=>?_)<;>(try simp at hc)<;>(try omega)))
    rename_i q _
    exact ZS q rfl trivial
   ·rw [if_neg h2] at hbal
    cases lr with
    | nil=>simp [Tr.ht] at h2
    | node il ia iv ir=>
     dsimp only at hbal
     subst hbal
     simp only [Tr.sz] at k1
     simp only [Tr.by_] at k2
     refine k_tr (p:=plr) (l:=il) (r:=ir) (a:=ia) (v:=iv) (fun b2 pil pir hp=>?_)
     subst hp
     repeat' (first|refine ZH ?_|refine ZG ?_|refine ZK ?_|refine ZI ?_|refine ZP ?_|refine ZJ ?_|refine ZM ?_|refine ZN (fun b=>?_)|refine ZO (fun b=>?_)|refine ZA ?_|refine ZB ?_|refine ZR ?_|refine ZZ ?_|refine ZW ?_|refine Zf ?_|refine Za ?_|refine ZY ?_|refine Ze (fun b=>?_)|refine Zg (fun b=>?_)|refine Zd ?_|refine ZX ?_|refine ZF (ZV _ (Tr.node ll la lv (Tr.node il ia iv ir))) (fun _ _=>?_)|refine l_call0 (ZV _ (Tr.node ll la lv (Tr.node il ia iv ir))) (fun _ _=>?_)|refine ZT (ZV _ (Tr.node ll la lv (Tr.node il ia iv ir))) (fun _ _=>?_)|refine ZF (ZV pr r) (fun _ _=>?_)|refine l_call0 (ZV pr r) (fun _ _=>?_)|refine ZT (ZV pr r) (fun _ _=>?_)|refine ZF (ZV pll ll) (fun _ _=>?_)|refine l_call0 (ZV pll ll) (fun _ _=>?_)|refine ZT (ZV pll ll) (fun _ _=>?_)|refine ZF (ZV _ (Tr.node il ia iv ir)) (fun _ _=>?_)|refine l_call0 (ZV _ (Tr.node il ia iv ir)) (fun _ _=>?_)|refine ZT (ZV _ (Tr.node il ia iv ir)) (fun _ _=>?_)|refine ZF (Zk pll _ pil ll il la lv (by first|omega|(simp only [Tr.sz];omega)) (by first|omega|(simp only [Tr.by_];omega))) (fun _ _=>?_)|refine l_call0 (Zk pll _ pil ll il la lv (by first|omega|(simp only [Tr.sz];omega)) (by first|omega|(simp only [Tr.by_];omega))) (fun _ _=>?_)|refine ZT (Zk pll _ pil ll il la lv (by first|omega|(simp only [Tr.sz];omega)) (by first|omega|(simp only [Tr.by_];omega))) (fun _ _=>?_)|refine ZF (Zk pir pm pr ir r a v (by first|omega|(simp only [Tr.sz];omega)) (by first|omega|(simp only [Tr.by_];omega))) (fun _ _=>?_)|refine l_call0 (Zk pir pm pr ir r a v (by first|omega|(simp only [Tr.sz];omega)) (by first|omega|(simp only [Tr.by_];omega))) (fun _ _=>?_)|refine ZT (Zk pir pm pr ir r a v (by first|omega|(simp only [Tr.sz];omega)) (by first|omega|(simp only [Tr.by_];omega))) (fun _ _=>?_)|refine ZF (Zk _ _ _ (.node ll la lv il) (.node ir a v r) ia iv (by first|omega|(simp only [Tr.sz];omega)) (by first|omega|(simp only [Tr.by_];omega))) (fun _ _=>?_)|refine l_call0 (Zk _ _ _ (.node ll la lv il) (.node ir a v r) ia iv (by first|omega|(simp only [Tr.sz];omega)) (by first|omega|(simp only [Tr.by_];omega))) (fun _ _=>?_)|refine ZT (Zk _ _ _ (.node ll la lv il) (.node ir a v r) ia iv (by first|omega|(simp only [Tr.sz];omega)) (by first|omega|(simp only [Tr.by_];omega))) (fun _ _=>?_)|rw [w1]|(refine ZC (fun hc=>?_) (fun hc=>?_)<;>(try simp at hc)<;>(try omega))|(refine ZL (fun hc=>?_) (fun hc=>?_)<;>(try simp at hc)<;>(try omega))|refine ZD 2 [] [(0,0),(1,0),(2,0),(3,0),(4,0),(5,0),(6,0),(8,0),(9,0),(10,0),(11,0),(7,4),(12,4),(13,0),(14,0),(15,0)] [] ?_|refine ZD 3 [] [(0,0),(1,0),(2,0),(3,0),(4,0),(5,0),(6,0),(7,0),(8,0),(9,0),(10,0),(11,4),(12,4),(13,0)] [] ?_|refine ZD 6 [] [(0,0),(1,0),(2,0),(3,0),(4,0),(5,0),(6,0),(7,0),(8,0),(10,0),(11,0),(12,0),(13,0),(14,0),(15,0),(16,0),(9,4),(17,4),(18,4),(19,0)] [] ?_|refine ZD 7 [] [(0,0),(1,0),(2,0),(3,0),(4,0),(5,0),(6,0),(8,0),(9,0),(10,0),(11,0),(7,4),(12,4),(13,0),(14,0),(15,0)] [] ?_|refine ZD 8 [] [(0,0),(1,0),(2,0),(3,0),(4,0),(5,0),(7,0),(8,0),(9,0),(10,0),(11,0),(6,4),(12,4),(13,0)] [] ?_|refine ZD 11 [] [(0,0),(1,0),(2,0),(3,0),(4,0),(5,0),(7,0),(8,0),(9,0),(10,0),(11,0),(12,0),(13,0),(14,0),(15,0),(16,0),(6,4),(17,4),(18,4),(19,0)] [] ?_|(refine ZE (fun hc=>?_) (fun hc=>?_)<;>(try simp at hc)<;>(try omega)))
     rename_i q _
     exact ZS q rfl trivial
 ·rw [if_neg h1] at hbal
  by_cases h3:l.ht+1<r.ht
  ·rw [if_pos h3] at hbal
   cases r with
   | nil=>simp [Tr.ht] at h3
   | node rl ra rv rr=>
    dsimp only at hbal
    simp only [Tr.sz] at k1
    simp only [Tr.by_] at k2
    refine k_tr (p:=pr) (l:=rl) (r:=rr) (a:=ra) (v:=rv) (fun b prl prr hp=>?_)
    subst hp
    by_cases h2:rl.ht≤rr.ht
    ·rw [if_pos h2] at hbal
     subst hbal
     repeat' (first|refine ZH ?_|refine ZG ?_|refine ZK ?_|refine ZI ?_|refine ZP ?_|refine ZJ ?_|refine ZM ?_|refine ZN (fun b=>?_)|refine ZO (fun b=>?_)|refine ZA ?_|refine ZB ?_|refine ZR ?_|refine ZZ ?_|refine ZW ?_|refine Zf ?_|refine Za ?_|refine ZY ?_|refine Ze (fun b=>?_)|refine Zg (fun b=>?_)|refine Zd ?_|refine ZX ?_|refine ZF (ZV pl l) (fun _ _=>?_)|refine l_call0 (ZV pl l) (fun _ _=>?_)|refine ZT (ZV pl l) (fun _ _=>?_)|refine ZF (ZV _ (Tr.node rl ra rv rr)) (fun _ _=>?_)|refine l_call0 (ZV _ (Tr.node rl ra rv rr)) (fun _ _=>?_)|refine ZT (ZV _ (Tr.node rl ra rv rr)) (fun _ _=>?_)|refine ZF (ZV prl rl) (fun _ _=>?_)|refine l_call0 (ZV prl rl) (fun _ _=>?_)|refine ZT (ZV prl rl) (fun _ _=>?_)|refine ZF (ZV prr rr) (fun _ _=>?_)|refine l_call0 (ZV prr rr) (fun _ _=>?_)|refine ZT (ZV prr rr) (fun _ _=>?_)|refine ZF (Zk pl pm prl l rl a v (by first|omega|(simp only [Tr.sz];omega)) (by first|omega|(simp only [Tr.by_];omega))) (fun _ _=>?_)|refine l_call0 (Zk pl pm prl l rl a v (by first|omega|(simp only [Tr.sz];omega)) (by first|omega|(simp only [Tr.by_];omega))) (fun _ _=>?_)|refine ZT (Zk pl pm prl l rl a v (by first|omega|(simp only [Tr.sz];omega)) (by first|omega|(simp only [Tr.by_];omega))) (fun _ _=>?_)|refine ZF (Zk _ _ prr (.node l a v rl) rr ra rv (by first|omega|(simp only [Tr.sz];omega)) (by first|omega|(simp only [Tr.by_];omega))) (fun _ _=>?_)|refine l_call0 (Zk _ _ prr (.node l a v rl) rr ra rv (by first|omega|(simp only [Tr.sz];omega)) (by first|omega|(simp only [Tr.by_];omega))) (fun _ _=>?_)|refine ZT (Zk _ _ prr (.node l a v rl) rr ra rv (by first|omega|(simp only [Tr.sz];omega)) (by first|omega|(simp only [Tr.by_];omega))) (fun _ _=>?_)|rw [w1]|(refine ZC (fun hc=>?_) (fun hc=>?_)<;>(try simp at hc)<;>(try omega))|(refine ZL (fun hc=>?_) (fun hc=>?_)<;>(try simp at hc)<;>(try omega))|refine ZD 2 [] [(0,0),(1,0),(2,0),(3,0),(4,0),(5,0),(6,0),(8,0),(9,0),(10,0),(11,0),(7,4),(12,4),(13,0),(14,0),(15,0)] [] ?_|refine ZD 3 [] [(0,0),(1,0),(2,0),(3,0),(4,0),(5,0),(6,0),(7,0),(8,0),(9,0),(10,0),(11,4),(12,4),(13,0)] [] ?_|refine ZD 6 [] [(0,0),(1,0),(2,0),(3,0),(4,0),(5,0),(6,0),(7,0),(8,0),(10,0),(11,0),(12,0),(13,0),(14,0),(15,0),(16,0),(9,4),(17,4),(18,4),(19,0)] [] ?_|refine ZD 7 [] [(0,0),(1,0),(2,0),(3,0),(4,0),(5,0),(6,0),(8,0),(9,0),(10,0),(11,0),(7,4),(12,4),(13,0),(14,0),(15,0)] [] ?_|refine ZD 8 [] [(0,0),(1,0),(2,0),(3,0),(4,0),(5,0),(7,0),(8,0),(9,0),(10,0),(11,0),(6,4),(12,4),(13,0)] [] ?_|refine ZD 11 [] [(0,0),(1,0),(2,0),(3,0),(4,0),(5,0),(7,0),(8,0),(9,0),(10,0),(11,0),(12,0),(13,0),(14,0),(15,0),(16,0),(6,4),(17,4),(18,4),(19,0)] [] ?_|(refine ZE (fun hc=>?_) (fun hc=>?_)<;>(try simp at hc)<;>(try omega)))
     rename_i q _
     exact ZS q rfl trivial
    ·rw [if_neg h2] at hbal
     cases rl with
     | nil=>simp [Tr.ht] at h2
     | node il ia iv ir=>
      dsimp only at hbal
      subst hbal
      simp only [Tr.sz] at k1
      simp only [Tr.by_] at k2
      refine k_tr (p:=prl) (l:=il) (r:=ir) (a:=ia) (v:=iv) (fun b2 pil pir hp=>?_)
      subst hp
      repeat' (first|refine ZH ?_|refine ZG ?_|refine ZK ?_|refine ZI ?_|refine ZP ?_|refine ZJ ?_|refine ZM ?_|refine ZN (fun b=>?_)|refine ZO (fun b=>?_)|refine ZA ?_|refine ZB ?_|refine ZR ?_|refine ZZ ?_|refine ZW ?_|refine Zf ?_|refine Za ?_|refine ZY ?_|refine Ze (fun b=>?_)|refine Zg (fun b=>?_)|refine Zd ?_|refine ZX ?_|refine ZF (ZV pl l) (fun _ _=>?_)|refine l_call0 (ZV pl l) (fun _ _=>?_)|refine ZT (ZV pl l) (fun _ _=>?_)|refine ZF (ZV _ (Tr.node (Tr.node il ia iv ir) ra rv rr)) (fun _ _=>?_)|refine l_call0 (ZV _ (Tr.node (Tr.node il ia iv ir) ra rv rr)) (fun _ _=>?_)|refine ZT (ZV _ (Tr.node (Tr.node il ia iv ir) ra rv rr)) (fun _ _=>?_)|refine ZF (ZV prr rr) (fun _ _=>?_)|refine l_call0 (ZV prr rr) (fun _ _=>?_)|refine ZT (ZV prr rr) (fun _ _=>?_)|refine ZF (ZV _ (Tr.node il ia iv ir)) (fun _ _=>?_)|refine l_call0 (ZV _ (Tr.node il ia iv ir)) (fun _ _=>?_)|refine ZT (ZV _ (Tr.node il ia iv ir)) (fun _ _=>?_)|refine ZF (Zk pl pm pil l il a v (by first|omega|(simp only [Tr.sz];omega)) (by first|omega|(simp only [Tr.by_];omega))) (fun _ _=>?_)|refine l_call0 (Zk pl pm pil l il a v (by first|omega|(simp only [Tr.sz];omega)) (by first|omega|(simp only [Tr.by_];omega))) (fun _ _=>?_)|refine ZT (Zk pl pm pil l il a v (by first|omega|(simp only [Tr.sz];omega)) (by first|omega|(simp only [Tr.by_];omega))) (fun _ _=>?_)|refine ZF (Zk pir _ prr ir rr ra rv (by first|omega|(simp only [Tr.sz];omega)) (by first|omega|(simp only [Tr.by_];omega))) (fun _ _=>?_)|refine l_call0 (Zk pir _ prr ir rr ra rv (by first|omega|(simp only [Tr.sz];omega)) (by first|omega|(simp only [Tr.by_];omega))) (fun _ _=>?_)|refine ZT (Zk pir _ prr ir rr ra rv (by first|omega|(simp only [Tr.sz];omega)) (by first|omega|(simp only [Tr.by_];omega))) (fun _ _=>?_)|refine ZF (Zk _ _ _ (.node l a v il) (.node ir ra rv rr) ia iv (by first|omega|(simp only [Tr.sz];omega)) (by first|omega|(simp only [Tr.by_];omega))) (fun _ _=>?_)|refine l_call0 (Zk _ _ _ (.node l a v il) (.node ir ra rv rr) ia iv (by first|omega|(simp only [Tr.sz];omega)) (by first|omega|(simp only [Tr.by_];omega))) (fun _ _=>?_)|refine ZT (Zk _ _ _ (.node l a v il) (.node ir ra rv rr) ia iv (by first|omega|(simp only [Tr.sz];omega)) (by first|omega|(simp only [Tr.by_];omega))) (fun _ _=>?_)|rw [w1]|(refine ZC (fun hc=>?_) (fun hc=>?_)<;>(try simp at hc)<;>(try omega))|(refine ZL (fun hc=>?_) (fun hc=>?_)<;>(try simp at hc)<;>(try omega))|refine ZD 2 [] [(0,0),(1,0),(2,0),(3,0),(4,0),(5,0),(6,0),(8,0),(9,0),(10,0),(11,0),(7,4),(12,4),(13,0),(14,0),(15,0)] [] ?_|refine ZD 3 [] [(0,0),(1,0),(2,0),(3,0),(4,0),(5,0),(6,0),(7,0),(8,0),(9,0),(10,0),(11,4),(12,4),(13,0)] [] ?_|refine ZD 6 [] [(0,0),(1,0),(2,0),(3,0),(4,0),(5,0),(6,0),(7,0),(8,0),(10,0),(11,0),(12,0),(13,0),(14,0),(15,0),(16,0),(9,4),(17,4),(18,4),(19,0)] [] ?_|refine ZD 7 [] [(0,0),(1,0),(2,0),(3,0),(4,0),(5,0),(6,0),(8,0),(9,0),(10,0),(11,0),(7,4),(12,4),(13,0),(14,0),(15,0)] [] ?_|refine ZD 8 [] [(0,0),(1,0),(2,0),(3,0),(4,0),(5,0),(7,0),(8,0),(9,0),(10,0),(11,0),(6,4),(12,4),(13,0)] [] ?_|refine ZD 11 [] [(0,0),(1,0),(2,0),(3,0),(4,0),(5,0),(7,0),(8,0),(9,0),(10,0),(11,0),(12,0),(13,0),(14,0),(15,0),(16,0),(6,4),(17,4),(18,4),(19,0)] [] ?_|(refine ZE (fun hc=>?_) (fun hc=>?_)<;>(try simp at hc)<;>(try omega)))
      rename_i q _
      exact ZS q rfl trivial
  ·rw [if_neg h3] at hbal
   subst hbal
   repeat' (first|refine ZH ?_|refine ZG ?_|refine ZK ?_|refine ZI ?_|refine ZP ?_|refine ZJ ?_|refine ZM ?_|refine ZN (fun b=>?_)|refine ZO (fun b=>?_)|refine ZA ?_|refine ZB ?_|refine ZR ?_|refine ZZ ?_|refine ZW ?_|refine Zf ?_|refine Za ?_|refine ZY ?_|refine Ze (fun b=>?_)|refine Zg (fun b=>?_)|refine Zd ?_|refine ZX ?_|refine ZF (ZV pl l) (fun _ _=>?_)|refine l_call0 (ZV pl l) (fun _ _=>?_)|refine ZT (ZV pl l) (fun _ _=>?_)|refine ZF (ZV pr r) (fun _ _=>?_)|refine l_call0 (ZV pr r) (fun _ _=>?_)|refine ZT (ZV pr r) (fun _ _=>?_)|refine ZF (Zk pl pm pr l r a v hs hb) (fun _ _=>?_)|refine l_call0 (Zk pl pm pr l r a v hs hb) (fun _ _=>?_)|refine ZT (Zk pl pm pr l r a v hs hb) (fun _ _=>?_)|rw [w1]|(refine ZC (fun hc=>?_) (fun hc=>?_)<;>(try simp at hc)<;>(try omega))|(refine ZL (fun hc=>?_) (fun hc=>?_)<;>(try simp at hc)<;>(try omega))|refine ZD 2 [] [(0,0),(1,0),(2,0),(3,0),(4,0),(5,0),(6,0),(8,0),(9,0),(10,0),(11,0),(7,4),(12,4),(13,0),(14,0),(15,0)] [] ?_|refine ZD 3 [] [(0,0),(1,0),(2,0),(3,0),(4,0),(5,0),(6,0),(7,0),(8,0),(9,0),(10,0),(11,4),(12,4),(13,0)] [] ?_|refine ZD 6 [] [(0,0),(1,0),(2,0),(3,0),(4,0),(5,0),(6,0),(7,0),(8,0),(10,0),(11,0),(12,0),(13,0),(14,0),(15,0),(16,0),(9,4),(17,4),(18,4),(19,0)] [] ?_|refine ZD 7 [] [(0,0),(1,0),(2,0),(3,0),(4,0),(5,0),(6,0),(8,0),(9,0),(10,0),(11,0),(7,4),(12,4),(13,0),(14,0),(15,0)] [] ?_|refine ZD 8 [] [(0,0),(1,0),(2,0),(3,0),(4,0),(5,0),(7,0),(8,0),(9,0),(10,0),(11,0),(6,4),(12,4),(13,0)] [] ?_|refine ZD 11 [] [(0,0),(1,0),(2,0),(3,0),(4,0),(5,0),(7,0),(8,0),(9,0),(10,0),(11,0),(12,0),(13,0),(14,0),(15,0),(16,0),(6,4),(17,4),(18,4),(19,0)] [] ?_|(refine ZE (fun hc=>?_) (fun hc=>?_)<;>(try simp at hc)<;>(try omega)))
   rename_i q _
   exact ZS q rfl trivial
theorem sz_bal (l:Tr) (a:Nm) (v:ByteArray) (r:Tr):(Tr.bal l a v r).sz=1+l.sz+r.sz:=by
 rw [Tr.sz_els,Tr.els_bal,Tr.sz_els l,Tr.sz_els r];simp;omega
theorem by_bal (l:Tr) (a:Nm) (v:ByteArray) (r:Tr):(Tr.bal l a v r).by_=v.size+l.by_+r.by_:=by
 rw [Tr.by_els,Tr.els_bal,Tr.by_els l,Tr.by_els r];simp [Tr.ab];omega
theorem sz_put (a:Nm) (v:ByteArray):∀t:Tr,(Tr.put a v t).sz≤t.sz+1
 | .nil=>by simp [Tr.put,Tr.sz]
 | .node l b u r=>by
  have:=sz_put a v l
  have:=sz_put a v r
  unfold Tr.put
  split
  ·rw [sz_bal];simp only [Tr.sz];omega
  ·split
   ·rw [sz_bal];simp only [Tr.sz];omega
   ·simp only [Tr.sz];omega
theorem by_put (a:Nm) (v:ByteArray):∀t:Tr,(Tr.put a v t).by_≤t.by_+v.size
 | .nil=>by simp [Tr.put,Tr.by_]
 | .node l b u r=>by
  have:=by_put a v l
  have:=by_put a v r
  unfold Tr.put
  split
  ·rw [by_bal];simp only [Tr.by_];omega
  ·split
   ·rw [by_bal];simp only [Tr.by_];omega
   ·simp only [Tr.by_];omega
structure Okt (t:Tr):Prop where
 s:t.sz≤1000000
 b:t.by_≤1000000000000
 o:∀x ∈ t.els,x.1.owner.size≤1099511627770
theorem Okt.l {l r:Tr} {b:Nm} {u:ByteArray} (h:Okt (.node l b u r)):Okt l:=by
 have h1:=h.s
 have h2:=h.b
 simp only [Tr.sz] at h1
 simp only [Tr.by_] at h2
 exact ⟨by omega,by omega,fun x hx=>h.o x (by simp [Tr.els,hx])⟩
theorem Okt.r {l r:Tr} {b:Nm} {u:ByteArray} (h:Okt (.node l b u r)):Okt r:=by
 have h1:=h.s
 have h2:=h.b
 simp only [Tr.sz] at h1
 simp only [Tr.by_] at h2
 exact ⟨by omega,by omega,fun x hx=>h.o x (by simp [Tr.els,hx])⟩
theorem Okt.m {l r:Tr} {b:Nm} {u:ByteArray} (h:Okt (.node l b u r)):b.owner.size≤1099511627770:=h.o (b,u) (by simp [Tr.els])
section
theorem l_nd {ops l:List Oper} {p:Option Addr} {a:Nm} {v:ByteArray} (t:∀b pl pr x y z,p=some ⟨b,0,none⟩→Wl n C ops.toArray k Q l E (Blk b (ndc pl pr a v x y z)::F) R) (hs:Sel (Nd p a v) F F0:=by (repeat (first|exact Sel.here|apply Sel.there));first|done|fail):Wl n C ops.toArray k Q l E F R:=
 l_fact (X:=Nat×Option Addr×Option Addr×Int×Int×Int) (Fx:=fun x=>[Blk x.1 (ndc x.2.1 x.2.2.1 a v x.2.2.2.1 x.2.2.2.2.1 x.2.2.2.2.2)]) (p:=fun x=>p=some ⟨x.1,0,none⟩) (f:=Nd p a v) hs (fun h ⟨b,pl,pr,x,y,z,h1,h2⟩=>⟨(b,pl,pr,x,y,z),h1,fun f hf=>by simp at hf;subst hf;exact h2⟩) (fun x hp=>t x.1 x.2.1 x.2.2.1 x.2.2.2.1 x.2.2.2.2.1 x.2.2.2.2.2 hp)
theorem k_nd {p:Option Addr} {a:Nm} {v:ByteArray} (t:∀b pl pr x y z,p=some ⟨b,0,none⟩→Wk n C k Q E (Blk b (ndc pl pr a v x y z)::F) R) (hs:Sel (Nd p a v) F F0:=by (repeat (first|exact Sel.here|apply Sel.there));first|done|fail):Wk n C k Q E F R:=
 Z1 (X:=Nat×Option Addr×Option Addr×Int×Int×Int) (Fx:=fun x=>[Blk x.1 (ndc x.2.1 x.2.2.1 a v x.2.2.2.1 x.2.2.2.2.1 x.2.2.2.2.2)]) (p:=fun x=>p=some ⟨x.1,0,none⟩) (f:=Nd p a v) hs (fun h ⟨b,pl,pr,x,y,z,h1,h2⟩=>⟨(b,pl,pr,x,y,z),h1,fun f hf=>by simp at hf;subst hf;exact h2⟩) (fun x hp=>t x.1 x.2.1 x.2.2.1 x.2.2.2.1 x.2.2.2.2.1 x.2.2.2.2.2 hp)
end
def PtrPost (t:Tr):Post:=⟨Nat,fun b=>.pointer (some ⟨b,0,none⟩),fun _=>True,fun b=>[TrF (some ⟨b,0,none⟩) t],fun _=>[]⟩
set_option maxHeartbeats 1000000 in
theorem with_ok (a:Nm) (v:ByteArray) (pm:Option Addr) (ha:a.owner.size≤1099511627770) (hv:v.size≤1000000):∀(t:Tr) (p:Option Addr),Okt t→Enters 127∧Spec prog 127 #[.pointer p,.pointer pm] [TrF p t,Nd pm a v] [] (PtrPost (Tr.put a v t)):=by
 intro t
 induction t with
 | nil=>
  intro p hok
  refine Zb [_,_] func127 ntmps127 fun G w hp=>?_
  refine k_trn fun hp=>?_
  subst hp
  refine k_add (f:=TrF none .nil) (fun _=>rfl) ?_
  repeat' (first|refine ZH ?_|refine ZG ?_|refine ZK ?_|refine ZI ?_|refine ZP ?_|refine ZJ ?_|refine ZM ?_|refine ZN (fun b=>?_)|refine ZO (fun b=>?_)|refine ZA ?_|refine ZB ?_|refine ZR ?_|refine ZZ ?_|refine ZW ?_|refine Zf ?_|refine Za ?_|refine ZY ?_|refine Ze (fun b=>?_)|refine Zg (fun b=>?_)|refine Zd ?_|refine ZX ?_|refine ZF (Zk none pm none .nil .nil a v (by simp [Tr.sz]) (by simp [Tr.by_];omega)) (fun _ _=>?_)|refine l_call0 (Zk none pm none .nil .nil a v (by simp [Tr.sz]) (by simp [Tr.by_];omega)) (fun _ _=>?_)|refine ZT (Zk none pm none .nil .nil a v (by simp [Tr.sz]) (by simp [Tr.by_];omega)) (fun _ _=>?_)|(refine ZC (fun hc=>?_) (fun hc=>?_)<;>(try simp at hc))|(refine ZL (fun hc=>?_) (fun hc=>?_)<;>(try simp at hc))|refine ZD 3 [] [(0,0),(1,0),(2,0),(3,0),(4,0),(5,0),(6,0),(7,0),(8,4),(9,0)] [] ?_|refine ZD 5 [] [(0,0),(1,0),(2,0),(3,0),(4,0),(6,0),(7,0),(8,0),(9,0),(10,0),(5,4),(11,4),(12,0)] [] ?_|refine ZD 7 [] [(0,0),(1,0),(2,0),(3,0),(4,0),(5,0),(6,0),(7,0),(8,0),(9,0),(10,4),(11,4),(12,0)] [] ?_|refine ZD 8 [] [(0,0),(1,0),(2,0),(3,0),(4,0),(5,0),(6,0),(7,0),(8,0),(9,4),(10,0)] [] ?_|(refine ZE (fun hc=>?_) (fun hc=>?_)<;>(try simp at hc)))
  rename_i q _
  exact ZS q rfl trivial
 | node l b u r ihl ihr=>
  intro p hok
  have hl:=ihl
  have h1:=hok.s
  have h2:=hok.b
  simp only [Tr.sz] at h1
  simp only [Tr.by_] at h2
  have s1:=sz_put a v l
  have s2:=sz_put a v r
  have b1:=by_put a v l
  have b2:=by_put a v r
  refine Zb [_,_] func127 ntmps127 fun G w hp=>?_
  refine k_tr (p:=p) (l:=l) (r:=r) (a:=b) (v:=u) (fun bb pl pr hp=>?_)
  subst hp
  refine k_nd (p:=pm) (a:=a) (v:=v) (fun bm pl' pr' x y z hp=>?_)
  subst hp
  generalize hput:Tr.put a v (.node l b u r)=t
  unfold Tr.put at hput
  repeat' (first|refine ZH ?_|refine ZG ?_|refine ZK ?_|refine ZI ?_|refine ZP ?_|refine ZJ ?_|refine ZM ?_|refine ZN (fun b=>?_)|refine ZO (fun b=>?_)|refine ZA ?_|refine ZB ?_|refine ZR ?_|refine ZZ ?_|refine ZW ?_|refine Zf ?_|refine Za ?_|refine ZY ?_|refine Ze (fun b=>?_)|refine Zg (fun b=>?_)|refine Zd ?_|refine ZX ?_|refine ZF (YA a b ha hok.m) (fun _ _=>?_)|refine l_call0 (YA a b ha hok.m) (fun _ _=>?_)|refine ZT (YA a b ha hok.m) (fun _ _=>?_)|refine ZF (ihl pl hok.l) (fun _ _=>?_)|refine l_call0 (ihl pl hok.l) (fun _ _=>?_)|refine ZT (ihl pl hok.l) (fun _ _=>?_)|refine ZF (ihr pr hok.r) (fun _ _=>?_)|refine l_call0 (ihr pr hok.r) (fun _ _=>?_)|refine ZT (ihr pr hok.r) (fun _ _=>?_)|refine ZF (Ym _ _ pr (Tr.put a v l) r b u (by omega) (by omega)) (fun _ _=>?_)|refine l_call0 (Ym _ _ pr (Tr.put a v l) r b u (by omega) (by omega)) (fun _ _=>?_)|refine ZT (Ym _ _ pr (Tr.put a v l) r b u (by omega) (by omega)) (fun _ _=>?_)|refine ZF (Ym pl _ _ l (Tr.put a v r) b u (by omega) (by omega)) (fun _ _=>?_)|refine l_call0 (Ym pl _ _ l (Tr.put a v r) b u (by omega) (by omega)) (fun _ _=>?_)|refine ZT (Ym pl _ _ l (Tr.put a v r) b u (by omega) (by omega)) (fun _ _=>?_)|refine ZF (Zk pl _ pr l r a v (by omega) (by omega)) (fun _ _=>?_)|refine l_call0 (Zk pl _ pr l r a v (by omega) (by omega)) (fun _ _=>?_)|refine ZT (Zk pl _ pr l r a v (by omega) (by omega)) (fun _ _=>?_)|(refine ZC (fun hc=>?_) (fun hc=>?_)<;>(try simp at hc))|(refine ZL (fun hc=>?_) (fun hc=>?_)<;>(try simp at hc))|refine ZD 3 [] [(0,0),(1,0),(2,0),(3,0),(4,0),(5,0),(6,0),(7,0),(8,4),(9,0)] [] ?_|refine ZD 5 [] [(0,0),(1,0),(2,0),(3,0),(4,0),(6,0),(7,0),(8,0),(9,0),(10,0),(5,4),(11,4),(12,0)] [] ?_|refine ZD 7 [] [(0,0),(1,0),(2,0),(3,0),(4,0),(5,0),(6,0),(7,0),(8,0),(9,0),(10,4),(11,4),(12,0)] [] ?_|refine ZD 8 [] [(0,0),(1,0),(2,0),(3,0),(4,0),(5,0),(6,0),(7,0),(8,0),(9,4),(10,0)] [] ?_|(refine ZE (fun hc=>?_) (fun hc=>?_)<;>(try simp at hc)))
  all_goals rename_i q _
  ·rw [if_pos hc] at hput
   subst hput
   exact ZS q rfl trivial
  ·rw [if_neg (by omega),if_pos hc] at hput
   subst hput
   exact ZS q rfl trivial
  ·rw [if_neg (by omega),if_neg (by omega)] at hput
   subst hput
   exact ZS q rfl trivial
def FdF (q:Option Addr) (r:Option ByteArray):Pf:=
 match r with
 | none=>⟨fun _=>q=none,fun _ _ _ h=>h⟩
 | some v=>⟨fun h=>∃a,(Nd q a v).p h,fun _ _ s ⟨a,h⟩=>⟨a,(Nd q a v).m _ _ s h⟩⟩
structure FX (a:Nm) (t:Tr) where
 q:Option Addr
 s:Tr
 h1:Tr.find a t=Tr.find a s
 h2:Okt s
set_option maxHeartbeats 1000000 in
theorem find_ok (a:Nm) (ha:a.owner.size≤1099511627770) (t:Tr) (p:Option Addr) (ht:Okt t):Enters 124∧Spec prog 124 #[.pointer p,a.v] [TrF p t] [] ⟨Option Addr,fun q=>.pointer q,fun _=>True,fun q=>[FdF q (Tr.find a t)],fun _=>[]⟩:=by
 refine Zb [_,_] func124 ntmps124 fun G w hp=>?_
 repeat' (first|refine ZH ?_|refine ZG ?_|refine ZK ?_|refine ZI ?_|refine ZP ?_|refine ZJ ?_|refine ZM ?_|refine ZN (fun b=>?_)|refine ZO (fun b=>?_)|refine ZA ?_|refine ZB ?_|refine ZR ?_|refine ZZ ?_|refine ZW ?_|refine Zf ?_|refine Za ?_|refine ZY ?_|refine Ze (fun b=>?_)|refine Zg (fun b=>?_)|refine Zd ?_|refine ZX ?_|refine ZC (fun hc=>?_) (fun hc=>?_)|refine ZL (fun hc=>?_) (fun hc=>?_)|refine ZD 2 [] [(0,0),(1,0),(2,0),(3,0),(4,0),(5,4),(6,0)] [] ?_|refine ZE (fun hc=>?_) (fun hc=>?_))
 refine Z6 (X:=FX a t) (fun x=>[(0,.pointer x.q),(3,.pointer (some ⟨b,0,none⟩))]) (fun x=>[TrF x.q x.s]) (fun _=>[Pt b (.cells #[.int .i64 a.kind,.string a.owner,.int .i64 a.number,.int .i64 a.index,.string a.text] 46)]) (fun x=>x.s.sz) ⟨p,t,rfl,ht⟩ ⟨rfl,rfl,trivial⟩ ?_
 rintro ⟨q,s,h1,h2⟩
 dsimp only
 cases s with
 | nil=>
  refine k_trn fun hp=>?_
  subst hp
  rw [Tr.find] at h1
  repeat' (first|refine ZH ?_|refine ZG ?_|refine ZK ?_|refine ZI ?_|refine ZP ?_|refine ZJ ?_|refine ZM ?_|refine ZN (fun b=>?_)|refine ZO (fun b=>?_)|refine ZA ?_|refine ZB ?_|refine ZR ?_|refine ZZ ?_|refine ZW ?_|refine Zf ?_|refine Za ?_|refine ZY ?_|refine Ze (fun b=>?_)|refine Zg (fun b=>?_)|refine Zd ?_|refine ZX ?_|refine ZC (fun hc=>?_) (fun hc=>?_)|refine ZL (fun hc=>?_) (fun hc=>?_)|refine ZD 2 [] [(0,0),(1,0),(2,0),(3,0),(4,0),(5,4),(6,0)] [] ?_|refine ZE (fun hc=>?_) (fun hc=>?_))
  rw [h1]
  refine k_mk (F1:=[]) (f:=FdF none none) (fun _ _=>rfl) ?_
  exact ZS none rfl trivial
 | node l c u r=>
  refine k_tr (p:=q) (l:=l) (r:=r) (a:=c) (v:=u) (fun bb pl pr hp=>?_)
  subst hp
  rw [Tr.find] at h1
  repeat' (first|refine ZH ?_|refine ZG ?_|refine ZK ?_|refine ZI ?_|refine ZP ?_|refine ZJ ?_|refine ZM ?_|refine ZN (fun b=>?_)|refine ZO (fun b=>?_)|refine ZA ?_|refine ZB ?_|refine ZR ?_|refine ZZ ?_|refine ZW ?_|refine Zf ?_|refine Za ?_|refine ZY ?_|refine Ze (fun b=>?_)|refine Zg (fun b=>?_)|refine Zd ?_|refine ZX ?_|refine ZF (YA a c ha h2.m) (fun _ _=>?_)|refine l_call0 (YA a c ha h2.m) (fun _ _=>?_)|refine ZT (YA a c ha h2.m) (fun _ _=>?_)|(refine ZC (fun hc=>?_) (fun hc=>?_)<;>(try simp at hc))|(refine ZL (fun hc=>?_) (fun hc=>?_)<;>(try simp at hc))|refine ZD 2 [] [(0,0),(1,0),(2,0),(3,0),(4,0),(5,4),(6,0)] [] ?_|(refine ZE (fun hc=>?_) (fun hc=>?_)<;>(try simp at hc)))
  ·rw [if_pos hc] at h1
   refine k_mk (F1:=[Nd (some ⟨bb,0,none⟩) c u]) (f:=FdF (some ⟨bb,0,none⟩) (Tr.find a t)) (fun hp hF=>by rw [h1];exact ⟨c,hF _ (by simp)⟩) ?_
   exact YR (YX (Z4 (some ⟨bb,0,none⟩) rfl trivial))
  ·rw [if_neg (by omega),if_pos hc] at h1
   exact Zc ⟨pl,l,h1,h2.l⟩ (by simp only [Tr.sz];omega) ⟨rfl,rfl,trivial⟩
  ·rw [if_neg (by omega),if_neg (by omega)] at h1
   exact Zc ⟨pr,r,h1,h2.r⟩ (by simp only [Tr.sz];omega) ⟨rfl,rfl,trivial⟩
def StF (ps:Option Addr) (t:Tr):Pf:=⟨fun h=>∃b p,ps=some ⟨b,0,none⟩∧h b=some (.cells #[.pointer p] 156)∧TrP p t h,fun h k s ⟨b,p,h1,h2,h3⟩=>⟨b,p,h1,s _ _ h2,Wf t p h k s h3⟩⟩
structure StOK (es:Al):Prop where
 srt:Srt es
 len:es.length≤65536
 own:∀x ∈ es,x.1.owner.size≤1099511627770
 val:∀x ∈ es,x.2.size≤65536
def St (ps:Option Addr) (es:Al):Pf:=⟨fun h=>∃t:Tr,t.els=es∧StOK es∧(StF ps t).p h,fun _ _ s ⟨t,h1,h2,h3⟩=>⟨t,h1,h2,(StF ps t).m _ _ s h3⟩⟩
theorem ab_le {m:Nat}:∀{l:Al},(∀x ∈ l,x.2.size≤m)→Tr.ab l≤l.length * m
 | [],_=>by simp [Tr.ab]
 | x::l,h=>by
  have h1:=ab_le (l:=l) fun y hy=>h y (List.mem_cons_of_mem _ hy)
  have h2:=h x (by simp)
  simp only [Tr.ab,List.map_cons,List.sum_cons,List.length_cons] at h1 ⊢
  rw [Nat.succ_mul];omega
theorem StOK.okt {t:Tr} (h:StOK t.els):Okt t:=by
 have h1:=ab_le h.val
 have h2:=h.len
 refine ⟨by rw [Tr.sz_els];omega,?_,h.own⟩
 rw [Tr.by_els]
 have:t.els.length * 65536≤65536 * 65536:=Nat.mul_le_mul_right _ h2
 omega
section
theorem k_st {ps:Option Addr} {es:Al} (t:∀b p (t:Tr),ps=some ⟨b,0,none⟩→t.els=es→StOK es→Wk n C k Q E (Blk b (.cells #[.pointer p] 156)::TrF p t::F) R) (hs:Sel (St ps es) F F0:=by (repeat (first|exact Sel.here|apply Sel.there));first|done|fail):Wk n C k Q E F R:=
 Z1 (X:=Nat×Option Addr×Tr) (Fx:=fun x=>[Blk x.1 (.cells #[.pointer x.2.1] 156),TrF x.2.1 x.2.2]) (p:=fun x=>ps=some ⟨x.1,0,none⟩∧x.2.2.els=es∧StOK es) (f:=St ps es) hs
  (fun h ⟨t,h1,h2,b,p,h3,h4,h5⟩=>⟨(b,p,t),⟨h3,h1,h2⟩,fun f hf=>by
   simp only [List.mem_cons,List.not_mem_nil,or_false] at hf
   rcases hf with rfl|rfl
   ·exact h4
   ·exact h5⟩) (fun x hp=>t x.1 x.2.1 x.2.2 hp.1 hp.2.1 hp.2.2)
end
theorem Xj:Enters 21∧Spec prog 21 #[] [] [] ⟨Nat,fun b=>.pointer (some ⟨b,0,none⟩),fun _=>True,fun b=>[St (some ⟨b,0,none⟩) []],fun _=>[]⟩:=by
 refine Zb [] func21 ntmps21 fun G w hp=>?_
 repeat' (first|refine ZH ?_|refine ZG ?_|refine ZK ?_|refine ZI ?_|refine ZP ?_|refine ZJ ?_|refine ZM ?_|refine ZN (fun b=>?_)|refine ZO (fun b=>?_)|refine ZA ?_|refine ZB ?_|refine ZR ?_|refine ZC (fun hc=>?_) (fun hc=>?_)|refine ZE (fun hc=>?_) (fun hc=>?_))
 refine YZ ?_
 refine k_mk (F1:=[Blk b (.cells #[.pointer none] 156)]) (f:=St (some ⟨b,0,none⟩) []) (fun hp hF=>⟨.nil,rfl,⟨List.Pairwise.nil,by simp,by simp,by simp⟩,b,none,rfl,hF (Blk b (.cells #[.pointer none] 156)) (by simp),rfl⟩) ?_
 exact ZS b rfl trivial
theorem Ye (ps:Option Addr) (es:Al):Enters 126∧Spec prog 126 #[.pointer ps] [St ps es] [] (RetV (.int .i64 (es.length:Int))):=by
 refine Zb [_] func126 ntmps126 fun G w hp=>?_
 refine k_st (ps:=ps) (es:=es) (fun b p t hp he hok=>?_)
 subst hp
 subst he
 rw [←Tr.sz_els]
 repeat' (first|refine ZH ?_|refine ZG ?_|refine ZK ?_|refine ZI ?_|refine ZP ?_|refine ZJ ?_|refine ZM ?_|refine ZN (fun b=>?_)|refine ZO (fun b=>?_)|refine ZA ?_|refine ZB ?_|refine ZR ?_|refine ZF (Yd p t) (fun _ _=>?_)|refine l_call0 (Yd p t) (fun _ _=>?_)|refine ZC (fun hc=>?_) (fun hc=>?_)|refine ZE (fun hc=>?_) (fun hc=>?_))
 exact ZS () rfl trivial
theorem stateGet_ok (ps:Option Addr) (es:Al) (a:Nm) (ha:a.owner.size≤1099511627770):Enters 114∧Spec prog 114 #[.pointer ps,a.v] [St ps es] [] (RetV (.tuple #[.string ((getO a es).getD ⟨#[]⟩),.bool (getO a es).isSome])):=by
 refine Zb [_,_] func114 ntmps114 fun G w hp=>?_
 refine k_st (ps:=ps) (es:=es) (fun b p t hp he hok=>?_)
 subst hp
 subst he
 rw [←Wg a t hok.srt]
 have hf:=find_ok a ha t p hok.okt
 cases hfd:Tr.find a t with
 | none=>
  rw [hfd] at hf
  repeat' (first|refine ZH ?_|refine ZG ?_|refine ZK ?_|refine ZI ?_|refine ZP ?_|refine ZJ ?_|refine ZM ?_|refine ZN (fun b=>?_)|refine ZO (fun b=>?_)|refine ZA ?_|refine ZB ?_|refine ZR ?_|refine ZZ ?_|refine ZW ?_|refine Zf ?_|refine Za ?_|refine ZY ?_|refine Ze (fun b=>?_)|refine Zg (fun b=>?_)|refine Zd ?_|refine ZX ?_|refine ZF (hf) (fun _ _=>?_)|refine l_call0 (hf) (fun _ _=>?_)|refine ZT (hf) (fun _ _=>?_)|refine ZC (fun hc=>?_) (fun hc=>?_)|refine ZL (fun hc=>?_) (fun hc=>?_)|refine ZD 3 [] [(0,0),(1,0),(2,0),(3,0),(4,0),(5,4),(6,0)] [] ?_)
  rename_i q _
  refine l_fact (X:=Unit) (Fx:=fun _=>[]) (p:=fun _=>q=none) (f:=FdF q none) .here (fun h hh=>⟨(),hh,fun _ hx=>by cases hx⟩) (fun _ hp=>?_)
  subst hp
  repeat' (first|refine ZH ?_|refine ZG ?_|refine ZK ?_|refine ZI ?_|refine ZP ?_|refine ZJ ?_|refine ZM ?_|refine ZN (fun b=>?_)|refine ZO (fun b=>?_)|refine ZA ?_|refine ZB ?_|refine ZR ?_|refine ZZ ?_|refine ZW ?_|refine Zf ?_|refine Za ?_|refine ZY ?_|refine Ze (fun b=>?_)|refine Zg (fun b=>?_)|refine Zd ?_|refine ZX ?_|refine ZC (fun hc=>?_) (fun hc=>?_)|refine ZL (fun hc=>?_) (fun hc=>?_)|refine ZD 3 [] [(0,0),(1,0),(2,0),(3,0),(4,0),(5,4),(6,0)] [] ?_|refine ZE (fun hc=>?_) (fun hc=>?_))
  exact ZS () rfl trivial
 | some v=>
  rw [hfd] at hf
  repeat' (first|refine ZH ?_|refine ZG ?_|refine ZK ?_|refine ZI ?_|refine ZP ?_|refine ZJ ?_|refine ZM ?_|refine ZN (fun b=>?_)|refine ZO (fun b=>?_)|refine ZA ?_|refine ZB ?_|refine ZR ?_|refine ZZ ?_|refine ZW ?_|refine Zf ?_|refine Za ?_|refine ZY ?_|refine Ze (fun b=>?_)|refine Zg (fun b=>?_)|refine Zd ?_|refine ZX ?_|refine ZF (hf) (fun _ _=>?_)|refine l_call0 (hf) (fun _ _=>?_)|refine ZT (hf) (fun _ _=>?_)|refine ZC (fun hc=>?_) (fun hc=>?_)|refine ZL (fun hc=>?_) (fun hc=>?_)|refine ZD 3 [] [(0,0),(1,0),(2,0),(3,0),(4,0),(5,4),(6,0)] [] ?_)
  rename_i q _
  refine l_fact (X:=Nm) (Fx:=fun a=>[Nd q a v]) (p:=fun _=>True) (f:=FdF q (some v)) .here (fun h ⟨a,hh⟩=>⟨a,trivial,fun f hf=>by simp at hf;subst hf;exact hh⟩) (fun a' _=>?_)
  refine l_nd (p:=q) (a:=a') (v:=v) (fun bm pl' pr' x y z hp=>?_)
  subst hp
  repeat' (first|refine ZH ?_|refine ZG ?_|refine ZK ?_|refine ZI ?_|refine ZP ?_|refine ZJ ?_|refine ZM ?_|refine ZN (fun b=>?_)|refine ZO (fun b=>?_)|refine ZA ?_|refine ZB ?_|refine ZR ?_|refine ZZ ?_|refine ZW ?_|refine Zf ?_|refine Za ?_|refine ZY ?_|refine Ze (fun b=>?_)|refine Zg (fun b=>?_)|refine Zd ?_|refine ZX ?_|refine ZC (fun hc=>?_) (fun hc=>?_)|refine ZL (fun hc=>?_) (fun hc=>?_)|refine ZD 3 [] [(0,0),(1,0),(2,0),(3,0),(4,0),(5,4),(6,0)] [] ?_|refine ZE (fun hc=>?_) (fun hc=>?_))
  exact ZS () rfl trivial
variable {F' Fs:List Pf} {R' Rs N N' A:List HP} {k':List Fr} {L L':List (Nat×Nat)} {Tl:List Nat}
section
def ImpR (F:List Pf) (N:List HP) (F':List Pf) (N':List HP):Prop:=∀G w hp w',Sat G w hp F N w'→Sat G w hp F' N' w'
theorem ImpR.more {F F':List Pf} {N N':List HP} (h:ImpR F N F' N') (r:HP):ImpR F (r::N) F' (r::N'):=by
 intro G w hp w' hs
 have h0:Sat G w hp F (N++[r]) w':=hs.res fun k hk=>by
  have:=(sels_pre N r []).sep (h:=k) (by simpa using hk)
  simpa using this
 obtain ⟨G',hp',h1,h2⟩:=sat_frame (F1:=F) (A:=N) (R':=[r]) (hs:=h0) (sel:=by
  have:∀(A B:List HP),Sels A (A++B) B:=fun A B=>by
   induction A with
   | nil=>exact .nil
   | cons x A ih=>exact .cons .here ih
  exact this N [r]) fun _ h=>h
 have h3:=h2 _ _ _ (h _ _ _ _ h1)
 refine (h3.facts (F':=F') fun hp hF x hx=>hF x (List.mem_append_left _ hx)).res fun k hk=>?_
 obtain ⟨k1,k2,d,s1,s2,a1,a2⟩:=YB hk
 obtain ⟨j1,j2,d',t1,t2,b1,_⟩:=a2
 exact ⟨j1,k1,(d.symm.sub t1),t1.trans s2,s1,b1,a1⟩
section
variable {P:Program} {T:Tab} {ds:List Deferred} {ops:Array Oper} {End:Env→List Pf→List HP→Prop}
theorem WS.imp (hEnd:∀e F N F' N',ImpR F N F' N'→End e F' N'→End e F N):∀(L:List (Nat×Nat)) (hs:H) (e:Env) (F:List Pf) (N:List HP) (F':List Pf) (N':List HP),(L.all fun y=>y.2 != 5)=true→ImpR F N F' N'→WS P T n ds ops hs End L e F' N'→WS P T n ds ops hs End L e F N
 | [],_,e,F,N,F',N',_,p,h=>hEnd e F N F' N' p h
 | (i,k)::L,hs,e,F,N,F',N',h5,p,h=>by
  rw [List.all_cons,Bool.and_eq_true] at h5
  obtain ⟨h50,h5⟩:=h5
  intro o ho
  have h:=h o ho
  cases hw:wantF ops e o with
  | none=>simp only [hw] at h
  | some b=>
   cases b with
   | false=>
    simp only [hw] at h
    exact WS.imp hEnd L _ _ F N F' N' h5 p h
   | true=>
    simp only [hw] at h
    split at h
    ·obtain ⟨v,h1,h2⟩:=h
     exact ⟨v,h1,WS.imp hEnd L _ _ F N F' N' h5 p h2⟩
    ·obtain ⟨obj,mk,h1,h2⟩:=h
     exact ⟨obj,mk,h1,fun b=>WS.imp hEnd L _ _ F (Pt b obj::N) F' (Pt b obj::N') h5 (p.more _) (h2 b)⟩
    ·obtain ⟨obj,mk,h1,h2⟩:=h
     exact ⟨obj,mk,h1,fun b hb=>WS.imp hEnd L _ _ F N F' N' h5 p (h2 b hb)⟩
    ·obtain ⟨v,h1,h2⟩:=h
     exact ⟨v,fun a G w hp ha hsub hsat=>h1 a G w hp ha hsub (p _ _ _ _ hsat),WS.imp hEnd L _ _ F N F' N' h5 p h2⟩
    ·obtain ⟨post,h1,h2⟩:=h
     exact ⟨post,fun a G w hp ha hsub hsat=>h1 a G w hp ha hsub (p _ _ _ _ hsat),h2⟩
    ·cases h50
    ·exact h.elim
end
variable {l:List Oper}
theorem r_imp (p:ImpR F N F' N') (t:Wr n C ops k Q Tl Fs R L E F' N') (h5:(L.all fun y=>y.2 != 5)=true):Wr n C ops k Q Tl Fs R L E F N:=fun hp hr w st hz sb=>
 WS.imp (fun _ _ _ _ _ p h a w ha hs=>h a w ha (p _ _ _ _ hs)) L _ _ F N F' N' h5 p (t hp hr w st hz sb)
theorem r_fz {b:Nat} {o:Obj} (t:Wr n C ops k Q Tl Fs R L E (Blk b o::F) N') (hs:Sel (Pt b o) N N':=by (repeat (first|exact Sel.here|apply Sel.there));first|done|fail) (h5:(L.all fun y=>y.2 != 5)=true:=by rfl):Wr n C ops k Q Tl Fs R L E F N:=
 r_imp (fun _ _ _ _ h=>(h.sel hs).freeze) t h5
theorem r_mk {f:Pf} (h:∀hp,(∀x ∈ F1,x.p hp)→f.p hp) (t:Wr n C ops k Q Tl Fs R L E (f::F) N) (hF:EntF F F1:=by (repeat (first|exact trivial|exact Sel.here|apply Sel.there|apply EntF.cons));first|done|fail) (h5:(L.all fun y=>y.2 != 5)=true:=by rfl):Wr n C ops k Q Tl Fs R L E F N:=
 r_imp (fun _ _ _ _ ⟨hp,_,st⟩=>Yw st (h hp (hF.all hp st.f))) t h5
theorem Spec.imp {P:Program} {f:FuncId} {args:Array Value} {post post':Post} (h:Spec P f args F R post)
  (k:∀G w hp x w',post.pure x→Sat G w hp (post.F x) (post.R x) w'→post'.holds G w hp (.returned (post.val x)) w'):Spec P f args F R post':=fun G w hp hs=>
 (h G w hp hs).mono (by rintro e w' ⟨x,rfl,hx,hs⟩;exact k G w hp x w' hx hs)
end
theorem Wu {a:Nm} (ha:a.owner.size≤1099511627770) {t:Tr} (p:Option Addr) (ht:Okt t) (hf:Tr.find a t=none):Enters 124∧Spec prog 124 #[.pointer p,a.v] [TrF p t] [] (RetV (.pointer none)):=by
 have h:=find_ok a ha t p ht
 rw [hf] at h
 refine ⟨h.1,h.2.imp ?_⟩
 rintro G w hp q w' _ ⟨hp',hr,st⟩
 have hq:q=none:=st.f (FdF q none) (by simp)
 subst hq
 exact ⟨(),rfl,trivial,hp',hr,st.inp,st.inr,st.ing,st.d1,st.d2,st.d3,st.sub,(fun _ h=>by cases h),st.r,st.same⟩
theorem Wt {a:Nm} (ha:a.owner.size≤1099511627770) {t:Tr} (p:Option Addr) (ht:Okt t) {v:ByteArray} (hf:Tr.find a t=some v):Enters 124∧Spec prog 124 #[.pointer p,a.v] [TrF p t] []
  ⟨Nat,fun b=>.pointer (some ⟨b,0,none⟩),fun _=>True,fun b=>[FdF (some ⟨b,0,none⟩) (some v)],fun _=>[]⟩:=by
 have h:=find_ok a ha t p ht
 rw [hf] at h
 refine ⟨h.1,h.2.imp ?_⟩
 rintro G w hp q w' _ hs
 obtain ⟨hp',hr,st⟩:=hs
 obtain ⟨a',b,pl,pr,x,y,z,hq,h2⟩:∃a',(Nd q a' v).p hp':=st.f (FdF q (some v)) (by simp)
 subst hq
 exact ⟨b,rfl,trivial,hp',hr,st⟩
theorem insO_same (a:Nm) (v:ByteArray):∀l:Al,Srt l→getO a l≠none→(insO a v l).length=l.length
 | [],_,h=>absurd rfl h
 | (b,u)::l,hs,h=>by
  have hp:=List.pairwise_cons.1 hs
  rw [getO] at h
  unfold insO
  by_cases h0:cmpO a b=0
  ·rw [if_neg (by omega),if_neg (by omega)];simp
  ·rw [if_neg h0] at h
   split
   ·rename_i hc
    exact absurd (XO fun x hx=>by have:=Y6 hc (hp.1 x hx);omega) h
   ·rw [if_pos (by omega)]
    simp [insO_same a v l hp.2 h]
def withE (es:Al) (a:Nm) (v:ByteArray):Int:=if nchk a≠0 then 12 else if 65536<v.size then 5 else if 65536≤es.length∧getO a es=none then 9 else 0
def StR (q:Option Addr) (e:Int) (es:Al):Pf:=if e=0 then St q es else ⟨fun _=>q=none,fun _ _ _ h=>h⟩
theorem stOK_ins {es:Al} {a:Nm} {v:ByteArray} (h:StOK es) (ha:a.owner.size≤1099511627770) (he:withE es a v=0):StOK (insO a v es):=by
 have hl:=h.len
 have h1:=insO_len a v es
 unfold withE at he
 split at he
 ·cases he
 ·split at he
  ·cases he
  ·split at he
   ·cases he
   ·rename_i h3 h4 h5
    refine ⟨srt_ins a v es h.srt,?_,fun x hx=>?_,fun x hx=>?_⟩
    ·by_cases h6:getO a es=none
     ·have:¬65536≤es.length:=fun h7=>h5 ⟨h7,h6⟩
      omega
     ·rw [insO_same a v es h.srt h6];exact hl
    ·rcases Wa a v es x hx with rfl|hx
     ·exact ha
     ·exact h.own x hx
    ·rcases Wa a v es x hx with rfl|hx
     ·show v.size≤65536;omega
     ·exact h.val x hx
set_option maxHeartbeats 1000000 in
theorem stateWith_ok (ps:Option Addr) (es:Al) (a:Nm) (v:ByteArray) (ha:a.owner.size≤1099511627770) (hat:a.text.size≤1099511627776):Enters 63∧Spec prog 63 #[.pointer ps,a.v,.string v] [St ps es,Usg] []
  ⟨Option Addr,fun q=>.tuple #[.pointer q,.int .i64 (withE es a v)],fun _=>True,fun q=>[StR q (withE es a v) (insO a v es)],fun _=>[]⟩:=by
 have hchk:=nameCheck_ok a (by omega) hat
 refine Zb [_,_,_] func63 ntmps63 fun G w hp=>?_
 refine k_mk (F1:=[St ps es]) (f:=St ps es) (fun hp hF=>hF _ (by simp)) ?_
 refine k_st (ps:=ps) (es:=es) (fun bs p t hp he hok=>?_)
 have hst:∀q:Option Addr,q=none→withE es a v≠0→∀hp:H,(StR q (withE es a v) (insO a v es)).p hp:=fun q hq hne hp=>by
  unfold StR;rw [if_neg hne];exact hq
 subst hp
 by_cases h1:nchk a=0
 ·rw [h1] at hchk
  by_cases h2:65536<v.size
  ·have he:withE es a v=5:=by rw [withE,if_neg (by simp [h1]),if_pos h2]
   rw [he] at hst ⊢
   repeat' (first|refine ZH ?_|refine ZG ?_|refine ZK ?_|refine ZI ?_|refine ZP ?_|refine ZJ ?_|refine ZM ?_|refine ZN (fun b=>?_)|refine ZO (fun b=>?_)|refine ZA ?_|refine ZB ?_|refine ZR ?_|refine ZZ ?_|refine ZW ?_|refine Zf ?_|refine Za ?_|refine ZY ?_|refine Ze (fun b=>?_)|refine Zg (fun b=>?_)|refine Zd ?_|refine ZX ?_|refine ZF (hchk) (fun _ _=>?_)|refine l_call0 (hchk) (fun _ _=>?_)|refine ZT (hchk) (fun _ _=>?_)|(refine ZC (fun hc=>?_) (fun hc=>?_)<;>(try simp at hc)<;>(try omega))|(refine ZL (fun hc=>?_) (fun hc=>?_)<;>(try simp at hc)<;>(try omega))|refine ZD 7 [] [(0,0),(1,4),(2,0),(3,0),(4,0),(5,0),(6,0),(7,0),(8,0),(9,4),(10,0),(11,0),(12,0)] [] ?_|refine ZD 9 [] [(0,0),(1,0),(2,0),(3,0),(4,0),(5,0),(6,0),(7,1),(8,4),(9,0),(10,1),(11,0),(12,0)] [] ?_|(refine ZE (fun hc=>?_) (fun hc=>?_)<;>(try simp at hc)<;>(try omega)))
   refine k_add (hst none rfl (by decide)) ?_
   exact ZS none rfl trivial
  ·have hfd:=Wg a t (he ▸ hok.srt)
   by_cases h3:65536≤es.length∧getO a es=none
   ·have he9:withE es a v=9:=by rw [withE,if_neg (by simp [h1]),if_neg h2,if_pos h3]
    rw [he9] at hst ⊢
    repeat' (first|refine ZH ?_|refine ZG ?_|refine ZK ?_|refine ZI ?_|refine ZP ?_|refine ZJ ?_|refine ZM ?_|refine ZN (fun b=>?_)|refine ZO (fun b=>?_)|refine ZA ?_|refine ZB ?_|refine ZR ?_|refine ZZ ?_|refine ZW ?_|refine Zf ?_|refine Za ?_|refine ZY ?_|refine Ze (fun b=>?_)|refine Zg (fun b=>?_)|refine Zd ?_|refine ZX ?_|refine ZF (hchk) (fun _ _=>?_)|refine l_call0 (hchk) (fun _ _=>?_)|refine ZT (hchk) (fun _ _=>?_)|refine ZF (Ye (some ⟨bs,0,none⟩) es) (fun _ _=>?_)|refine l_call0 (Ye (some ⟨bs,0,none⟩) es) (fun _ _=>?_)|refine ZT (Ye (some ⟨bs,0,none⟩) es) (fun _ _=>?_)|refine ZF (Wu ha p (StOK.okt (he ▸ hok)) (by rw [hfd,he];exact h3.2)) (fun _ _=>?_)|refine l_call0 (Wu ha p (StOK.okt (he ▸ hok)) (by rw [hfd,he];exact h3.2)) (fun _ _=>?_)|refine ZT (Wu ha p (StOK.okt (he ▸ hok)) (by rw [hfd,he];exact h3.2)) (fun _ _=>?_)|(refine ZC (fun hc=>?_) (fun hc=>?_)<;>(try simp at hc)<;>(try omega))|(refine ZL (fun hc=>?_) (fun hc=>?_)<;>(try simp at hc)<;>(try omega))|refine ZD 7 [] [(0,0),(1,4),(2,0),(3,0),(4,0),(5,0),(6,0),(7,0),(8,0),(9,4),(10,0),(11,0),(12,0)] [] ?_|refine ZD 9 [] [(0,0),(1,0),(2,0),(3,0),(4,0),(5,0),(6,0),(7,1),(8,4),(9,0),(10,1),(11,0),(12,0)] [] ?_|(refine ZE (fun hc=>?_) (fun hc=>?_)<;>(try simp at hc)<;>(try omega)))
    refine k_add (hst none rfl (by decide)) ?_
    exact ZS none rfl trivial
   ·have he0:withE es a v=0:=by rw [withE,if_neg (by simp [h1]),if_neg h2,if_neg h3]
    have hok2:=stOK_ins hok ha he0
    rw [he0]
    have hokt:Okt t:=StOK.okt (he ▸ hok)
    have hels:(Tr.put a v t).els=insO a v es:=by rw [els_put a v t (he ▸ hok.srt),he]
    have hX:65536≤es.length→Tr.find a t=some ((getO a es).getD ⟨#[]⟩):=fun h4=>by
     rw [hfd,he]
     cases hg:getO a es with
     | none=>exact absurd ⟨h4,hg⟩ h3
     | some v0=>rfl
    repeat' (first|refine ZH ?_|refine ZG ?_|refine ZK ?_|refine ZI ?_|refine ZP ?_|refine ZJ ?_|refine ZM ?_|refine ZN (fun b=>?_)|refine ZO (fun b=>?_)|refine ZA ?_|refine ZB ?_|refine ZR ?_|refine ZZ ?_|refine ZW ?_|refine Zf ?_|refine Za ?_|refine ZY ?_|refine Ze (fun b=>?_)|refine Zg (fun b=>?_)|refine Zd ?_|refine ZX ?_|refine ZF (hchk) (fun _ _=>?_)|refine l_call0 (hchk) (fun _ _=>?_)|refine ZT (hchk) (fun _ _=>?_)|refine ZF (Ye (some ⟨bs,0,none⟩) es) (fun _ _=>?_)|refine l_call0 (Ye (some ⟨bs,0,none⟩) es) (fun _ _=>?_)|refine ZT (Ye (some ⟨bs,0,none⟩) es) (fun _ _=>?_)|refine ZF (Wt ha p hokt (hX (by omega))) (fun _ _=>?_)|refine l_call0 (Wt ha p hokt (hX (by omega))) (fun _ _=>?_)|refine ZT (Wt ha p hokt (hX (by omega))) (fun _ _=>?_)|(refine ZC (fun hc=>?_) (fun hc=>?_)<;>(try simp at hc)<;>(try omega))|(refine ZL (fun hc=>?_) (fun hc=>?_)<;>(try simp at hc)<;>(try omega))|refine ZD 7 [] [(0,0),(1,4),(2,0),(3,0),(4,0),(5,0),(6,0),(7,0),(8,0),(9,4),(10,0),(11,0),(12,0)] [] ?_|(refine ZE (fun hc=>?_) (fun hc=>?_)<;>(try simp at hc)<;>(try omega)))
    all_goals refine ZD 9 [] [(0,0),(1,0),(2,0),(3,0),(4,0),(5,0),(6,0),(7,1),(8,4),(9,0),(10,1),(11,0),(12,0)] [] ?_
    all_goals repeat' (first|refine ZH ?_|refine ZG ?_|refine ZK ?_|refine ZI ?_|refine ZP ?_|refine ZJ ?_|refine ZM ?_|refine ZN (fun b=>?_)|refine ZO (fun b=>?_)|refine ZA ?_|refine ZB ?_|refine ZR ?_|refine ZZ ?_|refine ZW ?_|refine Zf ?_|refine Za ?_|refine ZY ?_|refine Ze (fun b=>?_)|refine Zg (fun b=>?_)|refine Zd ?_|refine ZX ?_|refine ZC (fun hc=>?_) (fun hc=>?_)|refine ZL (fun hc=>?_) (fun hc=>?_)|refine ZD 7 [] [(0,0),(1,4),(2,0),(3,0),(4,0),(5,0),(6,0),(7,0),(8,0),(9,4),(10,0),(11,0),(12,0)] [] ?_|refine ZD 9 [] [(0,0),(1,0),(2,0),(3,0),(4,0),(5,0),(6,0),(7,1),(8,4),(9,0),(10,1),(11,0),(12,0)] [] ?_|refine ZE (fun hc=>?_) (fun hc=>?_))
    all_goals
     refine r_fz (b:=b) ?_
     refine r_mk (F1:=[Blk b (ndc none none a v 0 0 0)]) (f:=Nd (some ⟨b,0,none⟩) a v) (fun hp hF=>⟨b,none,none,0,0,0,rfl,hF (Blk b (ndc none none a v 0 0 0)) (by simp)⟩) ?_
     refine ZT (with_ok a v (some ⟨b,0,none⟩) ha (by omega) t p hokt) (fun q _=>?_)
    all_goals repeat' (first|refine ZH ?_|refine ZG ?_|refine ZK ?_|refine ZI ?_|refine ZP ?_|refine ZJ ?_|refine ZM ?_|refine ZN (fun b=>?_)|refine ZO (fun b=>?_)|refine ZA ?_|refine ZB ?_|refine ZR ?_|refine ZZ ?_|refine ZW ?_|refine Zf ?_|refine Za ?_|refine ZY ?_|refine Ze (fun b=>?_)|refine Zg (fun b=>?_)|refine Zd ?_|refine ZX ?_|refine ZC (fun hc=>?_) (fun hc=>?_)|refine ZL (fun hc=>?_) (fun hc=>?_)|refine ZD 7 [] [(0,0),(1,4),(2,0),(3,0),(4,0),(5,0),(6,0),(7,0),(8,0),(9,4),(10,0),(11,0),(12,0)] [] ?_|refine ZD 9 [] [(0,0),(1,0),(2,0),(3,0),(4,0),(5,0),(6,0),(7,1),(8,4),(9,0),(10,1),(11,0),(12,0)] [] ?_|refine ZE (fun hc=>?_) (fun hc=>?_))
    all_goals
     rename_i q _ _
     refine YZ (b:=b) ?_
     refine k_mk (F1:=[Blk b (.cells #[.pointer (some ⟨q,0,none⟩)] 156),TrF (some ⟨q,0,none⟩) (Tr.put a v t)]) (f:=StR (some ⟨b,0,none⟩) 0 (insO a v es)) (fun hp hF=>⟨Tr.put a v t,hels,hok2,b,_,rfl,hF (Blk b (.cells #[.pointer (some ⟨q,0,none⟩)] 156)) (by simp),hF (TrF (some ⟨q,0,none⟩) (Tr.put a v t)) (by simp)⟩) ?_
     exact ZS (some ⟨b,0,none⟩) rfl trivial
 ·have he:withE es a v=12:=by rw [withE,if_pos h1]
  rw [he] at hst ⊢
  have hb:(nchk a != 0)=true:=by simp [h1]
  repeat' (first|refine ZH ?_|refine ZG ?_|refine ZK ?_|refine ZI ?_|refine ZP ?_|refine ZJ ?_|refine ZM ?_|refine ZN (fun b=>?_)|refine ZO (fun b=>?_)|refine ZA ?_|refine ZB ?_|refine ZR ?_|refine ZZ ?_|refine ZW ?_|refine Zf ?_|refine Za ?_|refine ZY ?_|refine Ze (fun b=>?_)|refine Zg (fun b=>?_)|refine Zd ?_|refine ZX ?_|refine ZF (hchk) (fun _ _=>?_)|refine l_call0 (hchk) (fun _ _=>?_)|refine ZT (hchk) (fun _ _=>?_)|(refine ZC (fun hc=>?_) (fun hc=>?_)<;>(try simp at hc)<;>(try omega))|(refine ZL (fun hc=>?_) (fun hc=>?_)<;>(try simp at hc)<;>(try omega))|refine ZD 7 [] [(0,0),(1,4),(2,0),(3,0),(4,0),(5,0),(6,0),(7,0),(8,0),(9,4),(10,0),(11,0),(12,0)] [] ?_|refine ZD 9 [] [(0,0),(1,0),(2,0),(3,0),(4,0),(5,0),(6,0),(7,1),(8,4),(9,0),(10,1),(11,0),(12,0)] [] ?_|(refine ZE (fun hc=>?_) (fun hc=>?_)<;>(try simp at hc)<;>(try omega)))
  refine k_add (hst none rfl (by decide)) ?_
  exact ZS none rfl trivial
abbrev El:=Nat×Nm×ByteArray
def elv (e:El):Value:=.pointer (some ⟨e.1,0,none⟩)
inductive AT where
 | nil
 | node (b:Nat) (l:AT) (a:Nm) (v:ByteArray) (r:AT)
namespace AT
def ptr:AT→Option Addr
 | nil=>none
 | node b _ _ _ _=>some ⟨b,0,none⟩
def tr:AT→Tr
 | nil=>.nil
 | node _ l a v r=>.node l.tr a v r.tr
def els:AT→List El
 | nil=>[]
 | node b l a v r=>l.els++(b,a,v)::r.els
def P:AT→H→Prop
 | nil,_=>True
 | node b l a v r,h=>h b=some (ndc l.ptr r.ptr a v (Tr.node l.tr a v r.tr).ht (Tr.node l.tr a v r.tr).sz (Tr.node l.tr a v r.tr).by_)∧l.P h∧r.P h
theorem mono:∀(t:AT) (h k:H),Sub h k→t.P h→t.P k
 | nil,_,_,_,_=>trivial
 | node _ l _ _ r,h,k,s,⟨h1,h2,h3⟩=>⟨s _ _ h1,mono l h k s h2,mono r h k s h3⟩
theorem tr_els:∀t:AT,t.tr.els=t.els.map (·.2)
 | nil=>rfl
 | node _ l a v r=>by simp [tr,els,Tr.els,tr_els l,tr_els r]
theorem of_tr:∀(t:Tr) (p:Option Addr) (h:H),TrP p t h→∃x:AT,x.tr=t∧p=x.ptr∧x.P h
 | .nil,p,h,hh=>⟨nil,rfl,hh,trivial⟩
 | .node l a v r,p,h,⟨b,pl,pr,h1,h2,h3,h4⟩=>by
  obtain ⟨xl,rfl,rfl,ql⟩:=of_tr l pl h h3
  obtain ⟨xr,rfl,rfl,qr⟩:=of_tr r pr h h4
  exact ⟨node b xl a v xr,rfl,h1,h2,ql,qr⟩
theorem nd:∀(t:AT) (h:H),t.P h→∀e ∈ t.els,(Nd (some ⟨e.1,0,none⟩) e.2.1 e.2.2).p h
 | nil,_,_,e,he=>by cases he
 | node b l a v r,h,⟨h1,h2,h3⟩,e,he=>by
  rcases List.mem_append.1 he with he|he
  ·exact nd l h h2 e he
  ·rcases List.mem_cons.1 he with rfl|he
   ·exact ⟨b,_,_,_,_,_,rfl,h1⟩
   ·exact nd r h h3 e he
end AT
def AtF (t:AT):Pf:=⟨t.P,t.mono⟩
def EPost {α:Type} (I Ix:List α→HP) (ys xs:List α):Post:=⟨Option (List α),fun r=>.bool r.isNone,fun r=>∀q,r=some q→q <+: xs,fun _=>[],fun r=>[match r with|none=>I ys|some q=>Ix q]⟩
set_option maxHeartbeats 1000000 in
theorem each_ok (v:Value) (Y:Pf) (I Ix:List El→HP) (xs:List El) (hy:∀pre e,pre++[e] <+: xs→SpecV v [elv e] [Y] [I pre] (YPost I Ix pre e)):∀(t:AT) (pre:List El),pre++t.els <+: xs→
  Enters 216∧Spec prog 216 #[.pointer t.ptr,v] [Y,AtF t] [I pre] (EPost I Ix (pre++t.els) xs):=by
 intro t
 induction t with
 | nil=>
  intro pre hpre
  refine Zb [_,_] func216 ntmps216 fun G w hp=>?_
  repeat' (first|refine ZH ?_|refine ZG ?_|refine ZK ?_|refine ZI ?_|refine ZP ?_|refine ZJ ?_|refine ZM ?_|refine ZN (fun b=>?_)|refine ZO (fun b=>?_)|refine ZA ?_|refine ZB ?_|refine ZR ?_|refine ZC (fun hc=>?_) (fun hc=>?_)|refine ZE (fun hc=>?_) (fun hc=>?_))
  simp only [AT.els,List.append_nil]
  exact ZS none rfl (fun q hq=>by cases hq)
 | node b l a u r ihl ihr=>
  intro pre hpre
  have e0:pre++(AT.node b l a u r).els=pre++l.els++[(b,a,u)]++r.els:=by simp [AT.els]
  rw [e0] at hpre ⊢
  have p1:pre++l.els <+: xs:=List.IsPrefix.trans ⟨[(b,a,u)]++r.els,by simp⟩ hpre
  have p2:pre++l.els++[(b,a,u)] <+: xs:=List.IsPrefix.trans ⟨r.els,by simp⟩ hpre
  have hl:=ihl pre p1
  have hr:=ihr (pre++l.els++[(b,a,u)]) hpre
  have hyy:=hy (pre++l.els) (b,a,u) p2
  refine Zb [_,_] func216 ntmps216 fun G w hp=>?_
  refine Z1 (X:=Unit) (Fx:=fun _=>[Blk b (ndc l.ptr r.ptr a u (Tr.node l.tr a u r.tr).ht (Tr.node l.tr a u r.tr).sz (Tr.node l.tr a u r.tr).by_),AtF l,AtF r]) (p:=fun _=>True) (f:=AtF (.node b l a u r)) (.there .here) (fun h ⟨h1,h2,h3⟩=>⟨(),trivial,fun f hf=>by
   simp only [List.mem_cons,List.not_mem_nil,or_false] at hf
   rcases hf with rfl|rfl|rfl
   ·exact h1
   ·exact h2
   ·exact h3⟩) (fun _ _=>?_)
  repeat' (first|refine ZH ?_|refine ZG ?_|refine ZK ?_|refine ZI ?_|refine ZP ?_|refine ZJ ?_|refine ZM ?_|refine ZN (fun b=>?_)|refine ZO (fun b=>?_)|refine ZA ?_|refine ZB ?_|refine ZR ?_|refine ZC (fun hc=>?_) (fun hc=>?_)|refine ZE (fun hc=>?_) (fun hc=>?_))
  refine ZF hl (fun q hq=>?_)
  cases q with
  | some q=>
   repeat' (first|refine ZH ?_|refine ZG ?_|refine ZK ?_|refine ZI ?_|refine ZP ?_|refine ZJ ?_|refine ZM ?_|refine ZN (fun b=>?_)|refine ZO (fun b=>?_)|refine ZA ?_|refine ZB ?_|refine ZR ?_|refine ZC (fun hc=>?_) (fun hc=>?_)|refine ZE (fun hc=>?_) (fun hc=>?_))
   exact ZS (some q) rfl hq
  | none=>
   repeat' (first|refine ZH ?_|refine ZG ?_|refine ZK ?_|refine ZI ?_|refine ZP ?_|refine ZJ ?_|refine ZM ?_|refine ZN (fun b=>?_)|refine ZO (fun b=>?_)|refine ZA ?_|refine ZB ?_|refine ZR ?_|refine ZC (fun hc=>?_) (fun hc=>?_)|refine ZE (fun hc=>?_) (fun hc=>?_))
   refine Yg hyy (fun bb _=>?_)
   cases bb with
   | false=>
    repeat' (first|refine ZH ?_|refine ZG ?_|refine ZK ?_|refine ZI ?_|refine ZP ?_|refine ZJ ?_|refine ZM ?_|refine ZN (fun b=>?_)|refine ZO (fun b=>?_)|refine ZA ?_|refine ZB ?_|refine ZR ?_|refine ZC (fun hc=>?_) (fun hc=>?_)|refine ZE (fun hc=>?_) (fun hc=>?_))
    exact ZS (some (pre++l.els++[(b,a,u)])) rfl (fun q hq=>by cases hq;exact p2)
   | true=>
    repeat' (first|refine ZH ?_|refine ZG ?_|refine ZK ?_|refine ZI ?_|refine ZP ?_|refine ZJ ?_|refine ZM ?_|refine ZN (fun b=>?_)|refine ZO (fun b=>?_)|refine ZA ?_|refine ZB ?_|refine ZR ?_|refine ZC (fun hc=>?_) (fun hc=>?_)|refine ZE (fun hc=>?_) (fun hc=>?_))
    refine ZF hr (fun q hq=>?_)
    repeat' (first|refine ZH ?_|refine ZG ?_|refine ZK ?_|refine ZI ?_|refine ZP ?_|refine ZJ ?_|refine ZM ?_|refine ZN (fun b=>?_)|refine ZO (fun b=>?_)|refine ZA ?_|refine ZB ?_|refine ZR ?_|refine ZC (fun hc=>?_) (fun hc=>?_)|refine ZE (fun hc=>?_) (fun hc=>?_))
    exact ZS q rfl hq
theorem nodes_ok (ps:Option Addr):Enters 184∧Spec prog 184 #[.pointer ps] [] []
  ⟨Nat,fun b=>.func (.func 215) #[] #[.pointer (some ⟨b,0,none⟩)],fun _=>True,fun b=>[Blk b (.cells #[.pointer ps] 52)],fun _=>[]⟩:=by
 refine Zb [_] func184 ntmps184 fun G w hp=>?_
 repeat' (first|refine ZH ?_|refine ZG ?_|refine ZK ?_|refine ZI ?_|refine ZP ?_|refine ZJ ?_|refine ZM ?_|refine ZN (fun b=>?_)|refine ZO (fun b=>?_)|refine ZA ?_|refine ZB ?_|refine ZR ?_|refine ZC (fun hc=>?_) (fun hc=>?_)|refine ZE (fun hc=>?_) (fun hc=>?_))
 refine YZ ?_
 exact ZS b rfl trivial
theorem nodes1_iter (b bs:Nat) (t:AT):Iter 215 [.pointer (some ⟨b,0,none⟩)] elv t.els [Blk b (.cells #[.pointer (some ⟨bs,0,none⟩)] 52),Blk bs (.cells #[.pointer t.ptr] 156),AtF t] []:=by
 intro v Y I Ix hy
 have he:=each_ok v Y I Ix t.els hy t [] (by simp)
 refine Zb [_,_] func215 ntmps215 fun G w hp=>?_
 repeat' (first|refine ZH ?_|refine ZG ?_|refine ZK ?_|refine ZI ?_|refine ZP ?_|refine ZJ ?_|refine ZM ?_|refine ZN (fun b=>?_)|refine ZO (fun b=>?_)|refine ZA ?_|refine ZB ?_|refine ZR ?_|refine ZF (he) (fun _ _=>?_)|refine l_call0 (he) (fun _ _=>?_)|refine ZC (fun hc=>?_) (fun hc=>?_)|refine ZE (fun hc=>?_) (fun hc=>?_))
 rename_i r hr
 cases r with
 | none=>exact XB none rfl (fun q hq=>by cases hq)
 | some q=>exact XB (some q) rfl (fun q' hq=>by cases hq;exact hr q rfl)
def nmf (a:Nm):List Value:=[.int .i64 a.kind,.string a.owner,.int .i64 a.number,.int .i64 a.index,.string a.text]
def kn (es:Al) (k:Int):List Nm:=(es.filter fun x=>x.1.kind == k).map (·.1)
def kne (l:List El) (k:Int):List Nm:=(l.filter fun x=>x.2.1.kind == k).map (·.2.1)
theorem kne_eq (t:AT) (k:Int):kne t.els k=kn t.tr.els k:=by
 rw [AT.tr_els,kn,kne,List.filter_map,List.map_map];rfl
abbrev JKL (bk b5:Nat) (k:Int) (pre:List El) (q:Option Addr×Nat):List HP:=[Pt bk (.cells #[.int .i64 k] 3),Pt b5 (.cells #[.slice q.1 (kne pre k).length q.2] 87),Row 46 5 q.1 (kne pre k).length q.2 ((kne pre k).flatMap nmf)]
def JK (bk b5:Nat) (k:Int) (pre:List El):HP:=fun h=>∃q,True∧Sep (JKL bk b5 k pre q) h
set_option maxHeartbeats 1000000 in
theorem kind_ok (ps:Option Addr) (es:Al) (k:Int):Enters 133∧Spec prog 133 #[.pointer ps,.int .i64 k] [St ps es] []
  ⟨Option Addr×Nat,fun q=>.slice q.1 (kn es k).length q.2,fun _=>True,fun q=>[Sl 46 nmf q.1 q.2 (kn es k)],fun _=>[]⟩:=by
 refine ⟨enters_of func133 (by kernel_rfl) rfl,spec_ofM (vs:=[_,_]) func133 rfl ntmps133 rfl fun G w hp=>?_⟩
 refine k_st (ps:=ps) (es:=es) (fun bs p t hp he hok=>?_)
 subst hp
 refine Z1 (X:=AT) (Fx:=fun x=>[AtF x]) (p:=fun x=>x.tr=t∧p=x.ptr) (f:=TrF p t) (.there .here) (fun h hh=>let ⟨x,h1,h2,h3⟩:=AT.of_tr t p h hh;⟨x,⟨h1,h2⟩,fun f hf=>by simp at hf;subst hf;exact h3⟩) (fun x hx=>?_)
 obtain ⟨rfl,rfl⟩:=hx
 have hlen:x.els.length≤65536:=by
  have:=hok.len
  rw [←he,AT.tr_els] at this
  simpa using this
 repeat' (first|refine ZH ?_|refine ZG ?_|refine ZK ?_|refine ZI ?_|refine ZP ?_|refine ZJ ?_|refine ZM ?_|refine ZN (fun b=>?_)|refine ZO (fun b=>?_)|refine ZA ?_|refine ZB ?_|refine ZR ?_|refine ZZ ?_|refine ZW ?_|refine Zf ?_|refine Za ?_|refine ZY ?_|refine Ze (fun b=>?_)|refine Zg (fun b=>?_)|refine Zd ?_|refine ZX ?_|refine ZF (nodes_ok _) (fun _ _=>?_)|refine l_call0 (nodes_ok _) (fun _ _=>?_)|refine ZT (nodes_ok _) (fun _ _=>?_)|refine ZC (fun hc=>?_) (fun hc=>?_)|refine ZL (fun hc=>?_) (fun hc=>?_)|refine ZD 4 [] [(0,0),(1,0),(2,0),(3,0),(4,0),(5,0),(6,0)] [] ?_|refine ZD 5 [] [(0,0),(1,0),(2,0),(3,0),(4,0),(5,1),(6,4)] [7] ?_|refine ZE (fun hc=>?_) (fun hc=>?_))
 rename_i bk q _
 generalize b=b5
 refine Zs (Lx:=[]) (r:=Row 46 5 none 0 0 []) (fun h _=>YQ _ _ h) ?_
 refine Zs (Lx:=JKL bk b5 k [] (none,0)) (r:=JK bk b5 k []) (fun h hh=>⟨(none,0),trivial,hh⟩) ?_
 refine k_range (α:=El) (enc:=elv) (xs:=x.els) (JK bk b5 k) (fun _ _=>False) (nodes1_iter q bs x) ?_ ?_ ?_
 ·intro lr l pre e hpre G w0 hp0
  have hple:=hpre.length_le
  simp only [List.length_append,List.length_singleton] at hple
  have hkl:(kne pre k).length≤pre.length:=by simp only [kne,List.length_map];exact List.length_filter_le ..
  refine Yo (X:=Option Addr×Nat) (Lx:=fun q=>JKL bk b5 k pre q) (p:=fun _=>True) (r:=JK bk b5 k pre) (.there .here) (fun h hh=>hh) (fun q _=>?_)
  refine k_mk (F1:=[AtF x]) (f:=Nd (some ⟨e.1,0,none⟩) e.2.1 e.2.2) (fun hp hF=>x.nd hp (hF (AtF x) (by simp)) e (hpre.subset (by simp))) ?_
  refine k_nd (p:=some ⟨e.1,0,none⟩) (a:=e.2.1) (v:=e.2.2) (fun bm pl' pr' y0 y1 y2 hp=>?_)
  obtain ⟨eb,ea,ev⟩:=e
  dsimp only at hp ⊢
  obtain rfl:eb=bm:=by injection hp with hp;injection hp
  repeat' (first|refine ZH ?_|refine ZG ?_|refine ZK ?_|refine ZI ?_|refine ZP ?_|refine ZJ ?_|refine ZM ?_|refine ZN (fun b=>?_)|refine ZO (fun b=>?_)|refine ZA ?_|refine ZB ?_|refine ZR ?_|refine ZZ ?_|refine ZW ?_|refine Zf ?_|refine Za ?_|refine ZY ?_|refine Ze (fun b=>?_)|refine Zg (fun b=>?_)|refine Zd ?_|refine ZX ?_|refine k_beg ?_|refine Xo (fun o' cap'=>?_)|refine ZC (fun hc=>?_) (fun hc=>?_)|refine ZL (fun hc=>?_) (fun hc=>?_)|refine ZD 4 [] [(0,0),(1,0),(2,0),(3,0),(4,0),(5,0),(6,0)] [] ?_|refine ZD 5 [Row _ _ _ _ _ _] [(0,0),(1,0),(2,0),(3,0),(4,0),(5,1),(6,4)] [7] ?_|refine ZE (fun hc=>?_) (fun hc=>?_))
  ·have hkk:ea.kind=k:=by simpa using hc
   have e1:kne (pre++[(eb,ea,ev)]) k=kne pre k++[ea]:=by simp [kne,hkk]
   have e2:(kne pre k).length+1=(kne (pre++[(eb,ea,ev)]) k).length:=by rw [e1];simp
   have e3:(kne pre k).flatMap nmf++#[Value.int .i64 ea.kind,.string ea.owner,.int .i64 ea.number,.int .i64 ea.index,.string ea.text].toList=(kne (pre++[(eb,ea,ev)]) k).flatMap nmf:=by rw [e1];simp [nmf]
   rw [e2,e3]
   refine Zs (Lx:=JKL bk b5 k (pre++[(eb,ea,ev)]) (o',cap')) (r:=JK bk b5 k (pre++[(eb,ea,ev)])) (fun h hh=>⟨(o',cap'),trivial,hh⟩) ?_
   exact k_rn
  ·have hkk:ea.kind≠k:=by simpa using hc
   have e1:kne (pre++[(eb,ea,ev)]) k=kne pre k:=by simp [kne,hkk]
   refine Zs (Lx:=JKL bk b5 k pre q) (r:=JK bk b5 k (pre++[(eb,ea,ev)])) (fun h hh=>⟨q,trivial,by rw [JKL,e1];exact hh⟩) ?_
   exact k_rn
 ·intro D
  refine Yo (X:=Option Addr×Nat) (Lx:=fun q=>JKL bk b5 k x.els q) (p:=fun _=>True) (r:=JK bk b5 k x.els) .here (fun h hh=>hh) (fun q _=>?_)
  dsimp only [JKL]
  rw [kne_eq,he]
  repeat' (first|refine ZH ?_|refine ZG ?_|refine ZK ?_|refine ZI ?_|refine ZP ?_|refine ZJ ?_|refine ZM ?_|refine ZN (fun b=>?_)|refine ZO (fun b=>?_)|refine ZA ?_|refine ZB ?_|refine ZR ?_|refine ZZ ?_|refine ZW ?_|refine Zf ?_|refine Za ?_|refine ZY ?_|refine Ze (fun b=>?_)|refine Zg (fun b=>?_)|refine Zd ?_|refine ZX ?_|refine ZC (fun hc=>?_) (fun hc=>?_)|refine ZL (fun hc=>?_) (fun hc=>?_)|refine ZD 4 [] [(0,0),(1,0),(2,0),(3,0),(4,0),(5,0),(6,0)] [] ?_|refine ZD 5 [] [(0,0),(1,0),(2,0),(3,0),(4,0),(5,1),(6,4)] [7] ?_|refine ZE (fun hc=>?_) (fun hc=>?_))
  refine Xt (sz:=5) (f:=nmf) (o:=q.1) (cap:=q.2) (kn es k) ?_ rfl rfl
  exact k_retM q rfl trivial
 ·intro D pre hpre
  exact w_open (X:=Empty) (Lx:=fun _=>[]) (p:=fun _=>False) .here (fun h hh=>hh.elim) (fun q hq=>hq.elim)
structure Ou where
 ch:Int
 tg:ByteArray
 tx:ByteArray
 us:Int
 deriving DecidableEq
def ouf (o:Ou):List Value:=[.int .i64 o.ch,.string o.tg,.string o.tx,.int .i64 o.us]
def Ou.v (o:Ou):Value:=.agg #[.int .i64 o.ch,.string o.tg,.string o.tx,.int .i64 o.us]
def bad2 (c:UInt8):Bool:=decide ((c.toNat:Int)<33) || decide ((126:Int)<c.toNat)
def ochk (o:Ou):Int:=
 if o.ch<1∨4<o.ch then 11
 else if isE o.tg then 4
 else if 64<o.tg.size then 5
 else if o.tg.data.toList.any bad2 then 6
 else if 4096<o.tx.size then 5
 else if o.us<0∨65535<o.us then 2
 else 0
set_option maxHeartbeats 1000000 in
theorem Xm (o:Ou):Enters 84∧Spec prog 84 #[o.v] [] [] (RetV (.int .i64 (ochk o))):=by
 have hsz:o.tg.data.toList.length=o.tg.size:=by simp
 generalize hr:ochk o=r
 unfold ochk at hr
 refine Zb [_] func84 ntmps84 fun G w hp=>?_
 repeat' (first|refine ZH ?_|refine ZG ?_|refine ZK ?_|refine ZI ?_|refine ZP ?_|refine ZJ ?_|refine ZM ?_|refine ZN (fun b=>?_)|refine ZO (fun b=>?_)|refine ZA ?_|refine ZB ?_|refine ZR ?_|(refine ZC (fun hc=>?_) (fun hc=>?_)<;>(try simp at hc))|(refine ZE (fun hc=>?_) (fun hc=>?_)<;>(try simp at hc)))
 ·rw [if_pos (by omega)] at hr;subst hr;exact ZS () rfl trivial
 ·rw [if_pos (by omega)] at hr;subst hr;exact ZS () rfl trivial
 ·have hc:isE o.tg=true:=by simpa [isE] using hc
  rw [if_neg (by omega),if_pos hc] at hr;subst hr;exact ZS () rfl trivial
 ·rename_i h1
  have h1:isE o.tg=false:=by simpa [isE] using h1
  rw [if_neg (by omega),if_neg (by simp [h1]),if_pos (by omega)] at hr;subst hr;exact ZS () rfl trivial
 rename_i h1
 have h1:isE o.tg=false:=by simpa [isE] using h1
 rw [if_neg (by omega),if_neg (by simp [h1]),if_neg (by omega)] at hr
 refine Z6 (X:={i:Nat // i≤o.tg.size∧∀j,j<i→∀c,o.tg.data.toList[j]? = some c→bad2 c=false}) (fun i=>[(1,.pointer (some ⟨b,0,none⟩)),(21,.int .i64 (o.tg.size:Int)),(22,.int .i64 (i.1:Int))]) (fun _=>[]) (fun _=>[Pt b (.cells #[.int .i64 o.ch,.string o.tg,.string o.tx,.int .i64 o.us] 25)]) (fun i=>o.tg.size - i.1) ⟨0,by omega,fun j hj=>by omega⟩ ⟨rfl,rfl,rfl,trivial⟩ ?_
 rintro ⟨i,hi1,hi2⟩
 dsimp only
 by_cases hlt:i<o.tg.data.toList.length
 ·obtain ⟨c,hcc⟩:∃c,o.tg.data.toList[i]? = some c:=⟨_,List.getElem?_eq_getElem hlt⟩
  have bad:bad2 c=true→r=6:=fun hb=>by
   rw [←hr,if_pos]
   rw [List.any_eq_true]
   exact ⟨c,List.mem_of_getElem? hcc,hb⟩
  repeat' (first|refine ZH ?_|refine ZG ?_|refine ZK ?_|refine ZI ?_|refine ZP ?_|refine ZJ ?_|refine ZM ?_|refine ZN (fun b=>?_)|refine ZO (fun b=>?_)|refine ZA ?_|refine ZB ?_|refine ZR ?_|refine l_six (s:=o.tg) i c hcc ?_|(refine ZC (fun hc=>?_) (fun hc=>?_)<;>(try simp at hc)<;>(try omega))|(refine ZE (fun hc=>?_) (fun hc=>?_)<;>(try simp at hc)<;>(try omega)))
  all_goals try (
   have e:=bad (by simp [bad2];omega)
   exact YR (YX (w_rv (congrArg (Value.int .i64) e) (Z4 () rfl trivial))))
  rw [wrapi (z:=(i:Int)+1) (by omega) (by omega)]
  refine Zc ⟨i+1,by omega,fun j hj c' hc'=>?_⟩ (by show o.tg.size - (i+1)<o.tg.size - i;omega) ⟨rfl,rfl,rfl,trivial⟩
  by_cases hij:j=i
  ·subst hij
   obtain rfl:=Option.some.inj (hcc.symm.trans hc')
   simp [bad2];omega
  ·exact hi2 j (by omega) c' hc'
 ·have e:¬(o.tg.data.toList.any bad2=true):=by
   rw [List.any_eq_true]
   rintro ⟨c,hc,hb⟩
   obtain ⟨j,hj,rfl⟩:=List.mem_iff_getElem.1 hc
   rw [hi2 j (by omega) _ (List.getElem?_eq_getElem hj)] at hb
   cases hb
  rw [if_neg e] at hr
  repeat' (first|refine ZH ?_|refine ZG ?_|refine ZK ?_|refine ZI ?_|refine ZP ?_|refine ZJ ?_|refine ZM ?_|refine ZN (fun b=>?_)|refine ZO (fun b=>?_)|refine ZA ?_|refine ZB ?_|refine ZR ?_|(refine ZC (fun hc=>?_) (fun hc=>?_)<;>(try simp at hc)<;>(try omega))|(refine ZE (fun hc=>?_) (fun hc=>?_)<;>(try simp at hc)<;>(try omega)))
  ·rw [if_pos (by omega)] at hr;subst hr;exact ZS () rfl trivial
  ·rw [if_neg (by omega),if_pos (by omega)] at hr;subst hr;exact ZS () rfl trivial
  ·rw [if_neg (by omega),if_pos (by omega)] at hr;subst hr;exact ZS () rfl trivial
  ·rw [if_neg (by omega),if_neg (by omega)] at hr;subst hr;exact ZS () rfl trivial
def oenc (o:Ou):List UInt8:=venc o.ch.toNat++(venc o.tg.size++o.tg.data.toList)++(venc o.tx.size++o.tx.data.toList)++venc o.us.toNat
theorem W0 {o:Ou} (h:ochk o=0):(1≤o.ch∧o.ch≤4)∧o.tg.size≤64∧o.tx.size≤4096∧0≤o.us∧o.us≤65535:=by
 unfold ochk at h
 split at h
 ·cases h
 ·split at h
  ·cases h
  ·split at h
   ·cases h
   ·split at h
    ·cases h
    ·split at h
     ·cases h
     ·split at h
      ·cases h
      ·omega
theorem outWrite_ok (o:Ou) (b:Nat) (bs:List UInt8) (h:ochk o=0) (hb:bs.length≤1000000000):Enters 86∧Spec prog 86 #[o.v,.pointer (some ⟨b,0,none⟩)] [] [Wtr b bs] ⟨Unit,fun _=>.tuple #[],fun _=>True,fun _=>[],fun _=>[Wtr b (bs++oenc o)]⟩:=by
 obtain ⟨h1,h2,h3,h4⟩:=W0 h
 have l1:=YJ o.ch.toNat (by omega)
 have l2:=YJ o.tg.size (by omega)
 have l3:=YJ o.tx.size (by omega)
 have e1:o.ch=((o.ch.toNat:Nat):Int):=by omega
 have e2:o.us=((o.us.toNat:Nat):Int):=by omega
 have s1:o.tg.data.toList.length=o.tg.size:=by simp
 have s2:o.tx.data.toList.length=o.tx.size:=by simp
 have n1:=WQ b bs o.ch.toNat (by omega) (by omega)
 rw [←e1] at n1
 have n2:=wtrText_ok b (bs++venc o.ch.toNat) o.tg (by omega) (by simp only [List.length_append];omega)
 have n3:=wtrText_ok b (bs++venc o.ch.toNat++venc o.tg.size++o.tg.data.toList) o.tx (by omega) (by simp only [List.length_append];omega)
 have n4:=WQ b (bs++venc o.ch.toNat++venc o.tg.size++o.tg.data.toList++venc o.tx.size++o.tx.data.toList) o.us.toNat (by omega) (by simp only [List.length_append];omega)
 rw [←e2] at n4
 have e3:bs++oenc o=bs++venc o.ch.toNat++venc o.tg.size++o.tg.data.toList++venc o.tx.size++o.tx.data.toList++venc o.us.toNat:=by simp [oenc]
 rw [e3]
 generalize b=bw at *
 refine Zb [_,_] func86 ntmps86 fun G w hp=>?_
 repeat' (first|refine ZH ?_|refine ZG ?_|refine ZK ?_|refine ZI ?_|refine ZP ?_|refine ZJ ?_|refine ZM ?_|refine ZN (fun b=>?_)|refine ZO (fun b=>?_)|refine ZA ?_|refine ZB ?_|refine ZR ?_|refine ZF (n1) (fun _ _=>?_)|refine l_call0 (n1) (fun _ _=>?_)|refine ZF (n2) (fun _ _=>?_)|refine l_call0 (n2) (fun _ _=>?_)|refine ZF (n3) (fun _ _=>?_)|refine l_call0 (n3) (fun _ _=>?_)|refine ZF (n4) (fun _ _=>?_)|refine l_call0 (n4) (fun _ _=>?_)|refine ZC (fun hc=>?_) (fun hc=>?_)|refine ZE (fun hc=>?_) (fun hc=>?_))
 exact XB () rfl trivial
def oencS (o:Ou):ByteArray:=if ochk o=0 then ⟨(oenc o).toArray⟩ else ⟨#[]⟩
theorem oenc_len {o:Ou} (h:ochk o=0):(oenc o).length≤5000:=by
 obtain ⟨h1,h2,h3,h4⟩:=W0 h
 have l1:=YJ o.ch.toNat (by omega)
 have l2:=YJ o.tg.size (by omega)
 have l3:=YJ o.tx.size (by omega)
 have l4:=YJ o.us.toNat (by omega)
 have s1:o.tg.data.toList.length=o.tg.size:=by simp
 have s2:o.tx.data.toList.length=o.tx.size:=by simp
 simp only [oenc,List.length_append];omega
theorem Wq (o:Ou):Enters 33∧Spec prog 33 #[o.v] [] [] (RetV (.tuple #[.string (oencS o),.int .i64 (ochk o)])):=by
 have hc0:=Xm o
 refine Zb [_] func33 ntmps33 fun G w hp=>?_
 by_cases h:ochk o=0
 ·have hw:∀bw,_:=fun bw=>outWrite_ok o bw [] h (by simp)
  have hl:=oenc_len h
  rw [oencS,if_pos h,h]
  rw [h] at hc0
  repeat' (first|refine ZH ?_|refine ZG ?_|refine ZK ?_|refine ZI ?_|refine ZP ?_|refine ZJ ?_|refine ZM ?_|refine ZN (fun b=>?_)|refine ZO (fun b=>?_)|refine ZA ?_|refine ZB ?_|refine ZR ?_|refine ZF (hc0) (fun _ _=>?_)|refine l_call0 (hc0) (fun _ _=>?_)|refine ZF (Wi) (fun _ _=>?_)|refine l_call0 (Wi) (fun _ _=>?_)|refine ZF (hw _) (fun _ _=>?_)|refine l_call0 (hw _) (fun _ _=>?_)|refine ZF (W8 _ ([]++oenc o) (by simp;omega)) (fun _ _=>?_)|refine l_call0 (W8 _ ([]++oenc o) (by simp;omega)) (fun _ _=>?_)|refine ZC (fun hc=>?_) (fun hc=>?_)|refine ZE (fun hc=>?_) (fun hc=>?_))
  refine l_frz (sz:=1) (f:=bf) ([]++oenc o) ?_ (byt_flat _) rfl
  refine l_b2s ?_
  repeat' (first|refine ZH ?_|refine ZG ?_|refine ZK ?_|refine ZI ?_|refine ZP ?_|refine ZJ ?_|refine ZM ?_|refine ZN (fun b=>?_)|refine ZO (fun b=>?_)|refine ZA ?_|refine ZB ?_|refine ZR ?_|refine ZC (fun hc=>?_) (fun hc=>?_)|refine ZE (fun hc=>?_) (fun hc=>?_))
  exact ZS () rfl trivial
 ·rw [oencS,if_neg h]
  repeat' (first|refine ZH ?_|refine ZG ?_|refine ZK ?_|refine ZI ?_|refine ZP ?_|refine ZJ ?_|refine ZM ?_|refine ZN (fun b=>?_)|refine ZO (fun b=>?_)|refine ZA ?_|refine ZB ?_|refine ZR ?_|refine ZF (hc0) (fun _ _=>?_)|refine l_call0 (hc0) (fun _ _=>?_)|(refine ZC (fun hc=>?_) (fun hc=>?_)<;>(try simp at hc)<;>(try omega))|(refine ZE (fun hc=>?_) (fun hc=>?_)<;>(try simp at hc)<;>(try omega)))
  exact ZS () rfl trivial
def oread (s:RS):Ou×RS:=
 let (ch,s1):=rnum s 4
 let (tg,s2):=rtext s1 64
 let (tx,s3):=rtext s2 4096
 let (us,s4):=rnum s3 65535
 (⟨ch,tg,tx,us⟩,s4)
def odec (s:ByteArray):Option Ou:=
 let r:=oread ⟨s.data.toList,0,0⟩
 if r.2.err=0∧r.2.rest=[]∧ochk r.1=0 then some r.1 else none
theorem outRead_ok (b:Nat) (o:Option Addr) (cap:Nat) (s:RS) (hb:s.pos+s.rest.length≤1099511627776):Enters 185∧Spec prog 185 #[.pointer (some ⟨b,0,none⟩)] [Sl 5 bf o cap s.rest] [Rdr b o cap s]
  ⟨Option Addr×Nat,fun _=>(oread s).1.v,fun _=>True,fun q=>[Sl 5 bf q.1 q.2 (oread s).2.rest],fun q=>[Rdr b q.1 q.2 (oread s).2]⟩:=by
 have g1:=rstep_le 0 s (pnum s.rest 4) (pnum_le _ _)
 have n1:=WT b o cap s 4 hb
 unfold oread
 generalize hr1:rnum s 4=r1 at *
 obtain ⟨v1,s1⟩:=r1
 have g1:s1.pos+s1.rest.length≤1099511627776:=by
  have:(rnum s 4).2.pos+(rnum s 4).2.rest.length≤s.pos+s.rest.length:=g1
  rw [hr1] at this;dsimp only at this;omega
 have g2:=rstep_le ⟨#[]⟩ s1 (ptext s1.rest 64) (WN _ _)
 have n2:=fun o cap=>rdrText_ok b o cap s1 64 g1
 dsimp only at *
 generalize hr2:rtext s1 64=r2 at *
 obtain ⟨v2,s2⟩:=r2
 have g2:s2.pos+s2.rest.length≤1099511627776:=by
  have:(rtext s1 64).2.pos+(rtext s1 64).2.rest.length≤s1.pos+s1.rest.length:=g2
  rw [hr2] at this;dsimp only at this;omega
 have g3:=rstep_le ⟨#[]⟩ s2 (ptext s2.rest 4096) (WN _ _)
 have n3:=fun o cap=>rdrText_ok b o cap s2 4096 g2
 dsimp only at *
 generalize hr3:rtext s2 4096=r3 at *
 obtain ⟨v3,s3⟩:=r3
 have g3:s3.pos+s3.rest.length≤1099511627776:=by
  have:(rtext s2 4096).2.pos+(rtext s2 4096).2.rest.length≤s2.pos+s2.rest.length:=g3
  rw [hr3] at this;dsimp only at this;omega
 have n4:=fun o cap=>WT b o cap s3 65535 g3
 dsimp only at *
 generalize hr4:rnum s3 65535=r4 at *
 obtain ⟨v4,s4⟩:=r4
 dsimp only at *
 generalize b=br at *
 refine Zb [_] func185 ntmps185 fun G w hp=>?_
 repeat' (first|refine ZH ?_|refine ZG ?_|refine ZK ?_|refine ZI ?_|refine ZP ?_|refine ZJ ?_|refine ZM ?_|refine ZN (fun b=>?_)|refine ZO (fun b=>?_)|refine ZA ?_|refine ZB ?_|refine ZR ?_|refine ZF (n1) (fun _ _=>?_)|refine l_call0 (n1) (fun _ _=>?_)|refine ZF (n2 _ _) (fun _ _=>?_)|refine l_call0 (n2 _ _) (fun _ _=>?_)|refine ZF (n3 _ _) (fun _ _=>?_)|refine l_call0 (n3 _ _) (fun _ _=>?_)|refine ZF (n4 _ _) (fun _ _=>?_)|refine l_call0 (n4 _ _) (fun _ _=>?_)|refine ZC (fun hc=>?_) (fun hc=>?_)|refine ZE (fun hc=>?_) (fun hc=>?_))
 rename_i q _
 exact ZS q rfl trivial
def Ou.z:Ou:=⟨0,⟨#[]⟩,⟨#[]⟩,0⟩
theorem close0 (e:Int) (r:List UInt8):(if e≠0 then e else if r=[] then 0 else 5)=0↔e=0∧r=[]:=by
 by_cases h1:e=0<;>by_cases h2:r=[]<;>simp [h1,h2]
theorem outDecode_ok (s:ByteArray) (hs:s.size≤1099511627776):Enters 134∧Spec prog 134 #[.string s] [] [] (RetV (.tuple #[((odec s).getD Ou.z).v,.int .i64 (if (odec s).isSome then 0 else 3)])):=by
 have hsz:s.data.toList.length=s.size:=by simp
 have n1:=fun b o cap=>outRead_ok b o cap ⟨s.data.toList,0,0⟩ (by dsimp only;omega)
 generalize hd:odec s=d
 unfold odec at hd
 dsimp only at hd n1
 generalize hr:oread ⟨s.data.toList,0,0⟩=r at *
 obtain ⟨ou,s4⟩:=r
 dsimp only at hd n1
 have n2:=fun b o cap=>rdrClose_ok b o cap s4
 have n3:=Xm ou
 refine Zb [_] func134 ntmps134 fun G w hp=>?_
 repeat' (first|refine ZH ?_|refine ZG ?_|refine ZK ?_|refine ZI ?_|refine ZP ?_|refine ZJ ?_|refine ZM ?_|refine ZN (fun b=>?_)|refine ZO (fun b=>?_)|refine ZA ?_|refine ZB ?_|refine ZR ?_|refine ZF (Wn _ _ s.data.toList (by omega)) (fun _ _=>?_)|refine l_call0 (Wn _ _ s.data.toList (by omega)) (fun _ _=>?_)|refine ZF (n1 _ _ _) (fun _ _=>?_)|refine l_call0 (n1 _ _ _) (fun _ _=>?_)|refine ZF (n2 _ _ _) (fun _ _=>?_)|refine l_call0 (n2 _ _ _) (fun _ _=>?_)|refine ZF (n3) (fun _ _=>?_)|refine l_call0 (n3) (fun _ _=>?_)|refine l_s2b (fun o cap=>?_)|refine ZC (fun hc=>?_) (fun hc=>?_)|refine ZE (fun hc=>?_) (fun hc=>?_))
 ·have hc:¬(s4.err=0∧s4.rest=[]):=fun h=>by rw [(close0 _ _).2 h] at hc;simp at hc
  rw [if_neg fun h=>hc ⟨h.1,h.2.1⟩] at hd;subst hd;exact ZS () rfl trivial
 ·have hc:ochk ou≠0:=by simpa using hc
  rw [if_neg fun h=>hc h.2.2] at hd;subst hd;exact ZS () rfl trivial
 ·rename_i h0 _ _
  have h0:=(close0 _ _).1 (by simpa using h0)
  have hc:ochk ou=0:=by simpa using hc
  rw [if_pos ⟨h0.1,h0.2,hc⟩] at hd;subst hd;exact ZS () rfl trivial
variable {i d:Nat} {t ty0:TypeId} {x y:Operand} {pos:String} {aft:Array Edge} {gd:Option (Nat×Bool)}
section
variable {l:List Oper} {b off:Nat} {cs:Array Value} {ty:TypeId} {fzn:Nat×Nat} {v:Value}
theorem r_ixP {T sz m cap:Nat} {z:Int} {rs tr:TRow} (j:Nat) (hlt:j<m) (nx:Wr n C ops k Q Tl Fs R L ((d,.pointer (some ⟨b,j * sz,none⟩))::E) F N)
  (ho:nth ops i=some ⟨some d,.indexAddr t x y,ty0,pos,aft,gd⟩:=by rfl) (hw:wantL ops E ⟨some d,.indexAddr t x y,ty0,pos,aft,gd⟩=some true:=by rfl) (hx:ev E x=some (.slice (some ⟨b,0,none⟩) m cap):=by rfl) (hy:ev E y=some (.int .i64 z):=by rfl)
  (hts:lookT tab t=some rs:=by rfl) (hrs:rs.k = .slice T:=by rfl) (hT:lookT tab T=some tr:=by rfl) (hsz:tr.size=sz:=by rfl) (hz:z=(j:Int):=by first|rfl|omega):Wr n C ops k Q Tl Fs R ((i,0)::L) E F N:=
 r_q (fun a w ha=>by
  have hr1:=XH (o:=some ⟨b,0,none⟩) (m:=m) (cap:=cap) (w:=w) hts hrs hT hsz hz hlt (p:=⟨b,j * sz,none⟩) (by simp [Xf rfl])
  simp only [execOp,ha.ev (x:=x) (by rw [ZU];exact hx),ha.ev (x:=y) (by rw [ZU];exact hy),Sem.run_bind,Result.andThen,hr1,Sem.run_pure]) nx ho hw
theorem r_ldX {off' o:Nat} {pre xs post:List Value} (nx:Wr n C ops k Q Tl Fs R L ((d,v)::E) F N) (hcs:cs.toList=pre++(xs++post)) (ho:off'=pre.length+o) (hop:nth ops i=some ⟨some d,.load t x,ty0,pos,aft,gd⟩:=by rfl) (hw:wantL ops E ⟨some d,.load t x,ty0,pos,aft,gd⟩=some true:=by rfl)
  (hx:ev E x=some (.pointer (some ⟨b,off',none⟩)):=by rfl) (hs:Sel (Pt b (.cells cs ty fzn)) R R0:=by (repeat (first|exact Sel.here|apply Sel.there));first|done|fail) (hv:ldv t xs o=some v:=by rfl) :
  Wr n C ops k Q Tl Fs R ((i,0)::L) E F N:=
 YY hop fun hp hr w st hz sb=>by
  simp only [Zr hw]
  refine ⟨v,fun a w ha hin=>?_,nx hp hr w st hz sb⟩
  have hr:=Y3 (off:=off') (t:=t) (v:=v) (hin _ _ (sb _ _ (stat_pt st hs))) (by rw [hcs,ho];exact ldv_in hv)
  simp only [execOp,Instr.loadAt,ha.ev (by rw [ZU];exact hx),Instr.sureAddr,Sem.run_bind,Sem.run_pure,Result.andThen,hr]
end
structure En where
 who:ByteArray
 nu:Int
 tk:Int
 o:Ou
 deriving DecidableEq
def enf (e:En):List Value:=[.string e.who,.int .i64 e.nu,.int .i64 e.tk,.int .i64 e.o.ch,.string e.o.tg,.string e.o.tx,.int .i64 e.o.us]
structure Lf where
 e:En
 tm:Int
 rd:Int
 deriving DecidableEq
def lff (x:Lf):List Value:=[.string x.e.who,.int .i64 x.e.nu,.int .i64 x.e.tk,.int .i64 x.e.o.ch,.string x.e.o.tg,.string x.e.o.tx,.int .i64 x.e.o.us,.int .i64 x.tm,.int .i64 x.rd]
def Lf.v (x:Lf):Value:=.agg #[.string x.e.who,.int .i64 x.e.nu,.int .i64 x.e.tk,.int .i64 x.e.o.ch,.string x.e.o.tg,.string x.e.o.tx,.int .i64 x.e.o.us,.int .i64 x.tm,.int .i64 x.rd]
def tick (z:Int):Bool:=decide (0≤z) && decide (z≤1073741824)
def lchk (x:Lf):Int:=
 if lvalid x.e.who.data.toList=false then 12
 else if x.e.nu<0∨1048576<x.e.nu∨tick x.e.tk=false∨tick x.tm=false∨x.rd<0∨1048576<x.rd then 2
 else ochk x.e.o
set_option maxHeartbeats 1000000 in
theorem XZ (x:Lf) (hx:x.e.who.size≤1099511627776):Enters 132∧Spec prog 132 #[x.v] [] [] (RetV (.int .i64 (lchk x))):=by
 have n1:=YS x.e.who hx
 have n2:=Xm x.e.o
 have n3:=isTick_ok x.e.tk
 have n4:=isTick_ok x.tm
 rw [show (decide (0≤x.e.tk) && decide (x.e.tk≤1073741824))=tick x.e.tk from rfl] at n3
 rw [show (decide (0≤x.tm) && decide (x.tm≤1073741824))=tick x.tm from rfl] at n4
 generalize hr:lchk x=r
 unfold lchk at hr
 refine Zb [_] func132 ntmps132 fun G w hp=>?_
 cases hv:lvalid x.e.who.data.toList<;>cases ht1:tick x.e.tk<;>cases ht2:tick x.tm
 all_goals rw [hv] at n1 hr
 all_goals rw [ht1] at n3 hr
 all_goals rw [ht2] at n4 hr
 all_goals simp only [Bool.true_eq_false,if_true,if_false,true_or,or_true,false_or] at hr
 all_goals repeat' (first|refine ZH ?_|refine ZG ?_|refine ZK ?_|refine ZI ?_|refine ZP ?_|refine ZJ ?_|refine ZM ?_|refine ZN (fun b=>?_)|refine ZO (fun b=>?_)|refine ZA ?_|refine ZB ?_|refine ZR ?_|refine ZF (n1) (fun _ _=>?_)|refine l_call0 (n1) (fun _ _=>?_)|refine ZF (n2) (fun _ _=>?_)|refine l_call0 (n2) (fun _ _=>?_)|refine ZF (n3) (fun _ _=>?_)|refine l_call0 (n3) (fun _ _=>?_)|refine ZF (n4) (fun _ _=>?_)|refine l_call0 (n4) (fun _ _=>?_)|(refine ZC (fun hc=>?_) (fun hc=>?_)<;>(try simp at hc)<;>(try omega))|(refine ZE (fun hc=>?_) (fun hc=>?_)<;>(try simp at hc)<;>(try omega)))
 all_goals first
  | (subst hr;exact ZS () rfl trivial)
  | (rw [if_pos (by omega)] at hr;subst hr;exact ZS () rfl trivial)
  | (rw [if_neg (by omega)] at hr;subst hr;exact ZS () rfl trivial)
abbrev LgL (b:Nat) (ls:List Lf) (q:Option Addr×Nat):List HP:=[Pt b (.cells #[.slice q.1 ls.length q.2] 246),Row 175 9 q.1 ls.length q.2 (ls.flatMap lff)]
def Lg (b:Nat) (ls:List Lf):HP:=fun h=>∃q,True∧Sep (LgL b ls q) h
def LgF (b:Nat) (ls:List Lf):Pf:=⟨fun h=>∃q:Option Addr×Nat,(Blk b (.cells #[.slice q.1 ls.length q.2] 246)).p h∧(Sl 175 lff q.1 q.2 ls).p h,fun _ _ s ⟨q,h1,h2⟩=>⟨q,Pf.m _ _ _ s h1,Pf.m _ _ _ s h2⟩⟩
theorem Xc:Enters 74∧Spec prog 74 #[] [] [] ⟨Nat,fun b=>.pointer (some ⟨b,0,none⟩),fun _=>True,fun _=>[],fun b=>[Lg b []]⟩:=by
 refine Zb [] func74 ntmps74 fun G w hp=>?_
 repeat' (first|refine ZH ?_|refine ZG ?_|refine ZK ?_|refine ZI ?_|refine ZP ?_|refine ZJ ?_|refine ZM ?_|refine ZN (fun b=>?_)|refine ZO (fun b=>?_)|refine ZA ?_|refine ZB ?_|refine ZR ?_|refine ZC (fun hc=>?_) (fun hc=>?_)|refine ZE (fun hc=>?_) (fun hc=>?_))
 refine Zs (Lx:=[]) (r:=Row 175 9 none 0 0 []) (fun h _=>YQ _ _ h) ?_
 refine Zs (Lx:=LgL b [] (none,0)) (r:=Lg b []) (fun h hh=>⟨(none,0),trivial,hh⟩) ?_
 exact ZS b rfl trivial
def late (ls:List Lf) (x:Lf):Bool:=match ls.getLast? with|some y=>decide (x.tm<y.tm) || decide (x.rd<y.rd)|none=>false
def leaveE (ls:List Lf) (x:Lf):Int:=if lchk x≠0 then lchk x else if late ls x then 32 else if 100000≤ls.length then 9 else 0
section
structure RowAt (sz m cap:Nat) (xs:List Value) (o:Option Addr) (q:Nat×List Value×(Nat×Nat)):Prop where
 o:o=some ⟨q.1,0,none⟩
 l:xs.length=m * sz
 c:(xs++q.2.1).length=cap * sz
 m:m≤cap
 f:q.2.2=(0,0)∨(xs++q.2.1).length≤q.2.2.1
theorem k_row {T sz m cap:Nat} {o:Option Addr} {xs:List Value} (hm:0<m) (t:∀q,RowAt sz m cap xs o q→Wk n C k Q E F (Pt q.1 (.cells (xs++q.2.1).toArray T q.2.2)::R0)) (hs:Sel (Row T sz o m cap xs) R R0:=by (repeat (first|exact Sel.here|apply Sel.there));first|done|fail):Wk n C k Q E F R:=
 Yo (X:=Nat×List Value×(Nat×Nat)) (Lx:=fun q=>[Pt q.1 (.cells (xs++q.2.1).toArray T q.2.2)]) (p:=fun q=>RowAt sz m cap xs o q) (r:=Row T sz o m cap xs) hs (fun h hh=>by
  rcases hh with ⟨_,h2,_⟩|⟨b,rest,fz,h1,h2,h3,h4,h5,h6⟩
  ·omega
  ·exact ⟨(b,rest,fz),⟨h1,h3,h4,h5,h6⟩,h,emp,(fun _=>.inr rfl),Sub.refl _,(fun _ _ e=>by cases e),h2,trivial⟩) t
theorem row_shut {T sz m cap:Nat} {o:Option Addr} {xs:List Value} {q:Nat×List Value×(Nat×Nat)} (hq:RowAt sz m cap xs o q) (h:H) (hh:Sep [Pt q.1 (.cells (xs++q.2.1).toArray T q.2.2)] h):Row T sz o m cap xs h:=by
 obtain ⟨h1,h2,_,s1,_,hx,_⟩:=hh
 exact .inr ⟨q.1,q.2.1,q.2.2,hq.o,s1 _ _ hx,hq.l,hq.c,hq.m,hq.f⟩
end
def LvPost (b:Nat) (ls:List Lf) (x:Lf):Post:=⟨Unit,fun _=>.tuple #[.int .i64 (if leaveE ls x=0 then (ls.length:Int) else 0),.int .i64 (leaveE ls x)],fun _=>True,fun _=>[],fun _=>[Lg b (if leaveE ls x=0 then ls++[x] else ls)]⟩
theorem Xz {b:Nat} {ls:List Lf} {x:Lf} {e:Int} (he:leaveE ls x=e) (h0:e≠0):LvPost b ls x=⟨Unit,fun _=>.tuple #[.int .i64 0,.int .i64 e],fun _=>True,fun _=>[],fun _=>[Lg b ls]⟩:=by
 simp [LvPost,he,h0]
theorem Wv {b:Nat} {ls:List Lf} {x:Lf} (he:leaveE ls x=0):LvPost b ls x=⟨Unit,fun _=>.tuple #[.int .i64 (ls.length:Int),.int .i64 0],fun _=>True,fun _=>[],fun _=>[Lg b (ls++[x])]⟩:=by
 simp [LvPost,he]
section
theorem k_lg {b:Nat} {ls:List Lf} (t:∀q,Wk n C k Q E F (LgL b ls q++R0)) (hs:Sel (Lg b ls) R R0:=by (repeat (first|exact Sel.here|apply Sel.there));first|done|fail):Wk n C k Q E F R:=
 Yo (X:=Option Addr×Nat) (Lx:=fun q=>LgL b ls q) (p:=fun _=>True) (r:=Lg b ls) hs (fun _h hh=>hh) (fun q _=>t q)
theorem k_lg' {b m:Nat} {ls:List Lf} {xs:List Value} {o:Option Addr} {cap:Nat} (t:Wk n C k Q E F (Lg b ls::R0)) (hm:m=ls.length) (hx:xs=ls.flatMap lff) (hs:Sels [Pt b (.cells #[.slice o m cap] 246),Row 175 9 o m cap xs] R R0:=by (repeat (first|exact Sels.nil|exact Sel.here|apply Sel.there|apply Sels.cons));first|done|fail):Wk n C k Q E F R:=by
 subst hm;subst hx
 exact Zs (fun h hh=>⟨(o,cap),trivial,hh⟩) t hs
end
theorem leave_bad (b:Nat) (ls:List Lf) (x:Lf) (hx:x.e.who.size≤1099511627776) (h0:lchk x≠0):Enters 76∧Spec prog 76 #[.pointer (some ⟨b,0,none⟩),x.v] [] [Lg b ls] (LvPost b ls x):=by
 have n1:=XZ x hx
 generalize b=bl at *
 rw [Xz (e:=lchk x) (by simp [leaveE,h0]) h0]
 refine Zb [_,_] func76 ntmps76 fun G w hp=>?_
 repeat' (first|refine ZH ?_|refine ZG ?_|refine ZK ?_|refine ZI ?_|refine ZP ?_|refine ZJ ?_|refine ZM ?_|refine ZN (fun b=>?_)|refine ZO (fun b=>?_)|refine ZA ?_|refine ZB ?_|refine ZR ?_|refine ZZ ?_|refine ZW ?_|refine Zf ?_|refine Za ?_|refine ZY ?_|refine Ze (fun b=>?_)|refine Zg (fun b=>?_)|refine Zd ?_|refine ZX ?_|refine ZF (n1) (fun _ _=>?_)|refine l_call0 (n1) (fun _ _=>?_)|refine ZT (n1) (fun _ _=>?_)|(refine ZC (fun hc=>?_) (fun hc=>?_)<;>(try simp at hc)<;>(try omega))|(refine ZL (fun hc=>?_) (fun hc=>?_)<;>(try simp at hc)<;>(try omega))|refine ZD 7 [] [(0,0),(1,0),(2,0),(3,0),(4,0),(5,0),(6,0),(7,0),(8,0),(9,0),(10,0),(11,0),(12,0),(13,0),(14,0),(15,0),(16,0),(17,0),(18,0),(19,0),(20,0),(21,0),(22,0),(23,0),(24,0),(25,0),(26,0),(27,0),(28,0),(29,0)] [] ?_|refine ZD 11 [] [(0,0),(1,0),(2,0),(3,0),(4,0),(5,0),(6,1),(7,4),(8,0),(9,0)] [10] ?_|(refine ZE (fun hc=>?_) (fun hc=>?_)<;>(try simp at hc)<;>(try omega)))
 exact ZS () rfl trivial
theorem leave_nil (b:Nat) (x:Lf) (hx:x.e.who.size≤1099511627776) (h0:lchk x=0):Enters 76∧Spec prog 76 #[.pointer (some ⟨b,0,none⟩),x.v] [] [Lg b []] (LvPost b [] x):=by
 have n1:=XZ x hx
 generalize b=bl at *
 rw [Wv (by simp [leaveE,h0,late])]
 rw [h0] at n1
 refine Zb [_,_] func76 ntmps76 fun G w hp=>?_
 refine k_lg fun q=>?_
 repeat' (first|refine ZH ?_|refine ZG ?_|refine ZK ?_|refine ZI ?_|refine ZP ?_|refine ZJ ?_|refine ZM ?_|refine ZN (fun b=>?_)|refine ZO (fun b=>?_)|refine ZA ?_|refine ZB ?_|refine ZR ?_|refine ZZ ?_|refine ZW ?_|refine Zf ?_|refine Za ?_|refine ZY ?_|refine Ze (fun b=>?_)|refine Zg (fun b=>?_)|refine Zd ?_|refine ZX ?_|refine ZF (n1) (fun _ _=>?_)|refine l_call0 (n1) (fun _ _=>?_)|refine ZT (n1) (fun _ _=>?_)|refine Xo (fun o' cap'=>?_)|(refine ZC (fun hc=>?_) (fun hc=>?_)<;>(try simp at hc)<;>(try omega))|(refine ZL (fun hc=>?_) (fun hc=>?_)<;>(try simp at hc)<;>(try omega))|refine ZD 7 [] [(0,0),(1,0),(2,0),(3,0),(4,0),(5,0),(6,0),(7,0),(8,0),(9,0),(10,0),(11,0),(12,0),(13,0),(14,0),(15,0),(16,0),(17,0),(18,0),(19,0),(20,0),(21,0),(22,0),(23,0),(24,0),(25,0),(26,0),(27,0),(28,0),(29,0)] [] ?_|refine ZD 11 [Row _ _ _ _ _ _] [(0,0),(1,0),(2,0),(3,0),(4,0),(5,0),(6,1),(7,4),(8,0),(9,0)] [10] ?_|(refine ZE (fun hc=>?_) (fun hc=>?_)<;>(try simp at hc)<;>(try omega)))
 refine k_lg' (ls:=[]++[x]) (o:=o') (cap:=cap') ?_ rfl rfl
 exact ZS () rfl trivial
set_option maxHeartbeats 2000000 in
theorem leave_cons (b:Nat) (init:List Lf) (y x:Lf) (hx:x.e.who.size≤1099511627776) (h0:lchk x=0) (hl:init.length≤1000000):Enters 76∧Spec prog 76 #[.pointer (some ⟨b,0,none⟩),x.v] [] [Lg b (init++[y])] (LvPost b (init++[y]) x):=by
 have n1:=XZ x hx
 rw [h0] at n1
 generalize b=bl at *
 have hlen:(init++[y]).length=init.length+1:=by simp
 have hlate:late (init++[y]) x=(decide (x.tm<y.tm) || decide (x.rd<y.rd)):=by simp [late]
 have hpre:(init.flatMap lff).length=init.length * 9:=Zw (sz:=9) (fun _=>rfl) init
 generalize hpost:LvPost bl (init++[y]) x=post
 refine Zb [_,_] func76 ntmps76 fun G w hp=>?_
 refine k_lg fun q=>?_
 dsimp only [LgL]
 rw [hlen]
 refine k_row (T:=175) (sz:=9) (o:=q.1) (m:=init.length+1) (cap:=q.2) (xs:=(init++[y]).flatMap lff) (by omega) (fun r hr=>?_)
 have ho:=hr.o
 obtain ⟨q1,q2⟩:=q
 dsimp only at ho
 subst ho
 obtain ⟨rb,rest,fz⟩:=r
 dsimp only at hr ⊢
 have hcs:(((init++[y]).flatMap lff++rest).toArray).toList=init.flatMap lff++(lff y++rest):=by simp
 repeat' (first|refine ZH ?_|refine ZG ?_|refine ZK ?_|refine ZI ?_|refine ZP ?_|refine ZJ ?_|refine ZM ?_|refine ZN (fun b=>?_)|refine ZO (fun b=>?_)|refine ZA ?_|refine ZB ?_|refine ZR ?_|refine ZZ ?_|refine ZW ?_|refine Zf ?_|refine Za ?_|refine ZY ?_|refine Ze (fun b=>?_)|refine Zg (fun b=>?_)|refine Zd ?_|refine ZX ?_|refine ZF (n1) (fun _ _=>?_)|refine l_call0 (n1) (fun _ _=>?_)|refine ZT (n1) (fun _ _=>?_)|refine r_ixP (m:=init.length+1) init.length (by omega) ?_|refine r_ldX (o:=7) (off':=init.length * 9+(6+1)) (pre:=init.flatMap lff) (xs:=lff y) (post:=rest) ?_ hcs (by rw [hpre])|refine r_ldX (o:=8) (off':=init.length * 9+(7+1)) (pre:=init.flatMap lff) (xs:=lff y) (post:=rest) ?_ hcs (by rw [hpre])|rw [wrapi (z:=((init.length+1:Nat):Int) - 1) (by omega) (by omega)]|(refine ZC (fun hc=>?_) (fun hc=>?_)<;>(try simp at hc)<;>(try omega))|(refine ZL (fun hc=>?_) (fun hc=>?_)<;>(try simp at hc)<;>(try omega))|refine ZD 7 [] [(0,0),(1,0),(2,0),(3,0),(4,0),(5,0),(6,0),(7,0),(8,0),(9,0),(10,0),(11,0),(12,0),(13,0),(14,0),(15,0),(16,0),(17,0),(18,0),(19,0),(20,0),(21,0),(22,0),(23,0),(24,0),(25,0),(26,0),(27,0),(28,0),(29,0)] [] ?_|(refine ZE (fun hc=>?_) (fun hc=>?_)<;>(try simp at hc)<;>(try omega)))
 all_goals refine Zs (Lx:=[Pt rb (.cells ((init++[y]).flatMap lff++rest).toArray 175 fz)]) (r:=Row 175 9 (some ⟨rb,0,none⟩) (init.length+1) q2 ((init++[y]).flatMap lff)) (fun h hh=>row_shut hr h hh) ?_
 ·have e:leaveE (init++[y]) x=32:=by simp [leaveE,h0,hlate,hc]
  rw [Xz (e:=32) e (by decide)] at hpost
  subst hpost
  refine k_lg' (ls:=init++[y]) (o:=some ⟨rb,0,none⟩) (cap:=q2) ?_ hlen.symm rfl
  exact ZS () rfl trivial
 ·have e:leaveE (init++[y]) x=32:=by simp [leaveE,h0,hlate,hc]
  rw [Xz (e:=32) e (by decide)] at hpost
  subst hpost
  refine k_lg' (ls:=init++[y]) (o:=some ⟨rb,0,none⟩) (cap:=q2) ?_ hlen.symm rfl
  exact ZS () rfl trivial
 ·rename_i h1 h2 _
  have e:leaveE (init++[y]) x=9:=by
   rw [leaveE,if_neg (by simp [h0]),if_neg (by rw [hlate];simp;omega),if_pos (by rw [hlen];omega)]
  rw [Xz (e:=9) e (by decide)] at hpost
  subst hpost
  refine k_lg' (ls:=init++[y]) (o:=some ⟨rb,0,none⟩) (cap:=q2) ?_ hlen.symm rfl
  exact ZS () rfl trivial
 ·have e:leaveE (init++[y]) x=0:=by
   rw [leaveE,if_neg (by simp [h0]),if_neg (by rw [hlate];simp;omega),if_neg (by rw [hlen];omega)]
  rw [Wv e,hlen] at hpost
  subst hpost
  repeat' (first|refine ZH ?_|refine ZG ?_|refine ZK ?_|refine ZI ?_|refine ZP ?_|refine ZJ ?_|refine ZM ?_|refine ZN (fun b=>?_)|refine ZO (fun b=>?_)|refine ZA ?_|refine ZB ?_|refine ZR ?_|refine ZZ ?_|refine ZW ?_|refine Zf ?_|refine Za ?_|refine ZY ?_|refine Ze (fun b=>?_)|refine Zg (fun b=>?_)|refine Zd ?_|refine ZX ?_|refine Xo (fun o' cap'=>?_)|(refine ZC (fun hc=>?_) (fun hc=>?_)<;>(try simp at hc))|(refine ZL (fun hc=>?_) (fun hc=>?_)<;>(try simp at hc))|refine ZD 7 [] [(0,0),(1,0),(2,0),(3,0),(4,0),(5,0),(6,0),(7,0),(8,0),(9,0),(10,0),(11,0),(12,0),(13,0),(14,0),(15,0),(16,0),(17,0),(18,0),(19,0),(20,0),(21,0),(22,0),(23,0),(24,0),(25,0),(26,0),(27,0),(28,0),(29,0)] [] ?_|refine ZD 11 [Row _ _ _ _ _ _] [(0,0),(1,0),(2,0),(3,0),(4,0),(5,0),(6,1),(7,4),(8,0),(9,0)] [10] ?_|(refine ZE (fun hc=>?_) (fun hc=>?_)<;>(try simp at hc)))
  refine k_lg' (m:=init.length+1+1) (xs:=(init++[y]).flatMap lff++lff x) (ls:=init++[y]++[x]) (o:=o') (cap:=cap') ?_ (by simp) (by simp)
  exact ZS () rfl trivial
theorem leave_ok (b:Nat) (ls:List Lf) (x:Lf) (hx:x.e.who.size≤1099511627776) (hl:ls.length≤1000000):Enters 76∧Spec prog 76 #[.pointer (some ⟨b,0,none⟩),x.v] [] [Lg b ls] (LvPost b ls x):=by
 by_cases h0:lchk x=0
 ·rcases List.eq_nil_or_concat ls with rfl|⟨init,y,rfl⟩
  ·exact leave_nil b x hx h0
  ·simp only [List.concat_eq_append] at hl ⊢
   exact leave_cons b init y x hx h0 (by simp at hl;omega)
 ·exact leave_bad b ls x hx h0
section
theorem k_lgf {b:Nat} {ls:List Lf} (t:∀o cap,Wk n C k Q E (Blk b (.cells #[.slice o ls.length cap] 246)::Sl 175 lff o cap ls::F) R) (hs:Sel (LgF b ls) F F0:=by (repeat (first|exact Sel.here|apply Sel.there));first|done|fail):Wk n C k Q E F R:=
 Z1 (X:=Option Addr×Nat) (Fx:=fun q=>[Blk b (.cells #[.slice q.1 ls.length q.2] 246),Sl 175 lff q.1 q.2 ls]) (p:=fun _=>True) (f:=LgF b ls) hs (fun h ⟨q,h1,h2⟩=>⟨q,trivial,fun f hf=>by
  simp only [List.mem_cons,List.not_mem_nil,or_false] at hf
  rcases hf with rfl|rfl
  ·exact h1
  ·exact h2⟩) (fun q _=>t q.1 q.2)
theorem k_lgz {b:Nat} {ls:List Lf} (t:Wk n C k Q E (LgF b ls::F) R0) (hs:Sel (Lg b ls) R R0:=by (repeat (first|exact Sel.here|apply Sel.there));first|done|fail):Wk n C k Q E F R:=by
 refine Yo (X:=Option Addr×Nat) (Lx:=fun q=>LgL b ls q) (p:=fun _=>True) (r:=Lg b ls) hs (fun h hh=>hh) (fun q _=>?_)
 refine YZ (b:=b) (o:=.cells #[.slice q.1 ls.length q.2] 246) ?_
 refine Xt (T:=175) (sz:=9) (f:=lff) (o:=q.1) (cap:=q.2) ls ?_ rfl rfl
 refine k_mk (F1:=[Blk b (.cells #[.slice q.1 ls.length q.2] 246),Sl 175 lff q.1 q.2 ls]) (f:=LgF b ls) (fun hp hF=>⟨q,hF _ (by simp),hF _ (by simp)⟩) ?_
 intro a w ha hs
 exact t a w ha (hs.facts fun hp hF x hx=>by
  rcases List.mem_cons.1 hx with rfl|hx
  ·exact hF _ (by simp)
  ·exact hF _ (by simp [hx]))
end
theorem lgAll_ok (b:Nat) (ls:List Lf):Enters 135∧Spec prog 135 #[.pointer (some ⟨b,0,none⟩)] [LgF b ls] []
  ⟨Option Addr×Nat,fun q=>.slice q.1 ls.length q.2,fun _=>True,fun q=>[Sl 175 lff q.1 q.2 ls],fun _=>[]⟩:=by
 refine Zb [_] func135 ntmps135 fun G w hp=>?_
 refine k_lgf fun o cap=>?_
 repeat' (first|refine ZH ?_|refine ZG ?_|refine ZK ?_|refine ZI ?_|refine ZP ?_|refine ZJ ?_|refine ZM ?_|refine ZN (fun b=>?_)|refine ZO (fun b=>?_)|refine ZA ?_|refine ZB ?_|refine ZR ?_|refine ZC (fun hc=>?_) (fun hc=>?_)|refine ZE (fun hc=>?_) (fun hc=>?_))
 exact ZS (o,cap) rfl trivial
theorem lgLen_ok (b:Nat) (ls:List Lf):Enters 78∧Spec prog 78 #[.pointer (some ⟨b,0,none⟩)] [LgF b ls] [] (RetV (.int .i64 (ls.length:Int))):=by
 refine Zb [_] func78 ntmps78 fun G w hp=>?_
 repeat' (first|refine ZH ?_|refine ZG ?_|refine ZK ?_|refine ZI ?_|refine ZP ?_|refine ZJ ?_|refine ZM ?_|refine ZN (fun b=>?_)|refine ZO (fun b=>?_)|refine ZA ?_|refine ZB ?_|refine ZR ?_|refine ZF (lgAll_ok _ ls) (fun _ _=>?_)|refine l_call0 (lgAll_ok _ ls) (fun _ _=>?_)|refine ZC (fun hc=>?_) (fun hc=>?_)|refine ZE (fun hc=>?_) (fun hc=>?_))
 exact ZS () rfl trivial
theorem lgGet_ok (b:Nat) (ls:List Lf) (i:Nat) (x:Lf) (hi:ls[i]? = some x):Enters 79∧Spec prog 79 #[.pointer (some ⟨b,0,none⟩),.int .i64 (i:Int)] [LgF b ls] [] (RetV (.tuple #[x.v,.int .i64 0])):=by
 have hlt:=(List.getElem?_eq_some_iff.1 hi).1
 refine Zb [_,_] func79 ntmps79 fun G w hp=>?_
 refine k_lgf fun o cap=>?_
 repeat' (first|refine ZH ?_|refine ZG ?_|refine ZK ?_|refine ZI ?_|refine ZP ?_|refine ZJ ?_|refine ZM ?_|refine ZN (fun b=>?_)|refine ZO (fun b=>?_)|refine ZA ?_|refine ZB ?_|refine ZR ?_|refine Zp (es:=ls) i x hi (fun b off=>?_)|refine Zm ?_|(refine ZC (fun hc=>?_) (fun hc=>?_)<;>(try simp at hc)<;>(try omega))|(refine ZE (fun hc=>?_) (fun hc=>?_)<;>(try simp at hc)<;>(try omega)))
 exact ZS () rfl trivial
section
theorem Ys {T sz m m' cap:Nat} {o:Option Addr} (xs xs':List Value) (hm:m=m') (hx:xs=xs') (t:Wk n C k Q E F (Row T sz o m' cap xs'::R0)) (hs:Sel (Row T sz o m cap xs) R R0:=by (repeat (first|exact Sel.here|apply Sel.there));first|done|fail):Wk n C k Q E F R:=by
 subst hm;subst hx
 exact fun a w ha hsat=>t a w ha (hsat.sel hs)
end
theorem getO_some {a:Nm}:∀{l:Al} {v:ByteArray},getO a l=some v→(a,v) ∈ l
 | [],_,h=>by cases h
 | (b,u)::l,v,h=>by
  rw [getO] at h
  split at h
  ·rename_i h0
   obtain rfl:=(WO a b).1 h0
   obtain rfl:=Option.some.inj h
   simp
  ·exact List.mem_cons_of_mem _ (getO_some h)
def entO (es:Al) (a:Nm):Option En:=(odec ((getO a es).getD ⟨#[]⟩)).map fun o=>⟨a.owner,a.number,a.index,o⟩
def allN (es:Al) (ns:List Nm):List En:=ns.filterMap (entO es)
def allE (es:Al):List En:=allN es (kn es 18)
theorem allN_snoc (es:Al) (ns:List Nm) (a:Nm):allN es (ns++[a])=allN es ns++(entO es a).toList:=by
 unfold allN
 rw [List.filterMap_append]
 cases h:entO es a<;>simp [h]
structure AX (es:Al) where
 i:Nat
 o:Option Addr
 cap:Nat
 hi:i≤(kn es 18).length
set_option maxHeartbeats 1000000 in
theorem outAll_ok (ps:Option Addr) (es:Al):Enters 77∧Spec prog 77 #[.pointer ps] [St ps es] []
  ⟨Option Addr×Nat,fun q=>.slice q.1 (allE es).length q.2,fun _=>True,fun q=>[Sl 173 enf q.1 q.2 (allE es)],fun _=>[]⟩:=by
 refine Zb [_] func77 ntmps77 fun G w hp=>?_
 refine k_st (ps:=ps) (es:=es) (fun bs p t hp he hok=>?_)
 have hkl:(kn es 18).length≤65536:=by
  have h1:(kn es 18).length≤es.length:=by simp only [kn,List.length_map];exact List.length_filter_le ..
  have:=hok.len
  omega
 repeat' (first|refine ZH ?_|refine ZG ?_|refine ZK ?_|refine ZI ?_|refine ZP ?_|refine ZJ ?_|refine ZM ?_|refine ZN (fun b=>?_)|refine ZO (fun b=>?_)|refine ZA ?_|refine ZB ?_|refine ZR ?_|refine ZF (kind_ok ps es 18) (fun _ _=>?_)|refine l_call0 (kind_ok ps es 18) (fun _ _=>?_)|refine ZC (fun hc=>?_) (fun hc=>?_)|refine ZE (fun hc=>?_) (fun hc=>?_))
 rename_i q _
 obtain ⟨qo,qc⟩:=q
 refine Zs (Lx:=[]) (r:=Row 173 7 none 0 0 []) (fun h _=>YQ _ _ h) ?_
 refine Z6 (X:=AX es) (fun x=>[(0,.pointer ps),(3,.slice x.o (allN es ((kn es 18).take x.i)).length x.cap),(11,.slice qo (kn es 18).length qc),(12,.int .i64 ((kn es 18).length:Int)),(13,.int .i64 (x.i:Int))]) (fun _=>[St ps es,Sl 46 nmf qo qc (kn es 18)]) (fun x=>[Row 173 7 x.o (allN es ((kn es 18).take x.i)).length x.cap ((allN es ((kn es 18).take x.i)).flatMap enf)]) (fun x=>(kn es 18).length - x.i) ⟨0,none,0,by omega⟩ ⟨rfl,rfl,rfl,rfl,rfl,trivial⟩ ?_
 rintro ⟨i,o,cap,hi⟩
 dsimp only
 by_cases hlt:i<(kn es 18).length
 ·obtain ⟨a,ha⟩:∃a,(kn es 18)[i]? = some a:=⟨_,List.getElem?_eq_getElem hlt⟩
  have hmem:a ∈ kn es 18:=List.mem_of_getElem? ha
  obtain ⟨x,hx,rfl⟩:=List.mem_map.1 hmem
  have hown:=hok.own x (List.mem_filter.1 hx).1
  have hval:((getO x.1 es).getD ⟨#[]⟩).size≤65536:=by
   cases hg:getO x.1 es with
   | none=>exact Nat.zero_le _
   | some v=>exact hok.val _ (getO_some hg)
  have n1:=stateGet_ok ps es x.1 hown
  have n2:=outDecode_ok ((getO x.1 es).getD ⟨#[]⟩) (by omega)
  have hsn:(kn es 18).take (i+1)=(kn es 18).take i++[x.1]:=by rw [List.take_add_one,ha];rfl
  have hall:=allN_snoc es ((kn es 18).take i) x.1
  rw [←hsn] at hall
  have hln:(allN es ((kn es 18).take i)).length≤65536:=by
   have h1:(allN es ((kn es 18).take i)).length≤((kn es 18).take i).length:=List.length_filterMap_le _ _
   simp at h1;omega
  cases hd:odec ((getO x.1 es).getD ⟨#[]⟩) with
  | none=>
   rw [hd] at n2
   have hent:entO es x.1=none:=by rw [entO,hd];rfl
   rw [hent,Option.toList_none,List.append_nil] at hall
   repeat' (first|refine ZH ?_|refine ZG ?_|refine ZK ?_|refine ZI ?_|refine ZP ?_|refine ZJ ?_|refine ZM ?_|refine ZN (fun b=>?_)|refine ZO (fun b=>?_)|refine ZA ?_|refine ZB ?_|refine ZR ?_|refine ZF (n1) (fun _ _=>?_)|refine l_call0 (n1) (fun _ _=>?_)|refine ZF (n2) (fun _ _=>?_)|refine l_call0 (n2) (fun _ _=>?_)|refine Zp (es:=kn es 18) i x.1 ha (fun b off=>?_)|refine Zm ?_|(refine ZC (fun hc=>?_) (fun hc=>?_)<;>(try simp at hc)<;>(try omega))|(refine ZE (fun hc=>?_) (fun hc=>?_)<;>(try simp at hc)<;>(try omega)))
   rw [wrapi (z:=(i:Int)+1) (by omega) (by omega)]
   rw [←hall]
   exact Zc ⟨i+1,o,cap,by omega⟩ (by show (kn es 18).length - (i+1)<(kn es 18).length - i;omega) ⟨rfl,rfl,rfl,rfl,rfl,trivial⟩
  | some ou=>
   rw [hd] at n2
   have hent:entO es x.1=some ⟨x.1.owner,x.1.number,x.1.index,ou⟩:=by rw [entO,hd];rfl
   rw [hent,Option.toList_some] at hall
   have e1:(allN es ((kn es 18).take i)).length+1=(allN es ((kn es 18).take (i+1))).length:=by rw [hall];simp
   have e2:(allN es ((kn es 18).take i)).flatMap enf++enf ⟨x.1.owner,x.1.number,x.1.index,ou⟩=(allN es ((kn es 18).take (i+1))).flatMap enf:=by rw [hall];simp
   repeat' (first|refine ZH ?_|refine ZG ?_|refine ZK ?_|refine ZI ?_|refine ZP ?_|refine ZJ ?_|refine ZM ?_|refine ZN (fun b=>?_)|refine ZO (fun b=>?_)|refine ZA ?_|refine ZB ?_|refine ZR ?_|refine ZF (n1) (fun _ _=>?_)|refine l_call0 (n1) (fun _ _=>?_)|refine ZF (n2) (fun _ _=>?_)|refine l_call0 (n2) (fun _ _=>?_)|refine Zp (es:=kn es 18) i x.1 ha (fun b off=>?_)|refine Zm ?_|refine Yq (fun o' cap'=>?_)|(refine ZC (fun hc=>?_) (fun hc=>?_)<;>(try simp at hc)<;>(try omega))|(refine ZE (fun hc=>?_) (fun hc=>?_)<;>(try simp at hc)<;>(try omega)))
   rw [wrapi (z:=(i:Int)+1) (by omega) (by omega)]
   refine Ys (T:=173) (sz:=7) (o:=o') (cap:=cap') (m:=(allN es ((kn es 18).take i)).length+1) _ _ e1 e2 ?_
   rw [e1]
   exact Zc ⟨i+1,o',cap',by omega⟩ (by show (kn es 18).length - (i+1)<(kn es 18).length - i;omega) ⟨rfl,rfl,rfl,rfl,rfl,trivial⟩
 ·have e:(kn es 18).take i=kn es 18:=List.take_of_length_le (by omega)
  rw [e]
  repeat' (first|refine ZH ?_|refine ZG ?_|refine ZK ?_|refine ZI ?_|refine ZP ?_|refine ZJ ?_|refine ZM ?_|refine ZN (fun b=>?_)|refine ZO (fun b=>?_)|refine ZA ?_|refine ZB ?_|refine ZR ?_|(refine ZC (fun hc=>?_) (fun hc=>?_)<;>(try simp at hc)<;>(try omega))|(refine ZE (fun hc=>?_) (fun hc=>?_)<;>(try simp at hc)<;>(try omega)))
  refine Xt (T:=173) (sz:=7) (f:=enf) (o:=o) (cap:=cap) (allE es) ?_ rfl rfl
  exact ZS (o,cap) rfl trivial
def partv (t:Nat) (cs:List Value) (o:Nat):Option Value:=ldv t cs o
theorem Xl {t:Nat} {cs:Array Value} {o:Nat} {v:Value} (h:partv t cs.toList o=some v) (w:World):(part t cs o).run prog w = .ok v w:=by
 unfold partv ldv at h
 have hag:∀r:TRow,lookT tab t=some r→r.k.isAgg=true→r.k≠.other→cutF cs.toList o r.size (fun l=>some (Value.agg l.toArray))=some v→(part t cs o).run prog w = .ok v w:=fun r hr ha ho hc=>by
  obtain ⟨h2,_,h3⟩:=X8 _ _ _ _ _ hc
  have hia:=Zl.isAgg hr ho w
  rw [ha] at hia
  have hsz:=Zl.sizeOf hr w
  unfold part
  simp only [Sem.run_bind,hia,Result.andThen,if_true,hsz,Sem.run_pure]
  rw [←Option.some.inj h2]
  congr 2
  rw [←Array.toList_inj]
  simp [List.extract_eq_take_drop]
 have hno:∀r:TRow,lookT tab t=some r→r.k.isAgg=false→r.k≠.other→nth cs.toList o=some v→(part t cs o).run prog w = .ok v w:=fun r hr ha ho hc=>by
  have hia:=Zl.isAgg hr ho w
  rw [ha] at hia
  rw [Yh] at hc
  have hc:cs[o]? = some v:=by simpa using hc
  unfold part
  simp only [Sem.run_bind,hia,Result.andThen,Bool.false_eq_true,if_false,hc,Sem.run_pure]
 split at h
 ·rename_i hr;exact hag _ hr rfl (by simp) h
 ·rename_i hr;exact hag _ hr rfl (by simp) h
 ·cases h
 ·rename_i r hn1 hn2 hn3 hr
  refine hno _ hr ?_ ?_ h
  ·cases hk2:r.k<;>simp [TK.isAgg]<;>(obtain ⟨k,s1,b1,z1⟩:=r;simp at hk2;subst hk2;first|exact hn1 _ _ _ _ rfl|exact hn2 _ _ _ _ _ rfl)
  ·intro hk2;obtain ⟨k,s1,b1,z1⟩:=r;simp at hk2;subst hk2;exact hn3 _ _ _ rfl
 ·cases h
def memN:List Nat→Nat→Bool
 | [],_=>false
 | s::l,t=>match Nat.beq s t with
  | true=>true
  | false=>memN l t
theorem XQ:∀{l:List Nat} {t:Nat},memN l t=true→t ∈ l
 | s::l,t,h=>by
  unfold memN at h
  split at h
  ·rename_i hb
   obtain rfl:=Nat.eq_of_beq_eq_true hb
   simp
  ·exact List.mem_cons_of_mem _ (XQ h)
def eqFs (g:Nat→Value→Value→Option Bool):List (Nat×Nat×Nat)→List Value→List Value→Option Bool
 | [],_,_=>some true
 | (o,t,_)::fs,xs,ys=>match partv t xs o,partv t ys o with
  | some a,some b=>match g t a b with
   | some r=>match eqFs g fs xs ys with
    | some r'=>some (r && r')
    | none=>none
   | none=>none
  | _,_=>none
def eqIs (g:Value→Value→Option Bool) (e c:Nat) (xs ys:List Value):List Nat→Option Bool
 | []=>some true
 | i::is=>match partv e xs (i * c),partv e ys (i * c) with
  | some a,some b=>match g a b with
   | some r=>match eqIs g e c xs ys is with
    | some r'=>some (r && r')
    | none=>none
   | none=>none
  | _,_=>none
def eqC (S:List Nat):Nat→Nat→Value→Value→Option Bool
 | 0,_,_,_=>none
 | f+1,t,x,y=>match lookT tab t with
  | some ⟨.int _,_,_,_⟩=>match x,y with
   | .int k a,.int l b=>bif ikEq k l then some (a == b) else none
   | _,_=>none
  | some ⟨.str,_,_,_⟩=>match x,y with
   | .string a,.string b=>some (a.toList == b.toList)
   | _,_=>none
  | some ⟨.bool,_,_,_⟩=>match x,y with
   | .bool a,.bool b=>some (a == b)
   | _,_=>none
  | some ⟨.struct fs,_,_,_⟩=>match x,y with
   | .agg xs,.agg ys=>bif memN S t then eqFs (eqC S f) fs xs.toList ys.toList else none
   | _,_=>none
  | some ⟨.arr n e,_,_,_⟩=>match lookT tab e,x,y with
   | some re,.agg xs,.agg ys=>eqIs (eqC S f e) e re.size xs.toList ys.toList (List.range n)
   | _,_,_=>none
  | _=>none
noncomputable def chkE (t : Nat) : Bool := (match prog.underlying t with | some (.struct fs) => fs.toList.all (fun f => f.name != "_") | some (.array _ _) => true | _ => false) && (prog.stoodInHeld t == false) && (prog.eqGuardType prog.depth t == false)
theorem eqFs_ok {g:Nat→Value→Value→Option Bool} {d:Nat} (hg:∀t x y b w,g t x y=some b→(Op.equalIn d t x y).run prog w = .ok b w):∀(fl:List Field) (fs:List (Nat×Nat×Nat)) (xs ys:Array Value) (b:Bool) (w:World),
  fl.map (fun f => (f.offset, f.type, ((prog.info? f.type).map (·.size)).getD 0)) = fs → fl.all (fun f => f.name != "_") = true → eqFs g fs xs.toList ys.toList = some b → (Op.eqFields d xs ys fl).run prog w = .ok b w
 | [],_,_,_,b,w,h,_,he=>by
  subst h
  obtain rfl:=Option.some.inj he
  rfl
 | f::fl,_,xs,ys,b,w,h,hn,he=>by
  subst h
  simp only [List.map_cons,eqFs] at he
  simp only [List.all_cons,Bool.and_eq_true,bne_iff_ne,ne_eq] at hn
  split at he
  ·rename_i a c ha hc
   split at he
   ·rename_i r hr
    split at he
    ·rename_i r' hr'
     obtain rfl:=Option.some.inj he
     have ih:=eqFs_ok hg fl _ xs ys r' w rfl hn.2 hr'
     unfold Op.eqFields
     rw [if_pos hn.1]
     simp only [Sem.run_bind,Xl ha w,Xl hc w,hg _ _ _ _ w hr,Result.andThen]
     cases r with
     | false=>simp
     | true=>simpa using ih
    ·cases he
   ·cases he
  ·cases he
theorem eqIs_ok {g:Value→Value→Option Bool} {d e c:Nat} (hg:∀x y b w,g x y=some b→(Op.equalIn d e x y).run prog w = .ok b w) (xs ys:Array Value):∀(is:List Nat) (b:Bool) (w:World),eqIs g e c xs.toList ys.toList is=some b→(Op.eqItems d e c xs ys is).run prog w = .ok b w
 | [],b,w,he=>by
  obtain rfl:=Option.some.inj he
  rfl
 | i::is,b,w,he=>by
  simp only [eqIs] at he
  split at he
  ·rename_i a c ha hc
   split at he
   ·rename_i r hr
    split at he
    ·rename_i r' hr'
     obtain rfl:=Option.some.inj he
     have ih:=eqIs_ok hg xs ys is r' w hr'
     unfold Op.eqItems
     simp only [Sem.run_bind,Xl ha w,Xl hc w,hg _ _ _ w hr,Result.andThen]
     cases r with
     | false=>simp
     | true=>simpa using ih
    ·cases he
   ·cases he
  ·cases he
theorem WH {S:List Nat} (hS:S.all chkE=true):∀(f d t:Nat) (x y:Value) (b:Bool) (w:World),f≤d→eqC S f t x y=some b→(Op.equalIn d t x y).run prog w = .ok b w
 | 0,_,_,_,_,_,_,_,h=>by cases h
 | f+1,0,_,_,_,_,_,hd,_=>by omega
 | f+1,d+1,t,x,y,b,w,hd,h=>by
  unfold eqC at h
  split at h
  ·rename_i k0 _ _ _ hr
   split at h
   ·rename_i k a l c
    cases hk:ikEq k l with
    | false=>simp [hk] at h
    | true=>
     simp only [hk,cond_true] at h
     obtain rfl:=ikEq_eq hk
     obtain rfl:=Option.some.inj h
     obtain ⟨dd,hd1,hk1⟩:=Zl.und hr
     cases dd<;>simp [chkKind] at hk1
     exact run_equalIn_int w d t k _ a c hd1
   ·cases h
  ·rename_i hr
   split at h
   ·rename_i a c
    obtain rfl:=Option.some.inj h
    obtain ⟨dd,hd1,hk1⟩:=Zl.und hr
    cases dd<;>simp [chkKind] at hk1
    exact run_equalIn_string w d t a c hd1
   ·cases h
  ·rename_i hr
   split at h
   ·rename_i a c
    obtain rfl:=Option.some.inj h
    obtain ⟨dd,hd1,hk1⟩:=Zl.und hr
    cases dd<;>simp [chkKind] at hk1
    exact run_equalIn_bool' w d t a c hd1
   ·cases h
  ·rename_i fs _ _ _ hr
   split at h
   ·rename_i xs ys
    cases hm:memN S t with
    | false=>simp [hm] at h
    | true=>
     simp only [hm,cond_true] at h
     have hc:=List.all_eq_true.1 hS t (XQ hm)
     simp only [chkE,Bool.and_eq_true,beq_iff_eq] at hc
     obtain ⟨dd,hd1,hk1⟩:=Zl.und hr
     cases dd<;>simp [chkKind] at hk1
     rename_i fl
     have hfo:prog.fieldsOf t=fl:=by simp [Program.fieldsOf,hd1]
     rw [run_equalIn_struct w d t xs ys (by rw [hfo];exact hd1) hc.1.2,hfo]
     have hnm:=hc.1.1
     rw [hd1] at hnm
     refine eqFs_ok (g:=eqC S f) (fun t x y b w hh=>WH hS f d t x y b w (by omega) hh) fl.toList fs xs ys b w ?_ hnm h
     simpa using hk1.1
   ·cases h
  ·rename_i m e _ _ _ hr
   split at h
   ·rename_i re xs ys hre
    obtain ⟨dd,hd1,hk1⟩:=Zl.und hr
    cases dd<;>simp [chkKind] at hk1
    obtain ⟨rfl,rfl⟩:=hk1
    obtain ⟨inf,_,_,hi,_,hsz,_⟩:=Zl.row hre
    rw [run_equalIn_array w d xs ys hd1 hi]
    have hce:prog.cellsOf e=re.size:=by rw [←hsz];simp [Program.cellsOf,hi]
    rw [hce]
    exact eqIs_ok (g:=eqC S f e) (fun x y b w hh=>WH hS f d e x y b w (by omega) hh) xs ys _ b w h
   ·cases h
  ·cases h
def eqS:List Nat:=[25,173,27,182,46,363,175,108,269,64,68,48,41,79]
theorem Yy:eqS.all chkE=true:=by decide +kernel
theorem equal_ok {t:Nat} {x y:Value} {b:Bool} (h:eqC eqS 20 t x y=some b) (w:World):(Op.equal t x y).run prog w = .ok b w:=WH Yy 20 10000 t x y b w (by omega) h
section
variable {l:List Oper} {t2:TypeId} {xs ys:Array Value}
theorem l_seq {b:Bool} (nx:Wl n C ops.toArray k Q l ((d,.bool b)::E) F R) (hw:wantL ops E ⟨some d,.binOp .eql t x y t2,ty0,pos,aft,gd⟩=some true:=by rfl) (hn:Nat.blt d n=true:=by rfl)
  (hx:ev E x=some (.agg xs):=by rfl) (hy:ev E y=some (.agg ys):=by rfl) (hm:memN eqS t=true:=by rfl) (he:eqC eqS 20 t (.agg xs) (.agg ys)=some b:=by rfl):Wl n C ops.toArray k Q (⟨some d,.binOp .eql t x y t2,ty0,pos,aft,gd⟩::l) E F R:=
 l_q (fun a w ha=>by
  have hc:=List.all_eq_true.1 Yy t (XQ hm)
  simp only [chkE,Bool.and_eq_true,beq_iff_eq] at hc
  have h1:=WH Yy 20 10000 t _ _ b w (by omega) he
  simp only [execOp,ha.ev (x:=x) (by rw [ZU];exact hx),ha.ev (x:=y) (by rw [ZU];exact hy),Sem.run_bind,run_eqGuard_agg w .eql t x y xs ys hc.2,Result.andThen,run_eql_struct,h1,Sem.run_pure]) nx (by intro c h;cases h) hw hn
theorem Xa {b:Bool} (nx:Wl n C ops.toArray k Q l ((d,.bool (!b))::E) F R) (hw:wantL ops E ⟨some d,.binOp .neq t x y t2,ty0,pos,aft,gd⟩=some true:=by rfl) (hn:Nat.blt d n=true:=by rfl)
  (hx:ev E x=some (.agg xs):=by rfl) (hy:ev E y=some (.agg ys):=by rfl) (hm:memN eqS t=true:=by rfl) (he:eqC eqS 20 t (.agg xs) (.agg ys)=some b:=by rfl):Wl n C ops.toArray k Q (⟨some d,.binOp .neq t x y t2,ty0,pos,aft,gd⟩::l) E F R:=
 l_q (fun a w ha=>by
  have hc:=List.all_eq_true.1 Yy t (XQ hm)
  simp only [chkE,Bool.and_eq_true,beq_iff_eq] at hc
  have h1:=WH Yy 20 10000 t _ _ b w (by omega) he
  simp only [execOp,ha.ev (x:=x) (by rw [ZU];exact hx),ha.ev (x:=y) (by rw [ZU];exact hy),Sem.run_bind,run_eqGuard_agg w .neq t x y xs ys hc.2,Result.andThen,run_neq_struct,h1,Sem.run_pure]) nx (by intro c h;cases h) hw hn
theorem r_seq {b:Bool} (nx:Wr n C ops k Q Tl Fs R L ((d,.bool b)::E) F N) (ho:nth ops i=some ⟨some d,.binOp .eql t x y t2,ty0,pos,aft,gd⟩:=by rfl) (hw:wantL ops E ⟨some d,.binOp .eql t x y t2,ty0,pos,aft,gd⟩=some true:=by rfl)
  (hx:ev E x=some (.agg xs):=by rfl) (hy:ev E y=some (.agg ys):=by rfl) (hm:memN eqS t=true:=by rfl) (he:eqC eqS 20 t (.agg xs) (.agg ys)=some b:=by rfl):Wr n C ops k Q Tl Fs R ((i,0)::L) E F N:=
 r_q (fun a w ha=>by
  have hc:=List.all_eq_true.1 Yy t (XQ hm)
  simp only [chkE,Bool.and_eq_true,beq_iff_eq] at hc
  have h1:=WH Yy 20 10000 t _ _ b w (by omega) he
  simp only [execOp,ha.ev (x:=x) (by rw [ZU];exact hx),ha.ev (x:=y) (by rw [ZU];exact hy),Sem.run_bind,run_eqGuard_agg w .eql t x y xs ys hc.2,Result.andThen,run_eql_struct,h1,Sem.run_pure]) nx ho hw
theorem r_sneq {b:Bool} (nx:Wr n C ops k Q Tl Fs R L ((d,.bool (!b))::E) F N) (ho:nth ops i=some ⟨some d,.binOp .neq t x y t2,ty0,pos,aft,gd⟩:=by rfl) (hw:wantL ops E ⟨some d,.binOp .neq t x y t2,ty0,pos,aft,gd⟩=some true:=by rfl)
  (hx:ev E x=some (.agg xs):=by rfl) (hy:ev E y=some (.agg ys):=by rfl) (hm:memN eqS t=true:=by rfl) (he:eqC eqS 20 t (.agg xs) (.agg ys)=some b:=by rfl):Wr n C ops k Q Tl Fs R ((i,0)::L) E F N:=
 r_q (fun a w ha=>by
  have hc:=List.all_eq_true.1 Yy t (XQ hm)
  simp only [chkE,Bool.and_eq_true,beq_iff_eq] at hc
  have h1:=WH Yy 20 10000 t _ _ b w (by omega) he
  simp only [execOp,ha.ev (x:=x) (by rw [ZU];exact hx),ha.ev (x:=y) (by rw [ZU];exact hy),Sem.run_bind,run_eqGuard_agg w .neq t x y xs ys hc.2,Result.andThen,run_neq_struct,h1,Sem.run_pure]) nx ho hw
end
def ckFs (g:Nat→Value→Bool):List (Nat×Nat×Nat)→List Value→Bool
 | [],_=>true
 | (o,t,_)::fs,xs=>match partv t xs o with
  | some a=>g t a && ckFs g fs xs
  | none=>false
def ckC (S:List Nat):Nat→Nat→Value→Bool
 | 0,_,_=>false
 | f+1,t,x=>match lookT tab t with
  | some ⟨.int _,_,_,_⟩=>true
  | some ⟨.str,_,_,_⟩=>true
  | some ⟨.bool,_,_,_⟩=>true
  | some ⟨.struct fs,_,_,_⟩=>match x with
   | .agg xs=>memN S t && ckFs (ckC S f) fs xs.toList
   | _=>false
  | _=>false
theorem ckFs_ok {g:Nat→Value→Bool} {d:Nat} {em:Bool} (hg:∀t x w,g t x=true→(Instr.checkKey em d t x).run prog w = .ok () w):∀(fl:List Field) (fs:List (Nat×Nat×Nat)) (xs:Array Value) (w:World),
  fl.map (fun f=>(f.offset,f.type,((prog.info? f.type).map (·.size)).getD 0))=fs→ckFs g fs xs.toList=true→
  (forIn fl PUnit.unit (fun f _ => if f.name ≠ "_" then (do
    let a ←part f.type xs f.offset
    Instr.checkKey em d f.type a
    pure (ForInStep.yield PUnit.unit)) else pure (ForInStep.yield PUnit.unit)):Sem PUnit).run prog w = .ok PUnit.unit w
 | [],_,_,w,_,_=>rfl
 | f::fl,_,xs,w,h,he=>by
  subst h
  simp only [List.map_cons,ckFs] at he
  split at he
  ·rename_i a ha
   rw [Bool.and_eq_true] at he
   have ih:=ckFs_ok hg fl _ xs w rfl he.2
   rw [List.forIn_cons]
   by_cases hn : f.name ≠ "_"
   ·rw [if_pos hn]
    simp only [Sem.run_bind,Xl ha w,hg _ _ w he.1,Result.andThen,Sem.run_pure]
    exact ih
   ·rw [if_neg hn]
    simp only [Sem.run_bind,Result.andThen,Sem.run_pure]
    exact ih
  ·cases he
theorem ckC_ok {S:List Nat} (hS:S.all chkE=true) (em:Bool):∀(f d t:Nat) (x:Value) (w:World),f≤d→ckC S f t x=true→(Instr.checkKey em d t x).run prog w = .ok () w
 | 0,_,_,_,_,_,h=>by cases h
 | f+1,0,_,_,_,hd,_=>by omega
 | f+1,d+1,t,x,w,hd,h=>by
  unfold ckC at h
  split at h
  ·rename_i hr
   obtain ⟨dd,hd1,hk1⟩:=Zl.und hr
   cases dd<;>simp [chkKind] at hk1
   simp [Instr.checkKey,underlying,hd1,go_sem]
  ·rename_i hr
   obtain ⟨dd,hd1,hk1⟩:=Zl.und hr
   cases dd<;>simp [chkKind] at hk1
   simp [Instr.checkKey,underlying,hd1,go_sem]
  ·rename_i hr
   obtain ⟨dd,hd1,hk1⟩:=Zl.und hr
   cases dd<;>simp [chkKind] at hk1
   simp [Instr.checkKey,underlying,hd1,go_sem]
  ·rename_i fs _ _ _ hr
   split at h
   ·rename_i xs
    rw [Bool.and_eq_true] at h
    obtain ⟨dd,hd1,hk1⟩:=Zl.und hr
    cases dd<;>simp [chkKind] at hk1
    rename_i fl
    have hu:(underlying t).run prog w = .ok (.struct fl) w:=by simp [underlying,hd1,go_sem]
    have hl:=ckFs_ok (g:=ckC S f) (d:=d) (em:=em) (fun t x w hh=>ckC_ok hS em f d t x w (by omega) hh) fl.toList fs xs w (by simpa using hk1.1) h.2
    unfold Instr.checkKey
    simp only [Sem.run_bind,hu,Result.andThen]
    rw [←Array.forIn_toList]
    rw [hl]
    rfl
   ·cases h
  ·cases h
structure KeyOK {α:Type} [DecidableEq α] (kt:Nat) (K:α→Value):Prop where
 eq:∀a b w,(Op.equal kt (K a) (K b)).run prog w = .ok (decide (a=b)) w
 chk:∀a em w,(Instr.checkKey em 10000 kt (K a)).run prog w = .ok () w
 bits:∀a,Instr.sameBits 10000 (K a) (K a)=true
 now:∃d,prog.underlying kt=some d∧∀a b,Instr.sameNow d (K a) (K b)=none∨Instr.sameNow d (K a) (K b)=some (decide (a=b))
section
variable {α β:Type} [DecidableEq α]
def mfind (a:α):List (α×β)→Nat→Option (Nat×β)
 | [],_=>none
 | (b,v)::m,i=>if a=b then some (i,v) else mfind a m (i+1)
def mget (a:α):List (α×β)→Option β
 | []=>none
 | (b,v)::m=>if a=b then some v else mget a m
def mset (a:α) (v:β):List (α×β)→List (α×β)
 | []=>[(a,v)]
 | (b,u)::m=>if a=b then (a,v)::m else (b,u)::mset a v m
theorem XL (a:α):∀(m:List (α×β)) (i:Nat),(mfind a m i).map (·.2)=mget a m
 | [],_=>rfl
 | (b,v)::m,i=>by
  unfold mfind mget
  split
  ·rfl
  ·exact XL a m (i+1)
variable {kt:Nat} {K:α→Value} {V:β→Value}
theorem X9 (hk:KeyOK kt K) (a:α):∀(es:List MapEntry) (m:List (α×β)) (i:Nat) (w:World),es.map (fun e=>(e.key,e.val))=m.map (fun x=>(K x.1,V x.2))→
  (Instr.findAsking kt (K a) es i).run prog w = .ok ((mfind a m i).map fun p=>(p.1,V p.2)) w
 | [],m,i,w,h=>by
  cases m with
  | nil=>rfl
  | cons=>simp at h
 | e::es,m,i,w,h=>by
  cases m with
  | nil=>simp at h
  | cons x m=>
   obtain ⟨b,v⟩:=x
   simp only [List.map_cons,List.cons.injEq,Prod.mk.injEq] at h
   obtain ⟨⟨h1,h2⟩,h3⟩:=h
   unfold Instr.findAsking mfind
   simp only [Sem.run_bind,h1,hk.eq a b w,Result.andThen]
   by_cases hab:a=b
   ·simp [hab,h2]
   ·simp only [hab,decide_false,Bool.false_eq_true,if_false]
    exact X9 hk a es m (i+1) w h3
theorem findNow_ok {d:TypeDesc} (hd:∀a b,Instr.sameNow d (K a) (K b)=none∨Instr.sameNow d (K a) (K b)=some (decide (a=b))) (a:α):∀(es:List MapEntry) (m:List (α×β)) (i:Nat) (r:Option (Nat×Value)),es.map (fun e=>(e.key,e.val))=m.map (fun x=>(K x.1,V x.2))→
  Instr.findNow d (K a) es i=some r→r=(mfind a m i).map fun p=>(p.1,V p.2)
 | [],m,i,r,h,hr=>by
  cases m with
  | nil=>exact (Option.some.inj hr).symm
  | cons=>simp at h
 | e::es,m,i,r,h,hr=>by
  cases m with
  | nil=>simp at h
  | cons x m=>
   obtain ⟨b,v⟩:=x
   simp only [List.map_cons,List.cons.injEq,Prod.mk.injEq] at h
   obtain ⟨⟨h1,h2⟩,h3⟩:=h
   unfold Instr.findNow at hr
   unfold mfind
   rw [h1] at hr
   rcases hd a b with e1|e1
   ·rw [e1] at hr;cases hr
   ·rw [e1] at hr
    by_cases hab:a=b
    ·simp only [hab,decide_true] at hr
     simp [hab,←Option.some.inj hr,h2]
    ·simp only [hab,decide_false] at hr
     rw [if_neg hab]
     exact findNow_ok hd a es m (i+1) r h3 hr
theorem Yn (hk:KeyOK kt K) (a:α) (es:List MapEntry) (m:List (α×β)) (w:World) (h:es.map (fun e=>(e.key,e.val))=m.map (fun x=>(K x.1,V x.2))) :
  (Instr.findKey kt (K a) es).run prog w = .ok ((mfind a m 0).map fun p=>(p.1,V p.2)) w:=by
 obtain ⟨d,hd,hn⟩:=hk.now
 have hu:(underlying kt).run prog w = .ok d w:=by simp [underlying,hd,go_sem]
 unfold Instr.findKey
 simp only [Sem.run_bind,hu,Result.andThen]
 split
 ·rename_i r hr
  rw [findNow_ok hn a es m 0 r h hr];rfl
 ·exact X9 hk a es m 0 w h
def BornOK (es:Array MapEntry) (clock:Nat):Prop:=(es.toList.map (·.born)).Nodup∧∀e ∈ es.toList,e.born<clock
def Mp (K:α→Value) (V:β→Value) (r:Nat) (m:List (α×β)):HP:=fun h=>∃es clock,h r=some (.map es clock)∧es.toList.map (fun e=>(e.key,e.val))=(m.map fun x=>(K x.1,V x.2))∧BornOK es clock
theorem X3 (a:α) (v:β):∀(m:List (α×β)) (i:Nat),mfind a m i=none→mset a v m=m++[(a,v)]
 | [],_,_=>rfl
 | (b,u)::m,i,h=>by
  unfold mfind at h
  split at h
  ·cases h
  ·rename_i hab
   rw [mset,if_neg hab,X3 a v m (i+1) h];rfl
theorem XR (a:α) (v:β):∀(m:List (α×β)) (i j:Nat) (u:β),mfind a m i=some (j,u)→∃p,j=i+p∧m[p]? = some (a,u)∧mset a v m=m.set p (a,v)
 | [],_,_,_,h=>by cases h
 | (b,u')::m,i,j,u,h=>by
  unfold mfind at h
  split at h
  ·rename_i hab
   subst hab
   simp only [Option.some.injEq,Prod.mk.injEq] at h
   obtain ⟨rfl,rfl⟩:=h
   exact ⟨0,by omega,by simp,by simp [mset]⟩
  ·rename_i hab
   obtain ⟨p,h1,h2,h3⟩:=XR a v m (i+1) j u h
   exact ⟨p+1,by omega,by simpa using h2,by simp [mset,hab,h3]⟩
end
theorem YK {G:H} {w0 w:World} {hp0:H} {F:List Pf} {R:List HP} {b:Nat} {o o':Obj} (hs:Sat G w0 hp0 F (Pt b o::R) w):Sat G w0 hp0 F (Pt b o'::R) {w with heap:=w.heap.setIfInBounds b o'}:=by
 have hb:=hs.pt Sel.here
 have hlt:=(Array.getElem?_eq_some_iff.1 hb).1
 refine hs.write ⟨rfl,rfl,rfl,by simp⟩ ?_ fun c hc _=>?_
 ·simp [hlt]
 ·simp only [Array.getElem?_setIfInBounds];rw [if_neg (fun e=>hc e.symm)]
theorem WM {α β:Type} {K:α→Value} {V:β→Value} {r:Nat} {m:List (α×β)} {G:H} {w0 w:World} {hp0:H} {F:List Pf} {R R0:List HP} (hs:Sel (Mp K V r m) R R0) (h:Sat G w0 hp0 F R w) :
  ∃es clock,Sat G w0 hp0 F (Pt r (.map es clock)::R0) w∧es.toList.map (fun e=>(e.key,e.val))=(m.map fun x=>(K x.1,V x.2))∧BornOK es clock:=by
 obtain ⟨⟨⟨es,clock⟩,he,hB⟩,h1⟩:=(h.sel hs).open' (X:={x:Array MapEntry×Nat // x.1.toList.map (fun e=>(e.key,e.val))=(m.map fun x=>(K x.1,V x.2))∧BornOK x.1 x.2}) (L:=fun x=>[Pt r (.map x.1.1 x.1.2)]) fun k hk=>by
  obtain ⟨es,clock,h1,h2,h3⟩:=hk
  exact ⟨⟨(es,clock),h2,h3⟩,k,emp,(fun _=>.inr rfl),Sub.refl _,(fun _ _ e=>by cases e),h1,trivial⟩
 exact ⟨es,clock,h1,he,hB⟩
theorem X2 {α β:Type} {K:α→Value} {V:β→Value} {r:Nat} {m:List (α×β)} {G:H} {w0 w:World} {hp0:H} {F:List Pf} {R0:List HP} {es:Array MapEntry} {clock:Nat} (h:Sat G w0 hp0 F (Pt r (.map es clock)::R0) w)
  (he:es.toList.map (fun e=>(e.key,e.val))=m.map fun x=>(K x.1,V x.2)) (hB:BornOK es clock):Sat G w0 hp0 F (Mp K V r m::R0) w:=
 h.shut (L:=[Pt r (.map es clock)]) fun k hk=>by
  obtain ⟨h1,h2,_,s1,_,hx,_⟩:=hk
  exact ⟨es,clock,s1 _ _ hx,he,hB⟩
def zval (r:TRow):Option Value:=bif r.k.isAgg then some (.agg r.zero.toArray) else match r.zero with | [z]=>some z|_=>none
theorem zval_ok {t:Nat} {r:TRow} {z:Value} (hr:lookT tab t=some r) (hz:zval r=some z) (w:World):(zeroValue t).run prog w = .ok z w:=by
 have h1:=List.all_eq_true.1 Zl _ (lookT_mem hr)
 simp only [chkRow] at h1
 split at h1
 ·rename_i i d hi hd
  simp only [Bool.and_eq_true,beq_iff_eq] at h1
  obtain ⟨_,h5⟩:=h1
  split at h5
  ·rename_i z0 hz0
   rw [Bool.and_eq_true] at h5
   have hc:=zeqs_eq h5.1
   have hzz:z=z0:=by
    unfold zval at hz
    cases z0 with
    | agg cs=>
     simp only at h5
     rw [h5.2] at hz
     simp only [cond_true,Option.some.injEq] at hz
     rw [←hz,←hc];simp [Value.cells]
    | _=>
     simp only [Bool.not_eq_true'] at h5
     rw [h5.2] at hz
     simp only [Value.cells] at hc
     rw [←hc] at hz
     simpa using hz.symm
   subst hzz
   simp [zeroValue,typeInfo,hi,hz0,go_sem]
  ·cases h5
 ·cases h1
section
variable {n:Nat} {C:Cx} {Q:Exit→Act→World→Prop} {E E':List (Nat×Value)} {F F' F1 Fs F0:List Pf} {R R' R0 Rs N N' A:List HP} {k k':List Fr} {ops l:List Oper} {i d:Nat} {t ty0:TypeId} {x y z:Operand} {pos:String} {aft:Array Edge} {gd:Option (Nat×Bool)} {α β:Type} [DecidableEq α] {K:α→Value} {V:β→Value}
theorem XP {kt et:Nat} {w:World} {rs:TRow} (hts:lookT tab t=some rs) (hrs:rs.k = .map kt et):(underlying t).run prog w = .ok (.map kt et) w:=by
 obtain ⟨d1,hd1,hk1⟩:=Zl.und hts
 rw [hrs] at hk1
 cases d1<;>simp [chkKind] at hk1
 obtain ⟨rfl,rfl⟩:=hk1
 simp [underlying,hd1,go_sem]
theorem XS {kt et:Nat} {rs:TRow} (_hk:KeyOK kt K) (V:β→Value) (nx:∀r,Wl n C ops.toArray k Q l ((d,.map (some r))::E) F (Mp K V r []::R)) (hw:wantL ops E ⟨some d,.makeMap t none,ty0,pos,aft,gd⟩=some true:=by rfl) (hn:Nat.blt d n=true:=by rfl) (_hts:lookT tab t=some rs:=by rfl) (_hrs:rs.k = .map kt et:=by rfl) :
  Wl n C ops.toArray k Q (⟨some d,.makeMap t none,ty0,pos,aft,gd⟩::l) E F R:=
 Z8 (fun t ht=>by cases ht;exact Nat.le_of_ble_eq_true hn) (fun c hc=>by cases hc) hw fun a w ha hsat=>by
  have h1:=hsat.alloc (.map #[] 0)
  exact fun a' ha'=>nx w.heap.size a' _ ha' (X2 (K:=K) (V:=V) (m:=[]) h1 rfl ⟨by simp,by simp⟩)
theorem XJ {kt et r:Nat} {rs:TRow} {m:List (α×β)} (hk:KeyOK kt K) (a:α) (v:β) (nx:Wl n C ops.toArray k Q l E F (Mp K V r (mset a v m)::R0)) (hw:wantL ops E ⟨none,.mapUpdate t x y z,ty0,pos,aft,gd⟩=some true:=by rfl)
  (hx:ev E x=some (.map (some r)):=by rfl) (hy:ev E y=some (K a):=by rfl) (hz:ev E z=some (V v):=by rfl) (hts:lookT tab t=some rs:=by rfl) (hrs:rs.k = .map kt et:=by rfl)
  (hs:Sel (Mp K V r m) R R0:=by (repeat (first|exact Sel.here|apply Sel.there));first|done|fail):Wl n C ops.toArray k Q (⟨none,.mapUpdate t x y z,ty0,pos,aft,gd⟩::l) E F R:=
 Z8 (fun t ht=>by cases ht) (fun c hc=>by cases hc) hw fun ac w ha hsat=>by
  obtain ⟨es,clock,h1,he,hB⟩:=WM hs hsat
  have hb:=h1.pt Sel.here
  have hu:=XP (w:=w) hts hrs
  have hg:(getObj r).run prog w = .ok (.map es clock) w:=by simp [getObj,Sem.run,hb]
  have hc:=hk.chk a false w
  have hf:=Yn hk a es.toList m w he
  unfold OpRes
  simp only [execOp,ha.ev (x:=x) (by rw [ZU];exact hx),ha.ev (x:=y) (by rw [ZU];exact hy),ha.ev (x:=z) (by rw [ZU];exact hz),Instr.mapUpdate,Sem.run_bind,hu,Result.andThen,hg,hc,hf]
  cases hm:mfind a m 0 with
  | none=>
   simp only [Option.map_none]
   have hset:(setObj r (.map (es.push {key:=K a,val:=V v,born:=clock}) (clock+1))).run prog w = .ok () {w with heap:=w.heap.setIfInBounds r (.map (es.push {key:=K a,val:=V v,born:=clock}) (clock+1))}:=by simp [setObj,Sem.run,hb]
   simp only [hset,Sem.run_pure]
   refine fun a' ha'=>nx a' _ ha' (X2 (YK h1) ?_ ?_)
   ·rw [X3 a v m 0 hm]
    simp [he]
   ·refine ⟨?_,fun e hem=>?_⟩
    ·rw [Array.toList_push,List.map_append]
     refine List.nodup_append.2 ⟨hB.1,by simp,fun b hb c hc=>?_⟩
     obtain ⟨e,hem,rfl⟩:=List.mem_map.1 hb
     have:=hB.2 e hem
     simp at hc
     omega
    ·rw [Array.toList_push] at hem
     rcases List.mem_append.1 hem with hem|hem
     ·have:=hB.2 e hem;omega
     ·obtain rfl:=List.mem_singleton.1 hem
      exact Nat.lt_succ_self _
  | some q=>
   obtain ⟨j,u⟩:=q
   obtain ⟨p,hj,hp,hms⟩:=XR a v m 0 j u hm
   obtain rfl:j=p:=by omega
   have hkey:(es.toList.map (fun e=>(e.key,e.val)))[j]? = some (K a,V u):=by rw [he];simp [hp]
   have hold:((es[j]?).map (·.key)).getD (K a)=K a:=by
    simp only [List.getElem?_map,Array.getElem?_toList,Option.map_eq_some_iff] at hkey
    obtain ⟨e,he1,he2⟩:=hkey
    rw [he1]
    simp only [Prod.mk.injEq] at he2
    simp [he2.1]
   simp only [Option.map_some]
   have hkt:(Instr.keyThatStays (((es[j]?).map (·.key)).getD (K a)) (K a)).run prog w = .ok (K a) w:=by
    rw [hold];simp [Instr.keyThatStays,hk.bits a]
   have hset:(setObj r (.map (es.modify j fun e=>{e with key:=K a,val:=V v}) clock)).run prog w = .ok () {w with heap:=w.heap.setIfInBounds r (.map (es.modify j fun e=>{e with key:=K a,val:=V v}) clock)}:=by simp [setObj,Sem.run,hb]
   simp only [hkt,Sem.run_bind,Result.andThen,hset,Sem.run_pure]
   have hborn:(es.modify j fun e=>{e with key:=K a,val:=V v}).toList.map (·.born)=es.toList.map (·.born):=by
    apply List.ext_getElem?
    intro i
    simp only [List.getElem?_map,Array.getElem?_toList,Array.getElem?_modify]
    split
    ·cases es[i]?<;>rfl
    ·rfl
   refine fun a' ha'=>nx a' _ ha' (X2 (YK h1) ?_ ⟨by rw [hborn];exact hB.1,fun e hem=>?_⟩)
   rotate_left
   ·have h3:e.born ∈ es.toList.map (·.born):=by rw [←hborn];exact List.mem_map_of_mem hem
    obtain ⟨e',hem',he'⟩:=List.mem_map.1 h3
    rw [←he'];exact hB.2 e' hem'
   rw [hms]
   apply List.ext_getElem?
   intro i
   have hei:(es.toList.map (fun e=>(e.key,e.val)))[i]? = (m.map fun x=>(K x.1,V x.2))[i]?:=by rw [he]
   simp only [List.getElem?_map,Array.getElem?_toList,Array.getElem?_modify,List.getElem?_set] at hei ⊢
   by_cases hij:j=i
   ·subst hij
    simp only [if_true]
    have hlt:=(List.getElem?_eq_some_iff.1 hp).1
    rw [if_pos hlt]
    rw [hp] at hei
    simp only [Option.map_some,Option.map_eq_some_iff] at hei
    obtain ⟨e,he1,_⟩:=hei
    simp [he1]
   ·simp only [if_neg hij]
    exact hei
theorem l_mget {kt et r:Nat} {rs te:TRow} {m:List (α×β)} {zv:Value} (hk:KeyOK kt K) (a:α) (nx:Wl n C ops.toArray k Q l ((d,((mget a m).map V).getD zv)::E) F R) (hw:wantL ops E ⟨some d,.lookup t x y false,ty0,pos,aft,gd⟩=some true:=by rfl) (hn:Nat.blt d n=true:=by rfl)
  (hx:ev E x=some (.map (some r)):=by rfl) (hy:ev E y=some (K a):=by rfl) (hts:lookT tab t=some rs:=by rfl) (hrs:rs.k = .map kt et:=by rfl) (hte:lookT tab et=some te:=by rfl) (hzv:zval te=some zv:=by rfl)
  (hs:Sel (Mp K V r m) R R0:=by (repeat (first|exact Sel.here|apply Sel.there));first|done|fail):Wl n C ops.toArray k Q (⟨some d,.lookup t x y false,ty0,pos,aft,gd⟩::l) E F R:=
 Z8 (fun t ht=>by cases ht;exact Nat.le_of_ble_eq_true hn) (fun c hc=>by cases hc) hw fun ac w ha hsat=>by
  obtain ⟨es,clock,h1,he,hB⟩:=WM hs hsat
  have hb:=h1.pt Sel.here
  have hu:=XP (w:=w) hts hrs
  have hg:(getObj r).run prog w = .ok (.map es clock) w:=by simp [getObj,Sem.run,hb]
  have hc:=hk.chk a es.isEmpty w
  have hf:=Yn hk a es.toList m w he
  have hz0:=zval_ok hte hzv w
  have hfg:=XL a m 0
  unfold OpRes
  simp only [execOp,ha.ev (x:=x) (by rw [ZU];exact hx),ha.ev (x:=y) (by rw [ZU];exact hy),Instr.lookup,Sem.run_bind,hu,Result.andThen,hg,hc,hf,Sem.run_pure]
  cases hm:mfind a m 0 with
  | none=>
   rw [hm] at hfg
   simp only [Option.map_none,Sem.run_bind,hz0,Result.andThen,Sem.run_pure,Bool.false_eq_true,if_false]
   intro a' ha'
   rw [←hfg] at nx
   exact nx a' w ha' hsat
  | some q=>
   rw [hm] at hfg
   simp only [Option.map_some,Bool.false_eq_true,if_false]
   intro a' ha'
   rw [←hfg] at nx
   exact nx a' w ha' hsat
theorem l_mget2 {kt et r:Nat} {rs te:TRow} {m:List (α×β)} {zv:Value} (hk:KeyOK kt K) (a:α) (nx:Wl n C ops.toArray k Q l ((d,.tuple #[((mget a m).map V).getD zv,.bool (mget a m).isSome])::E) F R) (hw:wantL ops E ⟨some d,.lookup t x y true,ty0,pos,aft,gd⟩=some true:=by rfl) (hn:Nat.blt d n=true:=by rfl)
  (hx:ev E x=some (.map (some r)):=by rfl) (hy:ev E y=some (K a):=by rfl) (hts:lookT tab t=some rs:=by rfl) (hrs:rs.k = .map kt et:=by rfl) (hte:lookT tab et=some te:=by rfl) (hzv:zval te=some zv:=by rfl)
  (hs:Sel (Mp K V r m) R R0:=by (repeat (first|exact Sel.here|apply Sel.there));first|done|fail):Wl n C ops.toArray k Q (⟨some d,.lookup t x y true,ty0,pos,aft,gd⟩::l) E F R:=
 Z8 (fun t ht=>by cases ht;exact Nat.le_of_ble_eq_true hn) (fun c hc=>by cases hc) hw fun ac w ha hsat=>by
  obtain ⟨es,clock,h1,he,hB⟩:=WM hs hsat
  have hb:=h1.pt Sel.here
  have hu:=XP (w:=w) hts hrs
  have hg:(getObj r).run prog w = .ok (.map es clock) w:=by simp [getObj,Sem.run,hb]
  have hc:=hk.chk a es.isEmpty w
  have hf:=Yn hk a es.toList m w he
  have hz0:=zval_ok hte hzv w
  have hfg:=XL a m 0
  unfold OpRes
  simp only [execOp,ha.ev (x:=x) (by rw [ZU];exact hx),ha.ev (x:=y) (by rw [ZU];exact hy),Instr.lookup,Sem.run_bind,hu,Result.andThen,hg,hc,hf,Sem.run_pure]
  cases hm:mfind a m 0 with
  | none=>
   rw [hm] at hfg
   simp only [Option.map_none,Sem.run_bind,hz0,Result.andThen,Sem.run_pure,if_true]
   intro a' ha'
   rw [←hfg] at nx
   exact nx a' w ha' hsat
  | some q=>
   rw [hm] at hfg
   simp only [Option.map_some,if_true]
   intro a' ha'
   rw [←hfg] at nx
   exact nx a' w ha' hsat
end
structure SeenOK {α β:Type} (es:List MapEntry) (m pre:List (α×β)) (seen:List Nat) (js:List Nat):Prop where
 nd:js.Nodup
 lt:∀j ∈ js,j<m.length
 sn:seen.map some=js.map fun j=>(es[j]?).map (·.born)
 pr:pre.map some=js.map fun j=>m[j]?
def MpI {α β:Type} (K:α→Value) (V:β→Value) (r it:Nat) (m pre:List (α×β)):HP:=fun h=>∃es clock seen,(es.toList.map (fun e=>(e.key,e.val))=(m.map fun x=>(K x.1,V x.2))∧BornOK es clock∧∃js,SeenOK es.toList m pre seen.toList js)∧Sep [Pt r (.map es clock),Pt it (.mapIter (some r) clock seen clock)] h
variable {α β:Type}
section
variable {K:α→Value} {V:β→Value} {r it:Nat} {m pre:List (α×β)} {G:H} {w0 w:World} {hp0:H}
end
section
variable {l:List Oper} {z:Operand} {K:α→Value} {V:β→Value} {m pre:List (α×β)} {r it:Nat}
end
instance decNm:DecidableEq Nm:=fun a b=>decidable_of_iff (cmpO a b=0) (WO a b)
structure Ch where
 nm:Nm
 val:ByteArray
 abs:Bool
def chf (c:Ch):List Value:=[.int .i64 c.nm.kind,.string c.nm.owner,.int .i64 c.nm.number,.int .i64 c.nm.index,.string c.nm.text,.string c.val,.bool c.abs]
def Ch.v (c:Ch):Value:=.agg #[.int .i64 c.nm.kind,.string c.nm.owner,.int .i64 c.nm.number,.int .i64 c.nm.index,.string c.nm.text,.string c.val,.bool c.abs]
def iv (i:Nat):Value:=.int .i64 (i:Int)
theorem beqSv (a b:ByteArray):(a.toList == b.toList)=decide (a=b):=by
 rw [Zt,Zt,Bool.eq_iff_iff]
 simp only [beq_iff_eq,decide_eq_true_eq]
 exact ⟨fun h=>WG h,fun h=>by rw [h]⟩
theorem beqIv (a b:Int):(a == b)=decide (a=b):=by rw [Bool.eq_iff_iff];simp
theorem YP:KeyOK 46 Nm.v where
 eq a b w:=by
  refine (equal_ok (t:=46) (x:=Nm.v a) (y:=Nm.v b) rfl w).trans ?_
  obtain ⟨a1,a2,a3,a4,a5⟩:=a
  obtain ⟨b1,b2,b3,b4,b5⟩:=b
  congr 1
  simp only [beqSv,beqIv,Nm.mk.injEq]
  rw [Bool.eq_iff_iff]
  simp
 chk a em w:=ckC_ok Yy em 20 10000 _ _ w (by omega) rfl
 bits a:=by simp [Nm.v,Instr.sameBits,beq_toListBytes]
 now:=⟨_,rfl,fun a b=>.inl rfl⟩
section
variable {α β:Type} [DecidableEq α]
end
def lastG:List Ch→Nat→List (Nm×Nat)→List (Nm×Nat)
 | [],_,m=>m
 | c::cs,i,m=>lastG cs (i+1) (mset c.nm i m)
def lastL (cs:List Ch):List (Nm×Nat):=lastG cs 0 []
def vcall (cs:List Ch) (n:Nm):Option Ch:=cs.reverse.find? fun c=>decide (c.nm=n)
def vget (es:Al) (cs:List Ch) (n:Nm):ByteArray×Bool:=
 if nchk n≠0 then (⟨#[]⟩,false) else match vcall cs n with
  | some c=>(c.val,!c.abs)
  | none=>((getO n es).getD ⟨#[]⟩,(getO n es).isSome)
def vread (es:Al) (rs:List (Nm×Ch)) (cs:List Ch) (n:Nm):List (Nm×Ch):=
 if nchk n≠0 then rs else match vcall cs n with
  | some _=>rs
  | none=>mset n ⟨n,(getO n es).getD ⟨#[]⟩,!(getO n es).isSome⟩ rs
def vset (cs:List Ch) (n:Nm) (v:ByteArray):Int×List Ch:=if nchk n≠0 then (12,cs) else if 65536<v.size then (5,cs) else (0,cs++[⟨n,v,false⟩])
def vdel (cs:List Ch) (n:Nm):Int×List Ch:=if nchk n≠0 then (12,cs) else (0,cs++[⟨n,⟨#[]⟩,true⟩])
instance instChEq:DecidableEq Ch:=fun ⟨a,b,c⟩ ⟨a',b',c'⟩=>if h:a=a'∧b=b'∧c=c' then .isTrue (by rw [h.1,h.2.1,h.2.2]) else .isFalse fun e=>h (by cases e;exact ⟨rfl,rfl,rfl⟩)
structure Ky where
 t:Int
 c:Int
 n:Int
 l:ByteArray
 deriving DecidableEq
structure Ak where
 k:Ky
 rd:List Ch
 wr:List Ch
structure Rn where
 k:Ky
 kd:Int
 nm:Nm
def nmZ:Nm:=⟨0,⟨#[]⟩,0,0,⟨#[]⟩⟩
def kyZ:Ky:=⟨0,0,0,⟨#[]⟩⟩
def chZ:Ch:=⟨nmZ,⟨#[]⟩,false⟩
def rnZ:Rn:=⟨kyZ,0,nmZ⟩
def kcmp (a b:Ky):Int:=or0 [cmpI a.t b.t,cmpI a.c b.c,cmpI a.n b.n,cmpN a.l b.l]
theorem ord_ky:Ord3 kcmp:=by
 have h:=ord_map (Yi YE (Yi YE (Yi YE ord_lin))) (fun a:Ky=>(a.t,a.c,a.n,a.l)) (by
  rintro ⟨a,b,c,d⟩ ⟨a',b',c',d'⟩ h
  simp only [Prod.mk.injEq] at h
  obtain ⟨rfl,rfl,rfl,rfl⟩:=h
  rfl)
 have e:kcmp=fun a b=>lex cmpI (lex cmpI (lex cmpI cmpN)) (a.t,a.c,a.n,a.l) (b.t,b.c,b.n,b.l):=by
  funext a b
  unfold kcmp lex
  simp only [or0]
  split
  ·rfl
  ·split
   ·rfl
   ·split
    ·rfl
    ·split
     ·rfl
     ·rename_i h4
      exact (Classical.not_not.1 h4).symm
 rw [e];exact h
def incrF:List Ak→Bool
 | a::b::l=>decide (kcmp a.k b.k<0) && incrF (b::l)
 | _=>true
def bsF (p:Nat→Bool):Nat→Nat→Nat→Nat
 | 0,i,_=>i
 | f+1,i,j=>if i<j then (if p ((i+j) / 2) then bsF p f i ((i+j) / 2) else bsF p f ((i+j) / 2+1) j) else i
theorem bsF_le (p:Nat→Bool):∀f i j:Nat,i≤j→bsF p f i j≤j
 | 0,i,j,h=>h
 | f+1,i,j,h=>by
  rw [bsF]
  split
  ·split
   ·exact Nat.le_trans (bsF_le p f i _ (by omega)) (by omega)
   ·exact bsF_le p f _ j (by omega)
  ·exact h
def srchF (l:List Ak) (k:Ky):Nat:=bsF (fun i=>match l[i]? with|some a=>decide (0≤kcmp a.k k)|none=>true) l.length 0 l.length
def atF (l:List Ak) (k:Ky):Option Ak:=match l[srchF l k]? with
 | some a=>if kcmp a.k k=0 then some a else none
 | none=>none
def wrsF (l:List Ak) (n:Nm):List Nat:=(List.range l.length).flatMap fun i=>match l[i]? with
 | some a=>(a.wr.filter fun c=>decide (c.nm=n)).map fun _=>i
 | none=>[]
theorem wrs_lt {l:List Ak} {n:Nm} {i:Nat} (h:i ∈ wrsF l n):i<l.length:=by
 obtain ⟨j,hj,h⟩:=List.mem_flatMap.1 h
 split at h
 ·obtain ⟨_,_,rfl⟩:=List.mem_map.1 h
  exact List.mem_range.1 hj
 ·cases h
def wriF (l:List Ak) (n:Nm) (k:Ky):Option Nat:=
 let w:=wrsF l n
 let i:=bsF (fun h=>match w[h]? with|some x=>decide (srchF l k≤x)|none=>true) w.length 0 w.length
 if 0<i then w[i - 1]? else none
theorem wri_lt {l:List Ak} {n:Nm} {k:Ky} {i:Nat} (h:wriF l n k=some i):i<l.length:=by
 unfold wriF at h
 dsimp only at h
 split at h
 ·exact wrs_lt (List.mem_of_getElem? h)
 ·cases h
def wtnL (n:Nm):List Ch→Option Ch
 | []=>none
 | c::l=>match wtnL n l with
  | some d=>some d
  | none=>if c.nm=n then some c else none
def wtnF (n:Nm) (a:Ak):Ch:=(wtnL n a.wr).getD chZ
def diffF (a b:Ch):Bool:=a.abs != b.abs || (!a.abs && decide (a.val≠b.val))
def vdifF (f s:List Ak) (n:Nm) (k:Ky):Bool:=match wriF f n k,wriF s n k with
 | none,none=>false
 | some i,some j=>diffF (match f[i]? with|some a=>wtnF n a|none=>chZ) (match s[j]? with|some a=>wtnF n a|none=>chZ)
 | _,_=>true
def keyF (l:List Ak) (n:Nm) (k:Ky):Option Ky:=match wriF l n k with
 | some i=>l[i]?.map Ak.k
 | none=>none
def orgF (f s:List Ak) (n:Nm) (k:Ky):Option Ky:=match keyF f n k,keyF s n k with
 | some a,some b=>if 0<kcmp b a then some b else some a
 | some a,none=>some a
 | none,x=>x
def turnF (t:Int):Ky:=⟨t,1,0,⟨#[]⟩⟩
def ofPro (l:ByteArray):Nm:=⟨1,l,0,0,⟨#[]⟩⟩
def ofEpo:Nm:=⟨20,⟨#[]⟩,0,0,⟨#[]⟩⟩
def aloneF (f s:List Ak) (k:Ky) (kd:Int):Rn:=
 if k.c=0 then ⟨k,kd,nmZ⟩
 else if vdifF f s (ofPro k.l) (turnF k.t) then ⟨k,kd,ofPro k.l⟩
 else if vdifF f s ofEpo (turnF k.t) then ⟨k,kd,ofEpo⟩
 else ⟨k,kd,nmZ⟩
def bestF (b:List Ch):List Ch→Option Nm→Option Nm
 | [],x=>x
 | c::l,x=>bestF b l (match wtnL c.nm b with
  | some o=>if diffF c o && (match x with|none=>true|some m=>decide (cmpO c.nm m<0)) then some c.nm else x
  | none=>x)
def chgF (a b:Ak):Rn×Int:=if a.rd=b.rd then (rnZ,8) else match bestF b.rd a.rd none with
 | none=>(rnZ,10)
 | some n=>(⟨a.k,1,n⟩,0)
def rsnF (f s:List Ak) (k:Ky):Rn×Int:=match atF f k,atF s k with
 | some a,some b=>chgF a b
 | some _,none=>(aloneF f s k 3,0)
 | none,some _=>(aloneF f s k 2,0)
 | none,none=>(rnZ,8)
theorem at_key {l:List Ak} {k:Ky} {a:Ak} (h:atF l k=some a):a.k=k:=by
 unfold atF at h
 split at h
 ·split at h
  ·rename_i hk
   cases h
   exact (ord_ky.eq _ _).1 hk
  ·cases h
 ·cases h
theorem alone_key (f s:List Ak) (k:Ky) (kd:Int):(aloneF f s k kd).k=k:=by
 unfold aloneF
 split
 ·rfl
 ·split
  ·rfl
  ·split<;>rfl
theorem chg_key {a b:Ak} (h:(chgF a b).2=0):(chgF a b).1.k=a.k:=by
 unfold chgF at h ⊢
 by_cases hr:a.rd=b.rd
 ·rw [if_pos hr] at h;cases h
 ·rw [if_neg hr] at h ⊢
  cases hb:bestF b.rd a.rd none with
  | none=>rw [hb] at h;cases h
  | some n=>rfl
theorem X0 {f s:List Ak} {k:Ky} (h:(rsnF f s k).2=0):(rsnF f s k).1.k=k:=by
 unfold rsnF at h ⊢
 cases h1:atF f k with
 | some a=>
  cases h2:atF s k with
  | some b=>rw [h1,h2] at h;exact (chg_key h).trans (at_key h1)
  | none=>exact alone_key _ _ _ _
 | none=>
  cases h2:atF s k with
  | some b=>exact alone_key _ _ _ _
  | none=>rw [h1,h2] at h;cases h
def chainF (f s:List Ak):Nat→Rn→List Rn→Except Int (List Rn)
 | 0,_,acc=>.ok acc
 | n+1,r,acc=>if r.nm=nmZ then .ok acc else match orgF f s r.nm (if r.kd=1 then r.k else turnF r.k.t) with
  | none=>.error 10
  | some o=>if 0≤kcmp o r.k then .error 10 else if (rsnF f s o).2≠0 then .error 10 else chainF f s n (rsnF f s o).1 (acc++[(rsnF f s o).1])
def cntF (l:List Ak) (k:Ky):Nat:=l.countP fun a=>decide (kcmp a.k k<0)
def meaF (f s:List Ak) (k:Ky):Nat:=cntF f k+cntF s k
theorem cnt_le {l:List Ak} {a b:Ky} (h:kcmp a b<0):cntF l a≤cntF l b:=by
 unfold cntF
 refine List.countP_mono_left fun x _ hx=>?_
 have hx:=of_decide_eq_true hx
 exact decide_eq_true (ord_ky.trans _ _ _ hx h)
theorem cnt_lt {l:List Ak} {a b:Ky} (h:kcmp a b<0) (hm:∃x ∈ l,x.k=a):cntF l a<cntF l b:=by
 obtain ⟨x,hx,hk⟩:=hm
 obtain ⟨p,q,rfl⟩:=List.append_of_mem hx
 have h1:=cnt_le (l:=p) h
 have h2:=cnt_le (l:=q) h
 unfold cntF at h1 h2 ⊢
 rw [List.countP_append,List.countP_append,List.countP_cons,List.countP_cons,hk]
 have e1:decide (kcmp a a<0)=false:=decide_eq_false (by rw [ord_ky.self];decide)
 have e2:decide (kcmp a b<0)=true:=decide_eq_true h
 rw [e1,e2]
 simp only [Bool.false_eq_true,if_false,if_true]
 omega
theorem key_mem {l:List Ak} {n:Nm} {k o:Ky} (h:keyF l n k=some o):∃x ∈ l,x.k=o:=by
 unfold keyF at h
 split at h
 ·rename_i i hi
  cases hl:l[i]? with
  | none=>rw [hl] at h;cases h
  | some a=>
   rw [hl] at h
   cases h
   exact ⟨a,List.mem_of_getElem? hl,rfl⟩
 ·cases h
theorem org_mem {f s:List Ak} {n:Nm} {k o:Ky} (h:orgF f s n k=some o):(∃x ∈ f,x.k=o)∨∃x ∈ s,x.k=o:=by
 unfold orgF at h
 split at h
 ·rename_i a b h1 h2
  split at h
  ·cases h;exact .inr (key_mem h2)
  ·cases h;exact .inl (key_mem h1)
 ·rename_i a h1 h2
  cases h;exact .inl (key_mem h1)
 ·rename_i h1
  exact .inr (key_mem h)
theorem mea_lt {f s:List Ak} {n:Nm} {k o q:Ky} (h:orgF f s n k=some o) (hq:kcmp o q<0):meaF f s o<meaF f s q:=by
 unfold meaF
 have h1:=cnt_le (l:=f) hq
 have h2:=cnt_le (l:=s) hq
 rcases org_mem h with hm|hm
 ·have:=cnt_lt hq hm;omega
 ·have:=cnt_lt hq hm;omega
theorem mea_le (f s:List Ak) (k:Ky):meaF f s k≤f.length+s.length:=by
 unfold meaF cntF
 exact Nat.add_le_add List.countP_le_length List.countP_le_length
def explF (f s:List Ak) (k:Ky):Except Int (List Rn):=
 if incrF f && incrF s then (if (rsnF f s k).2≠0 then .error (rsnF f s k).2 else chainF f s (f.length+s.length+1) (rsnF f s k).1 [(rsnF f s k).1]) else .error 32
theorem chain_head {f s:List Ak}:∀(n:Nat) (r:Rn) (acc l:List Rn) (x:Rn) (u:List Rn),acc=x::u→chainF f s n r acc = .ok l→∃v,l=x::v
 | 0,r,acc,l,x,u,h,hc=>by cases hc;exact ⟨u,h⟩
 | n+1,r,acc,l,x,u,h,hc=>by
  rw [chainF] at hc
  split at hc
  ·cases hc;exact ⟨u,h⟩
  ·split at hc
   ·cases hc
   ·split at hc
    ·cases hc
    ·split at hc
     ·cases hc
     ·exact chain_head n _ _ l x (u++[_]) (by rw [h];rfl) hc
theorem expl_key {f s:List Ak} {k:Ky} {l:List Rn} (h:explF f s k = .ok l):∃x v,l=x::v∧x.k=k:=by
 unfold explF at h
 split at h
 ·split at h
  ·cases h
  ·rename_i he
   obtain ⟨v,hv⟩:=chain_head _ _ _ l _ [] rfl h
   exact ⟨_,v,hv,X0 (Classical.not_not.1 he)⟩
 ·cases h
def hasW (n:Nm) (a:Ak):Bool:=a.wr.any fun c=>decide (c.nm=n) && !c.abs
def lstF (l:List Ak) (n:Nm):Nat→Option Nat
 | 0=>none
 | m+1=>match l[m]? with
  | some a=>if hasW n a then some m else lstF l n m
  | none=>lstF l n m
structure Akc where
 k:Ky
 ro:Option Addr
 rl:Nat
 rc:Nat
 wo:Option Addr
 wl:Nat
 wc:Nat
abbrev kyf (k:Ky):List Value:=[.int .i64 k.t,.int .i64 k.c,.int .i64 k.n,.string k.l]
abbrev kyv (k:Ky):Value:=.agg #[.int .i64 k.t,.int .i64 k.c,.int .i64 k.n,.string k.l]
abbrev akf (x:Akc):List Value:=[.int .i64 x.k.t,.int .i64 x.k.c,.int .i64 x.k.n,.string x.k.l,.slice x.ro x.rl x.rc,.slice x.wo x.wl x.wc]
abbrev akv (x:Akc):Value:=.agg #[.int .i64 x.k.t,.int .i64 x.k.c,.int .i64 x.k.n,.string x.k.l,.slice x.ro x.rl x.rc,.slice x.wo x.wl x.wc]
abbrev ChS (o:Option Addr) (cap:Nat) (es:List Ch):Pf:=Sl 108 chf o cap es
def AkP (h:H) (a:Ak) (x:Akc):Prop:=(x.k=a.k∧x.rl=a.rd.length∧x.wl=a.wr.length)∧(ChS x.ro x.rc a.rd).p h∧(ChS x.wo x.wc a.wr).p h
theorem akP_mono {h k:H} (s:Sub h k) (a:Ak) (x:Akc) (hh:AkP h a x):AkP k a x:=⟨hh.1,(ChS x.ro x.rc a.rd).m h k s hh.2.1,(ChS x.wo x.wc a.wr).m h k s hh.2.2⟩
def AkF (a:Ak) (x:Akc):Pf:=⟨fun h=>AkP h a x,fun _ _ s hh=>akP_mono s a x hh⟩
def AksP (h:H):List Ak→List Akc→Prop
 | [],vs=>vs=[]
 | a::l,vs=>∃v ws,vs=v::ws∧AkP h a v∧AksP h l ws
theorem aksP_mono {h k:H} (s:Sub h k):∀(l:List Ak) (vs:List Akc),AksP h l vs→AksP k l vs
 | [],_,hh=>hh
 | a::l,_,⟨v,ws,h1,h2,h3⟩=>⟨v,ws,h1,akP_mono s a v h2,aksP_mono s l ws h3⟩
def AksF (l:List Ak) (vs:List Akc):Pf:=⟨fun h=>AksP h l vs,fun _ _ s hh=>aksP_mono s l vs hh⟩
theorem aksP_app {h:H} {a:Ak} {v:Akc}:∀{l:List Ak} {vs:List Akc},AksP h l vs→AkP h a v→AksP h (l++[a]) (vs++[v])
 | [],_,h1,h2=>by rw [show _=[] from h1];exact ⟨v,[],rfl,h2,rfl⟩
 | y::l,_,⟨u,ws,h1,h3,h4⟩,h2=>by rw [h1];exact ⟨u,ws++[v],rfl,h3,aksP_app h4 h2⟩
theorem aksP_get {h:H}:∀{l:List Ak} {vs:List Akc} {i:Nat} {a:Ak} {v:Akc},AksP h l vs→l[i]? = some a→vs[i]? = some v→AkP h a v
 | y::l,_,0,a,v,⟨u,ws,h1,h3,h4⟩,e1,e2=>by
  subst h1
  cases e1;cases e2;exact h3
 | y::l,_,i+1,a,v,⟨u,ws,h1,h3,h4⟩,e1,e2=>by
  subst h1
  exact aksP_get h4 e1 e2
abbrev AkS (o:Option Addr) (cap:Nat) (vs:List Akc):Pf:=Sl 44 akf o cap vs
theorem YL {l:List Ak} {vs:List Akc} {i:Nat} {a:Ak} {v:Akc} (h1:l[i]? = some a) (h2:vs[i]? = some v) (h:H) (hh:(AksF l vs).p h):∃q:(Option Addr×Nat)×(Option Addr×Nat),v=⟨a.k,q.1.1,a.rd.length,q.1.2,q.2.1,a.wr.length,q.2.2⟩∧∀g ∈ [ChS q.1.1 q.1.2 a.rd,ChS q.2.1 q.2.2 a.wr],g.p h:=by
 obtain ⟨⟨e1,e2,e3⟩,g1,g2⟩:=aksP_get (show AksP h l vs from hh) h1 h2
 obtain ⟨k,ro,rl,rc,wo,wl,wc⟩:=v
 dsimp only at e1 e2 e3 g1 g2 ⊢
 subst e1;subst e2;subst e3
 exact ⟨((ro,rc),(wo,wc)),rfl,fun g hg=>by
  simp only [List.mem_cons,List.not_mem_nil,or_false] at hg
  rcases hg with rfl|rfl
  ·exact g1
  ·exact g2⟩
end Go.Proofs.YtdkndahndgkmnaaGreatDoor
