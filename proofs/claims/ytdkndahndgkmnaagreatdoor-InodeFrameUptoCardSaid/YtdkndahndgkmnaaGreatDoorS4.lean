/-
  Contracts of the package inode: nodes; Check, Encode, Decode.
  Texts cut as far as they go.
  Arrays of bytes that are owned: parts of them as slices, copy of a text into one, one as a text.
  Contracts of the package inode: births, Get, file, put, NextBirth, Make, block.
  Contracts of the package inode: NextBirth, Make.
  Contracts of the package inode: parts, Write.
  What insertion does to the names of a kind and to the outputs of a state.
  What a state holds behind a view's changes.
  The example of layer 27, known.
  What a view holds of the counts of three processes that make nodes in turn.
  Contracts of the statements' own functions of layer 27: check, value.
  Entries as values, and their identities.
  The law InodeBirths, walked.
  The model of layer 27: make.
  The state in which the statements of layer 27 begin: start.
  Rules for texts that are joined.
  The contract of consequence.Compare.
  Contracts of the statements' own functions: names, out, build.
  The model of layer 27 in memory; find, get, read.
  The model of layer 27: read, zeros, write.
  The model of layer 27: resize, set, make.
  The model of layer 27: make, birth, do.
  A name is taken out of a search tree, and out of the sorted list that it holds; no program in sight.
  The contracts of package state: Without, in general.
  The contracts of packages state and view: Without, Apply and After, where some changes take names out.
  What a function does with a view: it reads, sets and deletes objects. A state that has what was read gives the same.
  Slices that stay: the beginning of one, and one appended to another.
  A writer that may have failed; Encode of what does not fit.
  Contracts of strings.Builder: copyCheck, Write, String.
  Conditions: those that each theorem states.
-/
import Derived.Test.YtdkndahndgkmnaaGreatDoorS3
import Derived.Test.YtdkndahndgkmnaaGreatDoorS2
import Derived.Test.YtdkndahndgkmnaaGreatDoorS1
import Derived.Lib.Builder
import Derived.Lib.UnsafeStr
import Derived.Laws.Externs
set_option maxRecDepth 10000
namespace Go.Proofs.YtdkndahndgkmnaaGreatDoor
open Go.RowKit Go.Proofs.Tryz
structure Ino where
 kd:Int
 ow:Int
 gr:Int
 md:Int
 sz:Int
 lk:Int
 tg:ByteArray
 deriving DecidableEq
def inf (n:Ino):List Value:=[.int .i64 n.kd,.int .i64 n.ow,.int .i64 n.gr,.int .i64 n.md,.int .i64 n.sz,.int .i64 n.lk,.string n.tg]
def Ino.v (n:Ino):Value:=.agg #[.int .i64 n.kd,.int .i64 n.ow,.int .i64 n.gr,.int .i64 n.md,.int .i64 n.sz,.int .i64 n.lk,.string n.tg]
def Ino.z:Ino:=⟨0,0,0,0,0,0,⟨#[]⟩⟩
def badt (c:UInt8):Bool:=decide ((c.toNat:Int)<32) || ((c.toNat:Int) == 127)
def tchk (s:ByteArray):Int:=if isE s then 4 else if 256<s.size then 5 else if s.data.toList.any badt then 6 else 0
theorem checkTarget_ok (s:ByteArray):Enters 153∧Spec prog 153 #[.string s] [] [] (RetV (.int .i64 (tchk s))):=by
 have hsz:s.data.toList.length=s.size:=by simp
 generalize hr:tchk s=r
 unfold tchk at hr
 refine ZV [_] func153 ntmps153 fun G w hp=>?_
 repeat' (first|refine ZH ?_|refine ZI ?_|refine ZK ?_|refine ZG ?_|refine ZM ?_|refine ZJ ?_|refine ZN ?_|refine ZP (fun b=>?_)|refine ZO (fun b=>?_)|refine ZA ?_|refine ZB ?_|refine ZL ?_|(refine ZC (fun hc=>?_) (fun hc=>?_)<;>(try simp at hc))|(refine ZF (fun hc=>?_) (fun hc=>?_)<;>(try simp at hc)))
 ·have hc:isE s=true:=by simpa [isE] using hc
  rw [if_pos hc] at hr;subst hr;exact ZT () rfl trivial
 ·rename_i h1
  have h1:isE s=false:=by simpa [isE] using h1
  rw [if_neg (by simp [h1]),if_pos (by omega)] at hr;subst hr;exact ZT () rfl trivial
 rename_i h1
 have h1:isE s=false:=by simpa [isE] using h1
 rw [if_neg (by simp [h1]),if_neg (by omega)] at hr
 refine YT (X:={i:Nat // i≤s.size∧∀j,j<i→∀c,s.data.toList[j]? = some c→badt c=false}) (fun i=>[(0,.string s),(12,.int .i64 (s.size:Int)),(13,.int .i64 (i.1:Int))]) (fun _=>[]) (fun _=>[]) (fun i=>s.size - i.1) ⟨0,by omega,fun j hj=>by omega⟩ ⟨rfl,rfl,rfl,trivial⟩ ?_
 rintro ⟨i,hi1,hi2⟩
 dsimp only
 by_cases hlt:i<s.data.toList.length
 ·obtain ⟨c,hcc⟩:∃c,s.data.toList[i]? = some c:=⟨_,List.getElem?_eq_getElem hlt⟩
  have bad:badt c=true→r=6:=fun hb=>by
   rw [←hr,if_pos]
   rw [List.any_eq_true]
   exact ⟨c,List.mem_of_getElem? hcc,hb⟩
  repeat' (first|refine ZH ?_|refine ZI ?_|refine ZK ?_|refine ZG ?_|refine ZM ?_|refine ZJ ?_|refine ZN ?_|refine ZP (fun b=>?_)|refine ZO (fun b=>?_)|refine ZA ?_|refine ZB ?_|refine l_six (s:=s) i c hcc ?_|(refine ZC (fun hc=>?_) (fun hc=>?_)<;>(try simp at hc)<;>(try omega))|(refine ZF (fun hc=>?_) (fun hc=>?_)<;>(try simp at hc)<;>(try omega)))
  all_goals try (
   have e:=bad (by simp [badt];omega)
   exact XE (XR (w_rv (congrArg (Value.int .i64) e) (YZ () rfl trivial))))
  rw [wrapi (z:=(i:Int)+1) (by omega) (by omega)]
  refine Zi ⟨i+1,by omega,fun j hj c' hc'=>?_⟩ (by show s.size - (i+1)<s.size - i;omega) ⟨rfl,rfl,rfl,trivial⟩
  by_cases hij:j=i
  ·subst hij
   obtain rfl:=Option.some.inj (hcc.symm.trans hc')
   simp [badt];omega
  ·exact hi2 j (by omega) c' hc'
 ·have e:¬(s.data.toList.any badt=true):=by
   rw [List.any_eq_true]
   rintro ⟨c,hc,hb⟩
   obtain ⟨j,hj,rfl⟩:=List.mem_iff_getElem.1 hc
   rw [hi2 j (by omega) _ (List.getElem?_eq_getElem hj)] at hb
   cases hb
  rw [if_neg e] at hr
  subst hr
  repeat' (first|refine ZH ?_|refine ZI ?_|refine ZK ?_|refine ZG ?_|refine ZM ?_|refine ZJ ?_|refine ZN ?_|refine ZP (fun b=>?_)|refine ZO (fun b=>?_)|refine ZA ?_|refine ZB ?_|refine ZL ?_|(refine ZC (fun hc=>?_) (fun hc=>?_)<;>(try simp at hc)<;>(try omega))|(refine ZF (fun hc=>?_) (fun hc=>?_)<;>(try simp at hc)<;>(try omega)))
  exact ZT () rfl trivial
def ifit (n:Ino):Prop:=0≤n.ow∧n.ow≤65535∧0≤n.gr∧n.gr≤65535∧0≤n.md∧n.md≤2047∧0≤n.sz∧n.sz≤4096∧0≤n.lk∧n.lk≤1000
instance (n:Ino):Decidable (ifit n):=by unfold ifit;infer_instance
def ichk (n:Ino):Int:=
 if n.kd<1∨3<n.kd then 11
 else if ¬ifit n then 2
 else if (n.kd≠1∧n.sz≠0)∨(n.kd≠3∧isE n.tg=false) then 3
 else if n.kd≠3 then 0
 else tchk n.tg
set_option maxHeartbeats 2000000 in
theorem Xp (n:Ino):Enters 102∧Spec prog 102 #[n.v] [] [] (RetV (.int .i64 (ichk n))):=by
 have n1:=Z5 n.ow 65535
 have n2:=Z5 n.gr 65535
 have n3:=Z5 n.md 2047
 have n4:=Z5 n.sz 4096
 have n5:=Z5 n.lk 1000
 have n6:=checkTarget_ok n.tg
 generalize hr:ichk n=r
 unfold ichk ifit at hr
 have hE:(n.tg.toList == ByteArray.toList ⟨#[]⟩)=isE n.tg:=rfl
 refine ZV [_] func102 ntmps102 fun G w hp=>?_
 repeat' (first|refine ZH ?_|refine ZI ?_|refine ZK ?_|refine ZG ?_|refine ZM ?_|refine ZJ ?_|refine ZN ?_|refine ZP (fun b=>?_)|refine ZO (fun b=>?_)|refine ZA ?_|refine ZB ?_|refine ZL ?_|refine ZE (n1) (fun _ _=>?_)|refine l_call0 (n1) (fun _ _=>?_)|refine ZE (n2) (fun _ _=>?_)|refine l_call0 (n2) (fun _ _=>?_)|refine ZE (n3) (fun _ _=>?_)|refine l_call0 (n3) (fun _ _=>?_)|refine ZE (n4) (fun _ _=>?_)|refine l_call0 (n4) (fun _ _=>?_)|refine ZE (n5) (fun _ _=>?_)|refine l_call0 (n5) (fun _ _=>?_)|refine ZE (n6) (fun _ _=>?_)|refine l_call0 (n6) (fun _ _=>?_)|(refine ZC (fun hc=>?_) (fun hc=>?_)<;>(try simp at hc)<;>(try omega))|(refine ZF (fun hc=>?_) (fun hc=>?_)<;>(try simp at hc)<;>(try omega)))
 all_goals (refine ZT () ?_ trivial;refine congrArg (Value.int .i64) ?_)
 all_goals first
  | (rw [←hr,if_pos (by omega)];done)
  | (rw [←hr,if_neg (by omega),if_pos (by omega)];done)
  | (rw [←hr,if_neg (by omega),if_neg (by omega),if_pos (.inl ⟨by omega,by omega⟩)];done)
  | (rw [←hr,if_neg (by omega),if_neg (by omega),if_pos (.inr ⟨by omega,by simpa [isE] using hc⟩)];done)
  | (rw [←hr,if_neg (by omega),if_neg (by omega),if_neg (by rintro (⟨h1,h2⟩|⟨h1,h2⟩)<;>first|omega|(simp [isE] at h2;simp_all)),if_pos (by omega)];done)
  | (rw [←hr,if_neg (by omega),if_neg (by omega),if_neg (by rintro (⟨h1,h2⟩|⟨h1,h2⟩)<;>first|omega|(simp [isE] at h2;simp_all)),if_neg (by omega)];done)
def ienc (n:Ino):List UInt8:=([n.kd,n.ow,n.gr,n.md,n.sz,n.lk].flatMap fun z=>venc z.toNat)++venc n.tg.size++n.tg.data.toList
def iencS (n:Ino):ByteArray:=if ichk n=0 then ⟨(ienc n).toArray⟩ else ⟨#[]⟩
theorem Yc {n:Ino} (h:ichk n=0):(1≤n.kd∧n.kd≤3)∧ifit n∧n.tg.size≤256:=by
 unfold ichk at h
 split at h
 ·cases h
 ·split at h
  ·cases h
  ·rename_i h1 h2
   split at h
   ·cases h
   ·rename_i h3
    refine ⟨by omega,by simpa using h2,?_⟩
    split at h
    ·rename_i h4
     have:isE n.tg=true:=by
      cases hE:isE n.tg with
      | true=>rfl
      | false=>exact absurd (.inr ⟨h4,hE⟩) h3
     rw [isE_eq] at this
     rw [of_decide_eq_true this];exact Nat.zero_le _
    ·unfold tchk at h
     split at h
     ·cases h
     ·split at h
      ·cases h
      ·omega
theorem ienc_len {n:Ino} (h:ichk n=0):(ienc n).length≤400:=by
 obtain ⟨h1,h2,h3⟩:=Yc h
 have h4:=Wy [n.kd,n.ow,n.gr,n.md,n.sz,n.lk] (fun z hz=>by
  unfold ifit at h2
  simp only [List.mem_cons,List.not_mem_nil,or_false] at hz
  rcases hz with rfl|rfl|rfl|rfl|rfl|rfl<;>omega)
 have h5:=Yy n.tg.size (by omega)
 have s1:n.tg.data.toList.length=n.tg.size:=by simp
 simp only [ienc,List.length_append,List.length_cons,List.length_nil] at h4 ⊢
 omega
theorem Zs (n:Ino):(iencS n).size≤400:=by
 unfold iencS
 split
 ·rename_i h
  have:=ienc_len h
  show (ienc n).toArray.size≤_
  rw [List.size_toArray];exact this
 ·exact Nat.zero_le _
set_option maxHeartbeats 1000000 in
theorem inoEncode_ok (n:Ino) (h:ichk n=0):Enters 156∧Spec prog 156 #[n.v] [] [] (RetV (.tuple #[.string (iencS n),.int .i64 0])):=by
 have n1:=Xp n
 rw [h] at n1
 obtain ⟨h1,h2,h3⟩:=Yc h
 have hz:∀z ∈ [n.kd,n.ow,n.gr,n.md,n.sz,n.lk],0≤z∧z≤4294967296:=fun z hz=>by
  unfold ifit at h2
  simp only [List.mem_cons,List.not_mem_nil,or_false] at hz
  rcases hz with rfl|rfl|rfl|rfl|rfl|rfl<;>omega
 have hl:=Wy _ hz
 simp only [List.length_cons,List.length_nil] at hl
 have n2:=fun b bw s=>UO b bw s 0 [] [n.kd,n.ow,n.gr,n.md,n.sz,n.lk] (by simp) hz (by simp)
 have hil:=ienc_len h
 rw [iencS,if_pos h]
 unfold ienc at hil ⊢
 rw [show ∀X:List UInt8,[]++X=X from List.nil_append] at n2
 generalize ([n.kd,n.ow,n.gr,n.md,n.sz,n.lk].flatMap fun z=>venc z.toNat)=B at *
 have n3:=fun bw=>wtrText_ok bw B n.tg (by omega) (by omega)
 have n4:=fun b bw=>UU b bw (B++venc n.tg.size++n.tg.data.toList) (by omega)
 refine ZV [_] func156 ntmps156 fun G w hp=>?_
 repeat' (first|refine ZH ?_|refine ZI ?_|refine ZK ?_|refine ZG ?_|refine ZM ?_|refine ZJ ?_|refine ZN ?_|refine ZP (fun b=>?_)|refine ZO (fun b=>?_)|refine ZA ?_|refine ZB ?_|refine ZL ?_|refine ZX ?_|refine ZY ?_|refine Zf ?_|refine Za ?_|refine Zb ?_|refine Zc (fun b=>?_)|refine Zd (fun b=>?_)|refine Ze ?_|refine ZZ ?_|refine ZE (n1) (fun _ _=>?_)|refine l_call0 (n1) (fun _ _=>?_)|refine ZS (n1) (fun _ _=>?_)|refine ZE (Yv _) (fun _ _=>?_)|refine l_call0 (Yv _) (fun _ _=>?_)|refine ZS (Yv _) (fun _ _=>?_)|refine ZE (n2 _ _ _) (fun _ _=>?_)|refine l_call0 (n2 _ _ _) (fun _ _=>?_)|refine ZS (n2 _ _ _) (fun _ _=>?_)|refine ZE (n3 _) (fun _ _=>?_)|refine l_call0 (n3 _) (fun _ _=>?_)|refine ZS (n3 _) (fun _ _=>?_)|refine ZE (n4 _ _) (fun _ _=>?_)|refine l_call0 (n4 _ _) (fun _ _=>?_)|refine ZS (n4 _ _) (fun _ _=>?_)|(refine ZC (fun hc=>?_) (fun hc=>?_)<;>(try simp at hc))|(refine ZQ (fun hc=>?_) (fun hc=>?_)<;>(try simp at hc))|refine ZD 3 [Wtr _ _] [(0,0),(1,0),(2,0),(3,0),(4,0),(5,0),(6,4)] [] ?_|(refine ZF (fun hc=>?_) (fun hc=>?_)<;>(try simp at hc)))
 exact ZT () rfl trivial
def iread (s:RS):Ino×RS:=
 let (a1,s1):=rnum s 3
 let (a2,s2):=rnum s1 65535
 let (a3,s3):=rnum s2 65535
 let (a4,s4):=rnum s3 2047
 let (a5,s5):=rnum s4 4096
 let (a6,s6):=rnum s5 1000
 let (a7,s7):=rtext s6 256
 (⟨a1,a2,a3,a4,a5,a6,a7⟩,s7)
def idec (s:ByteArray):Option Ino:=
 let r:=iread ⟨s.data.toList,0,0⟩
 if r.2.err=0∧r.2.rest=[]∧ichk r.1=0 then some r.1 else none
theorem Xu (s:RS) (m:Int):(rnum s m).2.pos+(rnum s m).2.rest.length≤s.pos+s.rest.length:=rstep_le 0 s _ (VU _ _)
set_option maxHeartbeats 1000000 in
theorem inoDecode_ok (s:ByteArray) (hs:s.size≤1099511627776):Enters 56∧Spec prog 56 #[.string s] [] [] (RetV (.tuple #[((idec s).getD Ino.z).v,.int .i64 (if (idec s).isSome then 0 else 3)])):=by
 have hsz:s.data.toList.length=s.size:=by simp
 have n0:=fun o cap=>Vd o cap s.data.toList (by omega)
 generalize hd:idec s=d
 unfold idec iread at hd
 dsimp only at hd
 generalize h0:(⟨s.data.toList,0,0⟩:RS)=s0 at hd n0
 have g0:s0.pos+s0.rest.length≤1099511627776:=by subst h0;dsimp only;omega
 have e0:s.data.toList=s0.rest:=by rw [←h0]
 rw [e0] at n0
 have g1:=Xu s0 3
 have n1:=fun b o cap=>YE b o cap s0 3 (by omega)
 have g2:=Xu (rnum s0 3).2 65535
 have n2:=fun b o cap=>YE b o cap (rnum s0 3).2 65535 (by omega)
 have g3:=Xu (rnum (rnum s0 3).2 65535).2 65535
 have n3:=fun b o cap=>YE b o cap (rnum (rnum s0 3).2 65535).2 65535 (by omega)
 have g4:=Xu (rnum (rnum (rnum s0 3).2 65535).2 65535).2 2047
 have n4:=fun b o cap=>YE b o cap (rnum (rnum (rnum s0 3).2 65535).2 65535).2 2047 (by omega)
 have g5:=Xu (rnum (rnum (rnum (rnum s0 3).2 65535).2 65535).2 2047).2 4096
 have n5:=fun b o cap=>YE b o cap (rnum (rnum (rnum (rnum s0 3).2 65535).2 65535).2 2047).2 4096 (by omega)
 have g6:=Xu (rnum (rnum (rnum (rnum (rnum s0 3).2 65535).2 65535).2 2047).2 4096).2 1000
 have n6:=fun b o cap=>YE b o cap (rnum (rnum (rnum (rnum (rnum s0 3).2 65535).2 65535).2 2047).2 4096).2 1000 (by omega)
 have n7:=fun b o cap=>rdrText_ok b o cap (rnum (rnum (rnum (rnum (rnum (rnum s0 3).2 65535).2 65535).2 2047).2 4096).2 1000).2 256 (by omega)
 generalize hn:(⟨(rnum s0 3).1,(rnum (rnum s0 3).2 65535).1,(rnum (rnum (rnum s0 3).2 65535).2 65535).1,(rnum (rnum (rnum (rnum s0 3).2 65535).2 65535).2 2047).1,(rnum (rnum (rnum (rnum (rnum s0 3).2 65535).2 65535).2 2047).2 4096).1,(rnum (rnum (rnum (rnum (rnum (rnum s0 3).2 65535).2 65535).2 2047).2 4096).2 1000).1,(rtext (rnum (rnum (rnum (rnum (rnum (rnum s0 3).2 65535).2 65535).2 2047).2 4096).2 1000).2 256).1⟩:Ino)=nd at hd
 have n9:=Xp nd
 generalize hs7:(rtext (rnum (rnum (rnum (rnum (rnum (rnum s0 3).2 65535).2 65535).2 2047).2 4096).2 1000).2 256).2=s7 at hd n7
 have n8:=fun b o cap=>UM b o cap s7
 rw [←hn] at n9 hd
 refine ZV [_] func56 ntmps56 fun G w hp=>?_
 repeat' (first|refine ZH ?_|refine ZI ?_|refine ZK ?_|refine ZG ?_|refine ZM ?_|refine ZJ ?_|refine ZN ?_|refine ZP (fun b=>?_)|refine ZO (fun b=>?_)|refine ZA ?_|refine ZB ?_|refine ZL ?_|refine ZE (n0 _ _) (fun _ _=>?_)|refine l_call0 (n0 _ _) (fun _ _=>?_)|refine ZE (n1 _ _ _) (fun _ _=>?_)|refine l_call0 (n1 _ _ _) (fun _ _=>?_)|refine ZE (n2 _ _ _) (fun _ _=>?_)|refine l_call0 (n2 _ _ _) (fun _ _=>?_)|refine ZE (n3 _ _ _) (fun _ _=>?_)|refine l_call0 (n3 _ _ _) (fun _ _=>?_)|refine ZE (n4 _ _ _) (fun _ _=>?_)|refine l_call0 (n4 _ _ _) (fun _ _=>?_)|refine ZE (n5 _ _ _) (fun _ _=>?_)|refine l_call0 (n5 _ _ _) (fun _ _=>?_)|refine ZE (n6 _ _ _) (fun _ _=>?_)|refine l_call0 (n6 _ _ _) (fun _ _=>?_)|refine ZE (n7 _ _ _) (fun _ _=>?_)|refine l_call0 (n7 _ _ _) (fun _ _=>?_)|refine ZE (n8 _ _ _) (fun _ _=>?_)|refine l_call0 (n8 _ _ _) (fun _ _=>?_)|refine ZE (n9) (fun _ _=>?_)|refine l_call0 (n9) (fun _ _=>?_)|refine l_s2b (fun o cap=>?_)|rw [e0]|refine ZC (fun hc=>?_) (fun hc=>?_)|refine ZF (fun hc=>?_) (fun hc=>?_))
 ·have hc:¬(s7.err=0∧s7.rest=[]):=fun h=>by rw [(close0 _ _).2 h] at hc;simp at hc
  rw [if_neg fun h=>hc ⟨h.1,h.2.1⟩] at hd;subst hd;exact ZT () rfl trivial
 ·rename_i h1 _ _
  have h1:=(close0 _ _).1 (by simpa using h1)
  rw [if_neg fun h=>by simp [h.2.2] at hc] at hd;subst hd;exact ZT () rfl trivial
 ·rename_i h1 _ _
  have h1:=(close0 _ _).1 (by simpa using h1)
  rw [if_pos ⟨h1.1,h1.2,by simpa using hc⟩] at hd;subst hd;exact ZT () rfl trivial
theorem idec_inv {s:ByteArray} {n:Ino} (h:idec s=some n):ichk n=0∧s.data.toList=ienc n:=by
 unfold idec at h
 dsimp only at h
 split at h
 ·rename_i hc
  obtain ⟨h1,h2,h3⟩:=hc
  obtain rfl:=Option.some.inj h
  refine ⟨h3,?_⟩
  unfold iread at h1 h2 ⊢
  dsimp only at h1 h2 ⊢
  obtain ⟨a1,a2,a3,a4⟩:=rtext_inv h1
  obtain ⟨b1,b2,b3,b4,b5⟩:=X1 a1
  obtain ⟨c1,c2,c3,c4,c5⟩:=X1 b1
  obtain ⟨d1,d2,d3,d4,d5⟩:=X1 c1
  obtain ⟨e1,e2,e3,e4,e5⟩:=X1 d1
  obtain ⟨f1,f2,f3,f4,f5⟩:=X1 e1
  obtain ⟨g1,g2,g3,g4,g5⟩:=X1 f1
  rw [h2] at a4
  refine Eq.trans (show s.data.toList=_ from g5) ?_
  rw [f5,e5,d5,c5,b5,a4]
  simp [ienc]
 ·cases h
theorem idec_enc {n:Ino} (h:ichk n=0):idec (iencS n)=some n:=by
 obtain ⟨h1,h2,h3⟩:=Yc h
 unfold ifit at h2
 have e1:((n.kd.toNat:Nat):Int)=n.kd:=by omega
 have e2:((n.ow.toNat:Nat):Int)=n.ow:=by omega
 have e3:((n.gr.toNat:Nat):Int)=n.gr:=by omega
 have e4:((n.md.toNat:Nat):Int)=n.md:=by omega
 have e5:((n.sz.toNat:Nat):Int)=n.sz:=by omega
 have e6:((n.lk.toNat:Nat):Int)=n.lk:=by omega
 have hl:ienc n=venc n.kd.toNat++(venc n.ow.toNat++(venc n.gr.toNat++(venc n.md.toNat++(venc n.sz.toNat++(venc n.lk.toNat++(venc n.tg.size++n.tg.data.toList++[])))))):=by simp [ienc]
 have r1:=fun p=>Yl n.kd.toNat (by omega) (venc n.ow.toNat++(venc n.gr.toNat++(venc n.md.toNat++(venc n.sz.toNat++(venc n.lk.toNat++(venc n.tg.size++n.tg.data.toList++[])))))) p 3 (by omega)
 have r2:=fun p=>Yl n.ow.toNat (by omega) (venc n.gr.toNat++(venc n.md.toNat++(venc n.sz.toNat++(venc n.lk.toNat++(venc n.tg.size++n.tg.data.toList++[]))))) p 65535 (by omega)
 have r3:=fun p=>Yl n.gr.toNat (by omega) (venc n.md.toNat++(venc n.sz.toNat++(venc n.lk.toNat++(venc n.tg.size++n.tg.data.toList++[])))) p 65535 (by omega)
 have r4:=fun p=>Yl n.md.toNat (by omega) (venc n.sz.toNat++(venc n.lk.toNat++(venc n.tg.size++n.tg.data.toList++[]))) p 2047 (by omega)
 have r5:=fun p=>Yl n.sz.toNat (by omega) (venc n.lk.toNat++(venc n.tg.size++n.tg.data.toList++[])) p 4096 (by omega)
 have r6:=fun p=>Yl n.lk.toNat (by omega) (venc n.tg.size++n.tg.data.toList++[]) p 1000 (by omega)
 have r7:=fun p=>rtext_venc n.tg [] p 256 (by omega) (by omega)
 rw [iencS,if_pos h]
 unfold idec iread
 simp only [hl,r1,r2,r3,r4,r5,r6,r7,e1,e2,e3,e4,e5,e6]
 rw [if_pos ⟨trivial,trivial,h⟩]
variable {n:Nat} {C:Cx} {Q:Exit→Act→World→Prop} {E E':List (Nat×Value)} {F F' F1 Fs F0:List Pf} {R R' R0 Rs N N' A:List HP} {k k':List Fr} {ops l:List Oper} {L L':List (Nat×Nat)} {Tl:List Nat} {i d:Nat} {t ty0:TypeId} {x y:Operand} {pos:String} {aft:Array Edge} {gd:Option (Nat×Bool)}
section
variable {t2:TypeId}
theorem run_scut {s:ByteArray} {z:Int} {rs:TRow} {w:World} (hi:Nat) (hle:hi≤s.size) (hts:lookT tab t=some rs) (hrs:rs.k = .str) (hz:z=(hi:Int)):(Instr.sliceAt t (.string s) none (some (.int .i64 z)) none).run prog w = .ok (.string (s.extract 0 hi)) w:=by
 subst hz
 have hu:=Yr (w:=w) hts hrs
 have hb:(Instr.sliceBound (.int .i64 (hi:Int)) s.size .sliceAlen).run prog w = .ok hi w:=by
  simp only [Instr.sliceBound,asIntOf,Sem.run_bind,Sem.run_pure,Result.andThen]
  rw [if_pos ⟨by omega,by omega⟩]
  simp
 simp [Instr.sliceAt,Instr.slice,Instr.sliceBounds,Sem.run_bind,hu,Result.andThen,hb]
theorem minS (m j:Nat):(if (j:Int)<(m:Int) then (j:Int) else (m:Int))=((min m j:Nat):Int):=by split<;>omega
def cutS (s:ByteArray) (m:Nat):ByteArray:=s.extract 0 (min s.size m)
theorem cutS_size (s:ByteArray) (m:Nat):(cutS s m).size≤m:=by
 unfold cutS;rw [ByteArray.size_extract];omega
theorem l_cutS {s:ByteArray} {z:Int} {rs:TRow} (hi:Nat) (nx:Wl n C ops.toArray k Q l ((d,.string (cutS s hi))::E) F R)
  (hw:wantL ops E ⟨some d,.slice t x none (some y) none,ty0,pos,aft,gd⟩=some true:=by rfl) (hn:Nat.blt d n=true:=by rfl) (hx:ev E x=some (.string s):=by rfl) (hy:ev E y=some (.int .i64 z):=by rfl)
  (hts:lookT tab t=some rs:=by rfl) (hrs:rs.k = .str:=by rfl) (hz:z=(if (hi:Int)<(s.size:Int) then (hi:Int) else (s.size:Int)):=by rfl):Wl n C ops.toArray k Q (⟨some d,.slice t x none (some y) none,ty0,pos,aft,gd⟩::l) E F R:=
 l_q (fun a w ha=>by
  simp only [execOp,Option.map_some,Option.map_none,ha.ev (x:=x) (by rw [ZU];exact hx),ha.ev (x:=y) (by rw [ZU];exact hy),Sem.run_bind,run_scut (w:=w) (min s.size hi) (Nat.min_le_left _ _) hts hrs (hz.trans (minS _ _)),Result.andThen,Sem.run_pure,cutS]) nx (by intro c h;cases h) hw hn
end
def By (T b:Nat) (L:List UInt8):HP:=Pt b (.cells (byt L).toArray T (0,0))
def cpy (L:List UInt8) (off:Nat) (s:ByteArray) (dl:Nat):List UInt8:=L.take off++s.data.toList.take (min s.size dl)++L.drop (off+min s.size dl)
theorem Vh {L:List UInt8} {off dl:Nat} {s:ByteArray} (h:off+dl≤L.length):(cpy L off s dl).length=L.length:=by
 have:s.data.toList.length=s.size:=by simp
 simp only [cpy,List.length_append,List.length_take,List.length_drop];omega
section
variable {b:Nat}
theorem run_undA {m T:Nat} {w:World} {rs:TRow} (hts:lookT tab t=some rs) (hrs:rs.k = .arr m T):(underlying t).run prog w = .ok (.array m T) w:=by
 obtain ⟨d1,hd1,hk1⟩:=Zo.und hts
 rw [hrs] at hk1
 cases d1<;>simp [chkKind] at hk1
 obtain ⟨rfl,rfl⟩:=hk1
 simp [underlying,hd1,go_sem]
theorem run_sla {T m lo hi:Nat} {z1 z2:Int} {w:World} {rs tr:TRow} (hlo:lo<hi) (hhi:hi≤m) (hts:lookT tab t=some rs) (hrs:rs.k = .arr m T) (hT:lookT tab T=some tr) (hsz:tr.size=1) (hz1:z1=(lo:Int)) (hz2:z2=(hi:Int)) :
  (Instr.sliceAt t (.pointer (some ⟨b,0,none⟩)) (some (.int .i64 z1)) (some (.int .i64 z2)) none).run prog w = .ok (.slice (some ⟨b,lo,none⟩) (hi - lo) (m - lo)) w:=by
 subst hz1 hz2
 have hs1:=Zo.sizeOf hT w
 rw [hsz] at hs1
 have c1:(0:Int)≤(hi:Int)∧(hi:Int)≤(m:Int):=⟨by omega,by omega⟩
 have c2:(0:Int)≤(lo:Int)∧(lo:Int)≤(hi:Int):=⟨by omega,by omega⟩
 simp only [Instr.sliceAt,run_undA hts hrs,Instr.sureAddr,Instr.sliceBounds,Instr.sliceBound,asIntOf,Sem.run_bind,Sem.run_pure,Result.andThen,if_pos c1,if_pos c2,hs1,Int.toNat_natCast]
 rw [if_neg (by omega),Yw (b:=b) (p:=0) rfl]
 simp
theorem run_sla0 {T m:Nat} {w:World} {rs tr:TRow} (hts:lookT tab t=some rs) (hrs:rs.k = .arr m T) (hT:lookT tab T=some tr) (hsz:tr.size=1) :
  (Instr.sliceAt t (.pointer (some ⟨b,0,none⟩)) none none none).run prog w = .ok (.slice (some ⟨b,0,none⟩) m m) w:=by
 have hs1:=Zo.sizeOf hT w
 rw [hsz] at hs1
 simp only [Instr.sliceAt,run_undA hts hrs,Instr.sureAddr,Instr.sliceBounds,Sem.run_bind,Sem.run_pure,Result.andThen,hs1]
 split
 ·simp
 ·rw [Yw (b:=b) (p:=0) rfl];simp
theorem r_sla {T m:Nat} {z1 z2:Int} {y2:Operand} {rs tr:TRow} (lo hi:Nat) (hlo:lo<hi) (hhi:hi≤m) (nx:Wr n C ops k Q Tl Fs R L ((d,.slice (some ⟨b,lo,none⟩) (hi - lo) (m - lo))::E) F N)
  (ho:nth ops i=some ⟨some d,.slice t x (some y) (some y2) none,ty0,pos,aft,gd⟩:=by rfl) (hw:wantL ops E ⟨some d,.slice t x (some y) (some y2) none,ty0,pos,aft,gd⟩=some true:=by rfl) (hx:ev E x=some (.pointer (some ⟨b,0,none⟩)):=by rfl) (hy:ev E y=some (.int .i64 z1):=by rfl) (hy2:ev E y2=some (.int .i64 z2):=by rfl)
  (hts:lookT tab t=some rs:=by rfl) (hrs:rs.k = .arr m T:=by rfl) (hT:lookT tab T=some tr:=by rfl) (hsz:tr.size=1:=by rfl) (hz1:z1=(lo:Int):=by first|rfl|omega) (hz2:z2=(hi:Int):=by first|rfl|omega):Wr n C ops k Q Tl Fs R ((i,0)::L) E F N:=
 r_q (fun a w ha=>by
  simp only [execOp,Option.map_some,Option.map_none,ha.ev (x:=x) (by rw [ZU];exact hx),ha.ev (x:=y) (by rw [ZU];exact hy),ha.ev (x:=y2) (by rw [ZU];exact hy2),Sem.run_bind,run_sla (b:=b) (w:=w) hlo hhi hts hrs hT hsz hz1 hz2,Result.andThen,Sem.run_pure]) nx ho hw
theorem r_sla0 {T m:Nat} {rs tr:TRow} (nx:Wr n C ops k Q Tl Fs R L ((d,.slice (some ⟨b,0,none⟩) m m)::E) F N)
  (ho:nth ops i=some ⟨some d,.slice t x none none none,ty0,pos,aft,gd⟩:=by rfl) (hw:wantL ops E ⟨some d,.slice t x none none none,ty0,pos,aft,gd⟩=some true:=by rfl) (hx:ev E x=some (.pointer (some ⟨b,0,none⟩)):=by rfl)
  (hts:lookT tab t=some rs:=by rfl) (hrs:rs.k = .arr m T:=by rfl) (hT:lookT tab T=some tr:=by rfl) (hsz:tr.size=1:=by rfl):Wr n C ops k Q Tl Fs R ((i,0)::L) E F N:=
 r_q (fun a w ha=>by
  simp only [execOp,Option.map_none,ha.ev (x:=x) (by rw [ZU];exact hx),Sem.run_bind,run_sla0 (b:=b) (w:=w) hts hrs hT hsz,Result.andThen,Sem.run_pure]) nx ho hw
theorem l_sla0 {T m:Nat} {rs tr:TRow} (nx:Wl n C ops.toArray k Q l ((d,.slice (some ⟨b,0,none⟩) m m)::E) F R)
  (hw:wantL ops E ⟨some d,.slice t x none none none,ty0,pos,aft,gd⟩=some true:=by rfl) (hn:Nat.blt d n=true:=by rfl) (hx:ev E x=some (.pointer (some ⟨b,0,none⟩)):=by rfl)
  (hts:lookT tab t=some rs:=by rfl) (hrs:rs.k = .arr m T:=by rfl) (hT:lookT tab T=some tr:=by rfl) (hsz:tr.size=1:=by rfl):Wl n C ops.toArray k Q (⟨some d,.slice t x none none none,ty0,pos,aft,gd⟩::l) E F R:=
 l_q (fun a w ha=>by
  simp only [execOp,Option.map_none,ha.ev (x:=x) (by rw [ZU];exact hx),Sem.run_bind,run_sla0 (b:=b) (w:=w) hts hrs hT hsz,Result.andThen,Sem.run_pure]) nx (by intro c h;cases h) hw hn
theorem run_send {s:ByteArray} {z:Int} {rs:TRow} {w:World} (lo:Nat) (hle:lo≤s.size) (hts:lookT tab t=some rs) (hrs:rs.k = .str) (hz:z=(lo:Int)):(Instr.sliceAt t (.string s) (some (.int .i64 z)) none none).run prog w = .ok (.string (s.extract lo s.size)) w:=by
 subst hz
 have hu:=Yr (w:=w) hts hrs
 have hb:(Instr.sliceBound (.int .i64 (lo:Int)) s.size .sliceB).run prog w = .ok lo w:=by
  simp only [Instr.sliceBound,asIntOf,Sem.run_bind,Sem.run_pure,Result.andThen]
  rw [if_pos ⟨by omega,by omega⟩]
  simp
 simp [Instr.sliceAt,Instr.slice,Instr.sliceBounds,Sem.run_bind,hu,Result.andThen,hb]
theorem r_send {s:ByteArray} {z:Int} {rs:TRow} (lo:Nat) (hle:lo≤s.size) (nx:Wr n C ops k Q Tl Fs R L ((d,.string (s.extract lo s.size))::E) F N)
  (ho:nth ops i=some ⟨some d,.slice t x (some y) none none,ty0,pos,aft,gd⟩:=by rfl) (hw:wantL ops E ⟨some d,.slice t x (some y) none none,ty0,pos,aft,gd⟩=some true:=by rfl) (hx:ev E x=some (.string s):=by rfl) (hy:ev E y=some (.int .i64 z):=by rfl)
  (hts:lookT tab t=some rs:=by rfl) (hrs:rs.k = .str:=by rfl) (hz:z=(lo:Int):=by first|rfl|omega):Wr n C ops k Q Tl Fs R ((i,0)::L) E F N:=
 r_q (fun a w ha=>by
  simp only [execOp,Option.map_some,Option.map_none,ha.ev (x:=x) (by rw [ZU];exact hx),ha.ev (x:=y) (by rw [ZU];exact hy),Sem.run_bind,run_send (w:=w) lo hle hts hrs hz,Result.andThen,Sem.run_pure]) nx ho hw
theorem run_copyS {T T0 b off dl c:Nat} {Lb:List UInt8} {s:ByteArray} {ts tx:TypeId} {rs tr:TRow} {w:World} (hts:lookT tab ts=some rs) (hrs:rs.k = .slice T0) (hT:lookT tab T0=some tr) (hsz:tr.size=1)
  (hb:w.heap[b]? = some (.cells (byt Lb).toArray T (0,0))) (hle:off+dl≤Lb.length) :
  ∃w',(Builtin.copy_ #[ts,tx] ty0 #[.slice (some ⟨b,off,none⟩) dl c,.string s]).run prog w = .ok (.int .i64 ((min s.size dl:Nat):Int)) w'∧w'.heap[b]? = some (.cells (byt (cpy Lb off s dl)).toArray T (0,0))∧Same w w'∧∀e,e≠b→w'.heap[e]? = w.heap[e]?:=by
 have hs1:=Zo.sizeOf hT w
 rw [hsz] at hs1
 have hds:s.data.toList.length=s.size:=by simp
 have hcells:((s.extract 0 (min s.size dl)).data.map fun b=>Value.int .u8 b.toNat).toList=byt (s.data.toList.take (min s.size dl)):=by
  simp [byt]
 obtain ⟨w',g1,g2,g3,g4⟩:=YY (P:=prog) (b:=b) (ty:=T) off (byt (s.data.toList.take (min s.size dl))) 0 w (byt Lb) hb (.inl rfl) (Vx _) (by simp only [Xj,List.length_take];omega)
 refine ⟨w',?_,?_,g3,g4⟩
 ·have hn:Nat.min s.size dl=min s.size dl:=rfl
  simp only [Builtin.copy_,List.getElem?_toArray,List.getElem?_cons_zero,List.getElem?_cons_succ,Sem.run_bind,Xm hts hrs,Result.andThen,Builtin.lenOf,Sem.run_pure,hs1,Builtin.firstCells,hn]
  rw [hcells,g1]
  rfl
 ·rw [g2]
  congr 3
  have e1:(byt (s.data.toList.take (min s.size dl))).length=min s.size dl:=by simp only [Xj,List.length_take];omega
  rw [Nat.add_zero,e1,cpy,Yx,Yx]
  simp [byt,List.map_take,List.map_drop]
theorem l_copyS {T T0 b off dl c:Nat} {Lb:List UInt8} {s:ByteArray} {ts tx:TypeId} {rs tr:TRow} (nx:Wl n C ops.toArray k Q l ((d,.int .i64 ((min s.size dl:Nat):Int))::E) F (By T b (cpy Lb off s dl)::R0)) (hle:off+dl≤Lb.length)
  (hw:wantL ops E ⟨some d,.call ⟨.builtin .copy,#[x,y],#[ts,tx]⟩,ty0,pos,aft,gd⟩=some true:=by rfl) (hn:Nat.blt d n=true:=by rfl) (hx:ev E x=some (.slice (some ⟨b,off,none⟩) dl c):=by rfl) (hy:ev E y=some (.string s):=by rfl)
  (hts:lookT tab ts=some rs:=by rfl) (hrs:rs.k = .slice T0:=by rfl) (hT:lookT tab T0=some tr:=by rfl) (hsz:tr.size=1:=by rfl) (hs:Sel (By T b Lb) R R0:=by (repeat (first|exact Sel.here|apply Sel.there));first|done|fail) :
  Wl n C ops.toArray k Q (⟨some d,.call ⟨.builtin .copy,#[x,y],#[ts,tx]⟩,ty0,pos,aft,gd⟩::l) E F R:=
 Z6 (fun t ht=>by cases ht;exact Nat.le_of_ble_eq_true hn) (fun c hc=>by cases hc) hw fun a w ha hsat=>by
  obtain ⟨w',g1,g2,g3,g4⟩:=run_copyS (ty0:=ty0) (tx:=tx) (c:=c) (s:=s) hts hrs hT hsz (hsat.pt hs) hle
  have hse:Sat C.G C.w0 C.hp0 F (By T b (cpy Lb off s dl)::R0) w':=(show Sat C.G C.w0 C.hp0 F (Pt b (.cells (byt Lb).toArray T (0,0))::R0) w from hsat.sel hs).write g3 g2 fun e he _=>g4 e he
  unfold OpRes
  have e1:=ha.ev (x:=x) (by rw [ZU];exact hx)
  have e2:=ha.ev (x:=y) (by rw [ZU];exact hy)
  simp only [execOp,resolve,Sem.run_bind,Sem.run_pure,Result.andThen,invoke,builtin,List.map_toArray,List.map_cons,List.map_nil,e1,e2,g1]
  exact fun a' ha'=>nx a' w' ha' hse
theorem r_copyS {T T0 b off dl c:Nat} {Lb:List UInt8} {s:ByteArray} {ts tx:TypeId} {rs tr:TRow} (nx:Wr n C ops k Q Tl Fs R L ((d,.int .i64 ((min s.size dl:Nat):Int))::E) F (By T b (cpy Lb off s dl)::N')) (hle:off+dl≤Lb.length)
  (ho:nth ops i=some ⟨some d,.call ⟨.builtin .copy,#[x,y],#[ts,tx]⟩,ty0,pos,aft,gd⟩:=by rfl) (hw:wantL ops E ⟨some d,.call ⟨.builtin .copy,#[x,y],#[ts,tx]⟩,ty0,pos,aft,gd⟩=some true:=by rfl) (hx:ev E x=some (.slice (some ⟨b,off,none⟩) dl c):=by rfl) (hy:ev E y=some (.string s):=by rfl)
  (hts:lookT tab ts=some rs:=by rfl) (hrs:rs.k = .slice T0:=by rfl) (hT:lookT tab T0=some tr:=by rfl) (hsz:tr.size=1:=by rfl) (hs:Sel (By T b Lb) N N':=by (repeat (first|exact Sel.here|apply Sel.there));first|done|fail) :
  Wr n C ops k Q Tl Fs R ((i,4)::L) E F N:=
 Ye ho fun hp hr w st hz sb=>by
  simp only [Zq hw]
  refine ⟨⟨Unit,fun _=>.int .i64 ((min s.size dl:Nat):Int),fun _=>True,fun _=>F,fun _=>By T b (cpy Lb off s dl)::N'⟩,fun a G w hp' ha hsub hsat=>?_,fun _ _=>nx hp hr w st hz sb⟩
  obtain ⟨w',g1,g2,g3,g4⟩:=run_copyS (ty0:=ty0) (tx:=tx) (c:=c) (s:=s) hts hrs hT hsz (hsat.pt hs) hle
  unfold OpRes
  have e1:=ha.ev (x:=x) (by rw [ZU];exact hx)
  have e2:=ha.ev (x:=y) (by rw [ZU];exact hy)
  simp only [execOp,resolve,Sem.run_bind,Sem.run_pure,Result.andThen,invoke,builtin,List.map_toArray,List.map_cons,List.map_nil,e1,e2,g1]
  exact ⟨(),trivial,trivial,(show Sat G w hp' F (Pt b (.cells (byt Lb).toArray T (0,0))::N') w from hsat.sel hs).write g3 g2 fun e he _=>g4 e he⟩
theorem run_b2sB {T b m c:Nat} {Lb:List UInt8} {w:World} (hb:w.heap[b]? = some (.cells (byt Lb).toArray T (0,0))) (hm:m=Lb.length) :
  (Conv.bytesToString (.slice (some ⟨b,0,none⟩) m c)).run prog w = .ok (.string ⟨Lb.toArray⟩) w:=by
 subst hm
 rw [run_bytesToString (ns:=Lb.map fun b=>(b.toNat:Int))]
 ·rw [UA];simp
 ·unfold loadCells
  rw [YG hb 0 Lb.length 0 #[] (by simp [byt])]
  simp [byt]
  rw [List.take_of_length_le (by simp)]
  rfl
theorem r_b2sB {T T1 b m c:Nat} {Lb:List UInt8} {td:TypeId} {rs tr rd:TRow} (nx:Wr n C ops k Q Tl Fs R L ((d,.string ⟨Lb.toArray⟩)::E) F N) (hm:m=Lb.length)
  (ho:nth ops i=some ⟨some d,.convert t td x,ty0,pos,aft,gd⟩:=by rfl) (hw:wantL ops E ⟨some d,.convert t td x,ty0,pos,aft,gd⟩=some true:=by rfl) (hx:ev E x=some (.slice (some ⟨b,0,none⟩) m c):=by rfl)
  (hs:Sel (By T b Lb) R R0:=by (repeat (first|exact Sel.here|apply Sel.there));first|done|fail) (hts:lookT tab t=some rs:=by rfl) (hrs:rs.k = .slice T1:=by rfl) (hT:lookT tab T1=some tr:=by rfl) (hTk:tr.k = .int .u8:=by rfl) (htd:lookT tab td=some rd:=by rfl) (hrd:rd.k = .str:=by rfl) :
  Wr n C ops k Q Tl Fs R ((i,0)::L) E F N:=
 Ye ho fun hp hr w st hz sb=>by
  simp only [Zq hw]
  refine ⟨.string ⟨Lb.toArray⟩,fun a w ha hin=>?_,nx hp hr w st hz sb⟩
  have hr1:=run_b2sB (c:=c) (hin _ _ (sb _ _ (stat_pt st (show Sel (Pt b (.cells (byt Lb).toArray T (0,0))) R R0 from hs)))) hm
  simp only [execOp,ha.ev (x:=x) (by rw [ZU];exact hx),convert,Xm hts hrs,Yr htd hrd,VT hT hTk,Sem.run_bind,Result.andThen,Sem.run_pure,hr1]
theorem l_b2sB {T T1 b m c:Nat} {Lb:List UInt8} {td:TypeId} {rs tr rd:TRow} (nx:Wl n C ops.toArray k Q l ((d,.string ⟨Lb.toArray⟩)::E) F R) (hm:m=Lb.length)
  (hw:wantL ops E ⟨some d,.convert t td x,ty0,pos,aft,gd⟩=some true:=by rfl) (hn:Nat.blt d n=true:=by rfl) (hx:ev E x=some (.slice (some ⟨b,0,none⟩) m c):=by rfl)
  (hs:Sel (By T b Lb) R R0:=by (repeat (first|exact Sel.here|apply Sel.there));first|done|fail) (hts:lookT tab t=some rs:=by rfl) (hrs:rs.k = .slice T1:=by rfl) (hT:lookT tab T1=some tr:=by rfl) (hTk:tr.k = .int .u8:=by rfl) (htd:lookT tab td=some rd:=by rfl) (hrd:rd.k = .str:=by rfl) :
  Wl n C ops.toArray k Q (⟨some d,.convert t td x,ty0,pos,aft,gd⟩::l) E F R:=
 Z6 (fun t ht=>by cases ht;exact Nat.le_of_ble_eq_true hn) (fun c hc=>by cases hc) hw fun a w ha hsat=>by
  have hr1:=run_b2sB (c:=c) (hsat.pt (show Sel (Pt b (.cells (byt Lb).toArray T (0,0))) R R0 from hs)) hm
  unfold OpRes
  simp only [execOp,ha.ev (x:=x) (by rw [ZU];exact hx),convert,Xm hts hrs,Yr htd hrd,VT hT hTk,Sem.run_bind,Result.andThen,Sem.run_pure,hr1]
  exact fun a' ha'=>nx a' w ha' hsat
theorem UK {β:Type}:∀(l:List Value) (o m:Nat) (k:List Value→Option β),o+m≤l.length→cutF l o m k=k ((l.drop o).take m)
 | l,o,0,k,_=>by cases l<;>cases o<;>simp [cutF]
 | [],o,m+1,k,h=>by simp at h
 | a::l,0,m+1,k,h=>by
  rw [cutF,UK l 0 m _ (by simp at h ⊢;omega)]
  simp
 | a::l,o+1,m+1,k,h=>by
  rw [cutF,UK l o (m+1) k (by simp at h ⊢;omega)]
  simp
def arv (Lb:List UInt8):Value:=.agg (byt Lb).toArray
theorem ldv_arr {m T1:Nat} {Lb:List UInt8} {rs:TRow} (hts:lookT tab t=some rs) (hrs:rs.k = .arr m T1) (hsz:rs.size=Lb.length):ldv t (byt Lb) 0=some (arv Lb):=by
 obtain ⟨kk,sz,by1,z⟩:=rs
 dsimp only at hrs hsz
 subst hrs hsz
 unfold ldv
 rw [hts]
 dsimp only
 rw [UK _ _ _ _ (by simp [byt])]
 have:((byt Lb).drop 0).take Lb.length=byt Lb:=by rw [List.drop_zero,←Xj Lb,List.take_length]
 rw [this];rfl
theorem l_ldB {T b m T1:Nat} {Lb:List UInt8} {rs:TRow} (nx:Wl n C ops.toArray k Q l ((d,arv Lb)::E) F R) (hm:m=Lb.length)
  (hw:wantL ops E ⟨some d,.load t x,ty0,pos,aft,gd⟩=some true:=by rfl) (hn:Nat.blt d n=true:=by rfl) (hx:ev E x=some (.pointer (some ⟨b,0,none⟩)):=by rfl)
  (hs:Sel (By T b Lb) R R0:=by (repeat (first|exact Sel.here|apply Sel.there));first|done|fail) (hts:lookT tab t=some rs:=by rfl) (hrs:rs.k = .arr m T1:=by rfl) (hsz:rs.size=m:=by rfl) :
  Wl n C ops.toArray k Q (⟨some d,.load t x,ty0,pos,aft,gd⟩::l) E F R:=
 ZM (cs:=(byt Lb).toArray) (ty:=T) (fzn:=(0,0)) nx hw hn hx (show Sel (Pt b (.cells (byt Lb).toArray T (0,0))) R R0 from hs) (by rw [List.toList_toArray];exact ldv_arr hts hrs (hsz.trans hm))
theorem l_stB {T b m:Nat} {L0 Lb:List UInt8} {rs:TRow} (nx:Wl n C ops.toArray k Q l E F (By T b Lb::R0)) (hm:m=Lb.length) (hm0:L0.length=Lb.length)
  (hw:wantL ops E ⟨none,.store t x y,ty0,pos,aft,gd⟩=some true:=by rfl) (hx:ev E x=some (.pointer (some ⟨b,0,none⟩)):=by rfl) (hy:ev E y=some (arv Lb):=by rfl)
  (hs:Sel (By T b L0) R R0:=by (repeat (first|exact Sel.here|apply Sel.there));first|done|fail) (hts:lookT tab t=some rs:=by rfl) (hsz:rs.size=m:=by rfl) :
  Wl n C ops.toArray k Q (⟨none,.store t x y,ty0,pos,aft,gd⟩::l) E F R:=
 ZN (cs:=(byt L0).toArray) (ty:=T) (cs':=byt Lb) nx hw hx hy (show Sel (Pt b (.cells (byt L0).toArray T (0,0))) R R0 from hs) (by
  unfold stv
  rw [hts,List.toList_toArray]
  show (bif Nat.beq (byt Lb).toArray.toList.length rs.size && (byt Lb).toArray.toList.all one1 then putF (byt L0) 0 (byt Lb).toArray.toList some else none)=_
  rw [List.toList_toArray,Vx,Xj,hsz,hm,Nat.beq_refl]
  show putF (byt L0) 0 (byt Lb) some=_
  rw [W1 _ _ _ _ (by simp only [Xj];omega)]
  simp [byt,List.drop_eq_nil_of_le,hm0])
theorem l_by {T b:Nat} {cs:Array Value} {Lb:List UInt8} (h:cs=(byt Lb).toArray) (nx:Wl n C ops.toArray k Q l E F (By T b Lb::R0)) (hs:Sel (Pt b (.cells cs T (0,0))) R R0:=by (repeat (first|exact Sel.here|apply Sel.there));first|done|fail):Wl n C ops.toArray k Q l E F R:=by
 subst h;exact fun a w ha hsat=>nx a w ha (hsat.sel hs)
theorem k_by {T b:Nat} {cs:Array Value} {Lb:List UInt8} (h:cs=(byt Lb).toArray) (nx:Wk n C k Q E F (By T b Lb::R0)) (hs:Sel (Pt b (.cells cs T (0,0))) R R0:=by (repeat (first|exact Sel.here|apply Sel.there));first|done|fail):Wk n C k Q E F R:=by
 subst h;exact fun a w ha hsat=>nx a w ha (hsat.sel hs)
end
structure Bi where
 mkr:ByteArray
 nu:Int
 deriving DecidableEq
def Bi.v (b:Bi):Value:=.agg #[.string b.mkr,.int .i64 b.nu]
def Bi.z:Bi:=⟨⟨#[]⟩,0⟩
def bchk (b:Bi):Int:=if lvalid b.mkr.data.toList=false then 12 else if 0≤b.nu∧b.nu≤1073741824 then 0 else 2
def nnm (b:Bi):Nm:=⟨7,b.mkr,b.nu,0,⟨#[]⟩⟩
def bnm (b:Bi) (i:Int):Nm:=⟨8,b.mkr,b.nu,i,⟨#[]⟩⟩
theorem Xr (b:Bi) (hb:b.mkr.size≤1099511627776):Enters 53∧Spec prog 53 #[b.v] [] [] (RetV (.int .i64 (bchk b))):=by
 have n1:=YR b.mkr hb
 have n2:=Zz b.nu 1073741824
 generalize hr:bchk b=r
 unfold bchk at hr
 cases hv:lvalid b.mkr.data.toList
 all_goals rw [hv] at n1 hr
 all_goals simp only [Bool.true_eq_false,if_true,if_false] at hr
 all_goals refine ZV [_] func53 ntmps53 fun G w hp=>?_
 all_goals repeat' (first|refine ZH ?_|refine ZI ?_|refine ZK ?_|refine ZG ?_|refine ZM ?_|refine ZJ ?_|refine ZN ?_|refine ZP (fun b=>?_)|refine ZO (fun b=>?_)|refine ZA ?_|refine ZB ?_|refine ZL ?_|refine ZE (n1) (fun _ _=>?_)|refine l_call0 (n1) (fun _ _=>?_)|refine ZE (n2) (fun _ _=>?_)|refine l_call0 (n2) (fun _ _=>?_)|(refine ZC (fun hc=>?_) (fun hc=>?_)<;>(try simp at hc)<;>(try omega))|(refine ZF (fun hc=>?_) (fun hc=>?_)<;>(try simp at hc)<;>(try omega)))
 all_goals first
  | (subst hr;exact ZT () rfl trivial)
  | (rw [if_pos (by simp_all)] at hr;subst hr;exact ZT () rfl trivial)
  | (rw [if_neg (by simp_all;omega)] at hr;subst hr;exact ZT () rfl trivial)
theorem ofBirth_ok (k:Int) (b:Bi):Enters 116∧Spec prog 116 #[.int .i64 k,b.v] [] [] (RetV (Nm.v ⟨k,b.mkr,b.nu,0,⟨#[]⟩⟩)):=by
 refine ZV [_,_] func116 ntmps116 fun G w hp=>?_
 repeat' (first|refine ZH ?_|refine ZI ?_|refine ZK ?_|refine ZG ?_|refine ZM ?_|refine ZJ ?_|refine ZN ?_|refine ZP (fun b=>?_)|refine ZO (fun b=>?_)|refine ZA ?_|refine ZB ?_|refine ZL ?_|(refine ZC (fun hc=>?_) (fun hc=>?_)<;>(try simp at hc))|(refine ZF (fun hc=>?_) (fun hc=>?_)<;>(try simp at hc)))
 exact ZT () rfl trivial
theorem ofNode_ok (b:Bi):Enters 55∧Spec prog 55 #[b.v] [] [] (RetV (nnm b).v):=by
 have n1:=ofBirth_ok 7 b
 refine ZV [_] func55 ntmps55 fun G w hp=>?_
 repeat' (first|refine ZH ?_|refine ZI ?_|refine ZK ?_|refine ZG ?_|refine ZM ?_|refine ZJ ?_|refine ZN ?_|refine ZP (fun b=>?_)|refine ZO (fun b=>?_)|refine ZA ?_|refine ZB ?_|refine ZL ?_|refine ZE (n1) (fun _ _=>?_)|refine l_call0 (n1) (fun _ _=>?_)|(refine ZC (fun hc=>?_) (fun hc=>?_)<;>(try simp at hc))|(refine ZF (fun hc=>?_) (fun hc=>?_)<;>(try simp at hc)))
 exact ZT () rfl trivial
theorem WI (b:Bi) (i:Int):Enters 73∧Spec prog 73 #[b.v,.int .i64 i] [] [] (RetV (bnm b i).v):=by
 have n1:=ofBirth_ok 8 b
 refine ZV [_,_] func73 ntmps73 fun G w hp=>?_
 repeat' (first|refine ZH ?_|refine ZI ?_|refine ZK ?_|refine ZG ?_|refine ZM ?_|refine ZJ ?_|refine ZN ?_|refine ZP (fun b=>?_)|refine ZO (fun b=>?_)|refine ZA ?_|refine ZB ?_|refine ZL ?_|refine ZE (n1) (fun _ _=>?_)|refine l_call0 (n1) (fun _ _=>?_)|(refine ZC (fun hc=>?_) (fun hc=>?_)<;>(try simp at hc))|(refine ZF (fun hc=>?_) (fun hc=>?_)<;>(try simp at hc)))
 exact ZT () rfl trivial
def iget (es:Al) (cs:List Ch) (b:Bi):Ino×Int:=
 if bchk b≠0 then (Ino.z,bchk b) else if (vget es cs (nnm b)).2 then ((idec (vget es cs (nnm b)).1).getD Ino.z,if (idec (vget es cs (nnm b)).1).isSome then 0 else 3) else (Ino.z,8)
def igetR (es:Al) (rs:List (Nm×Ch)) (cs:List Ch) (b:Bi):List (Nm×Ch):=if bchk b≠0 then rs else vread es rs cs (nnm b)
set_option maxHeartbeats 1000000 in
theorem Wu (b:Nat) (ps:Option Addr) (es:Al) (rs:List (Nm×Ch)) (cs:List Ch) (bi:Bi) (hw:bi.mkr.size≤1099511627770) (hv:(vget es cs (nnm bi)).1.size≤1099511627776) :
  Enters 17∧Spec prog 17 #[.pointer (some ⟨b,0,none⟩),bi.v] [St ps es,Usg] [Vw b ps rs cs] ⟨Unit,fun _=>.tuple #[(iget es cs bi).1.v,.int .i64 (iget es cs bi).2],fun _=>True,fun _=>[],fun _=>[Vw b ps (igetR es rs cs bi) cs]⟩:=by
 have n1:=Xr bi (by omega)
 have n2:=ofNode_ok bi
 have n3:=vwGet_ok b ps es rs cs (nnm bi) hw (Nat.zero_le _)
 have n4:=inoDecode_ok (vget es cs (nnm bi)).1 hv
 by_cases h0:bchk bi=0
 ·have eR:igetR es rs cs bi=vread es rs cs (nnm bi):=by rw [igetR,if_neg (by simp [h0])]
  rw [h0] at n1
  rw [eR]
  cases hp:(vget es cs (nnm bi)).2 with
  | false=>
   have eG:iget es cs bi=(Ino.z,8):=by rw [iget,if_neg (by simp [h0]),hp];rfl
   rw [hp] at n3
   rw [eG]
   refine ZV [_,_] func17 ntmps17 fun G w hp=>?_
   repeat' (first|refine ZH ?_|refine ZI ?_|refine ZK ?_|refine ZG ?_|refine ZM ?_|refine ZJ ?_|refine ZN ?_|refine ZP (fun b=>?_)|refine ZO (fun b=>?_)|refine ZA ?_|refine ZB ?_|refine ZL ?_|refine ZE (n1) (fun _ _=>?_)|refine l_call0 (n1) (fun _ _=>?_)|refine ZE (n2) (fun _ _=>?_)|refine l_call0 (n2) (fun _ _=>?_)|refine ZE (n3) (fun _ _=>?_)|refine l_call0 (n3) (fun _ _=>?_)|(refine ZC (fun hc=>?_) (fun hc=>?_)<;>(try simp at hc)<;>(try omega))|(refine ZF (fun hc=>?_) (fun hc=>?_)<;>(try simp at hc)<;>(try omega)))
   exact ZT () rfl trivial
  | true=>
   have eG:iget es cs bi=((idec (vget es cs (nnm bi)).1).getD Ino.z,if (idec (vget es cs (nnm bi)).1).isSome then 0 else 3):=by rw [iget,if_neg (by simp [h0]),hp];rfl
   rw [hp] at n3
   rw [eG]
   refine ZV [_,_] func17 ntmps17 fun G w hp=>?_
   repeat' (first|refine ZH ?_|refine ZI ?_|refine ZK ?_|refine ZG ?_|refine ZM ?_|refine ZJ ?_|refine ZN ?_|refine ZP (fun b=>?_)|refine ZO (fun b=>?_)|refine ZA ?_|refine ZB ?_|refine ZL ?_|refine ZE (n1) (fun _ _=>?_)|refine l_call0 (n1) (fun _ _=>?_)|refine ZE (n2) (fun _ _=>?_)|refine l_call0 (n2) (fun _ _=>?_)|refine ZE (n3) (fun _ _=>?_)|refine l_call0 (n3) (fun _ _=>?_)|refine ZE (n4) (fun _ _=>?_)|refine l_call0 (n4) (fun _ _=>?_)|(refine ZC (fun hc=>?_) (fun hc=>?_)<;>(try simp at hc)<;>(try omega))|(refine ZF (fun hc=>?_) (fun hc=>?_)<;>(try simp at hc)<;>(try omega)))
   exact ZT () rfl trivial
 ·have eR:igetR es rs cs bi=rs:=by rw [igetR,if_pos h0]
  have eG:iget es cs bi=(Ino.z,bchk bi):=by rw [iget,if_pos h0]
  rw [eR,eG]
  generalize bchk bi=e at *
  refine ZV [_,_] func17 ntmps17 fun G w hp=>?_
  repeat' (first|refine ZH ?_|refine ZI ?_|refine ZK ?_|refine ZG ?_|refine ZM ?_|refine ZJ ?_|refine ZN ?_|refine ZP (fun b=>?_)|refine ZO (fun b=>?_)|refine ZA ?_|refine ZB ?_|refine ZL ?_|refine ZE (n1) (fun _ _=>?_)|refine l_call0 (n1) (fun _ _=>?_)|(refine ZC (fun hc=>?_) (fun hc=>?_)<;>(try simp at hc)<;>(try omega))|(refine ZF (fun hc=>?_) (fun hc=>?_)<;>(try simp at hc)<;>(try omega)))
  exact ZT () rfl trivial
def ifile (es:Al) (cs:List Ch) (b:Bi):Ino×Int:=
 if (iget es cs b).2≠0 then (Ino.z,(iget es cs b).2) else if (iget es cs b).1.kd=2 then (Ino.z,15) else if (iget es cs b).1.kd=3 then (Ino.z,11) else ((iget es cs b).1,0)
set_option maxHeartbeats 1000000 in
theorem XH (b:Nat) (ps:Option Addr) (es:Al) (rs:List (Nm×Ch)) (cs:List Ch) (bi:Bi) (hw:bi.mkr.size≤1099511627770) (hv:(vget es cs (nnm bi)).1.size≤1099511627776) :
  Enters 105∧Spec prog 105 #[.pointer (some ⟨b,0,none⟩),bi.v] [St ps es,Usg] [Vw b ps rs cs] ⟨Unit,fun _=>.tuple #[(ifile es cs bi).1.v,.int .i64 (ifile es cs bi).2],fun _=>True,fun _=>[],fun _=>[Vw b ps (igetR es rs cs bi) cs]⟩:=by
 have n1:=Wu b ps es rs cs bi hw hv
 unfold ifile
 generalize iget es cs bi=g at *
 obtain ⟨nd,e⟩:=g
 dsimp only at n1 ⊢
 by_cases h0:e=0
 ·subst h0
  rw [if_neg (by simp)]
  by_cases h2:nd.kd=2
  ·rw [if_pos h2]
   refine ZV [_,_] func105 ntmps105 fun G w hp=>?_
   repeat' (first|refine ZH ?_|refine ZI ?_|refine ZK ?_|refine ZG ?_|refine ZM ?_|refine ZJ ?_|refine ZN ?_|refine ZP (fun b=>?_)|refine ZO (fun b=>?_)|refine ZA ?_|refine ZB ?_|refine ZL ?_|refine ZE (n1) (fun _ _=>?_)|refine l_call0 (n1) (fun _ _=>?_)|(refine ZC (fun hc=>?_) (fun hc=>?_)<;>(try simp at hc)<;>(try omega))|(refine ZF (fun hc=>?_) (fun hc=>?_)<;>(try simp at hc)<;>(try omega)))
   exact ZT () rfl trivial
  ·rw [if_neg h2]
   by_cases h3:nd.kd=3
   ·rw [if_pos h3]
    refine ZV [_,_] func105 ntmps105 fun G w hp=>?_
    repeat' (first|refine ZH ?_|refine ZI ?_|refine ZK ?_|refine ZG ?_|refine ZM ?_|refine ZJ ?_|refine ZN ?_|refine ZP (fun b=>?_)|refine ZO (fun b=>?_)|refine ZA ?_|refine ZB ?_|refine ZL ?_|refine ZE (n1) (fun _ _=>?_)|refine l_call0 (n1) (fun _ _=>?_)|(refine ZC (fun hc=>?_) (fun hc=>?_)<;>(try simp at hc)<;>(try omega))|(refine ZF (fun hc=>?_) (fun hc=>?_)<;>(try simp at hc)<;>(try omega)))
    exact ZT () rfl trivial
   ·rw [if_neg h3]
    refine ZV [_,_] func105 ntmps105 fun G w hp=>?_
    repeat' (first|refine ZH ?_|refine ZI ?_|refine ZK ?_|refine ZG ?_|refine ZM ?_|refine ZJ ?_|refine ZN ?_|refine ZP (fun b=>?_)|refine ZO (fun b=>?_)|refine ZA ?_|refine ZB ?_|refine ZL ?_|refine ZE (n1) (fun _ _=>?_)|refine l_call0 (n1) (fun _ _=>?_)|(refine ZC (fun hc=>?_) (fun hc=>?_)<;>(try simp at hc)<;>(try omega))|(refine ZF (fun hc=>?_) (fun hc=>?_)<;>(try simp at hc)<;>(try omega)))
    exact ZT () rfl trivial
 ·rw [if_pos h0]
  refine ZV [_,_] func105 ntmps105 fun G w hp=>?_
  repeat' (first|refine ZH ?_|refine ZI ?_|refine ZK ?_|refine ZG ?_|refine ZM ?_|refine ZJ ?_|refine ZN ?_|refine ZP (fun b=>?_)|refine ZO (fun b=>?_)|refine ZA ?_|refine ZB ?_|refine ZL ?_|refine ZE (n1) (fun _ _=>?_)|refine l_call0 (n1) (fun _ _=>?_)|(refine ZC (fun hc=>?_) (fun hc=>?_)<;>(try simp at hc)<;>(try omega))|(refine ZF (fun hc=>?_) (fun hc=>?_)<;>(try simp at hc)<;>(try omega)))
  exact ZT () rfl trivial
theorem UF (b:Nat) (ps:Option Addr) (rs:List (Nm×Ch)) (cs:List Ch) (bi:Bi) (nd:Ino) (h:ichk nd=0) (hw:bi.mkr.size≤1099511627776) (hl:cs.length≤1000000) :
  Enters 104∧Spec prog 104 #[.pointer (some ⟨b,0,none⟩),bi.v,nd.v] [Usg] [Vw b ps rs cs] ⟨Unit,fun _=>.int .i64 (vset cs (nnm bi) (iencS nd)).1,fun _=>True,fun _=>[],fun _=>[Vw b ps rs (vset cs (nnm bi) (iencS nd)).2]⟩:=by
 have n1:=inoEncode_ok nd h
 have n2:=ofNode_ok bi
 have n3:=WY b ps rs cs (nnm bi) (iencS nd) hw (Nat.zero_le _) hl
 refine ZV [_,_,_] func104 ntmps104 fun G w hp=>?_
 repeat' (first|refine ZH ?_|refine ZI ?_|refine ZK ?_|refine ZG ?_|refine ZM ?_|refine ZJ ?_|refine ZN ?_|refine ZP (fun b=>?_)|refine ZO (fun b=>?_)|refine ZA ?_|refine ZB ?_|refine ZL ?_|refine ZE (n1) (fun _ _=>?_)|refine l_call0 (n1) (fun _ _=>?_)|refine ZE (n2) (fun _ _=>?_)|refine l_call0 (n2) (fun _ _=>?_)|refine ZE (n3) (fun _ _=>?_)|refine l_call0 (n3) (fun _ _=>?_)|(refine ZC (fun hc=>?_) (fun hc=>?_)<;>(try simp at hc)<;>(try omega))|(refine ZF (fun hc=>?_) (fun hc=>?_)<;>(try simp at hc)<;>(try omega)))
 exact ZT () rfl trivial
theorem W9 (b:Nat) (ps:Option Addr) (rs:List (Nm×Ch)) (cs:List Ch) (bi:Bi) (nd:Ino) (z:Int) (h:ichk {nd with sz:=z}=0) (hw:bi.mkr.size≤1099511627776) (hl:cs.length≤1000000) :
  Enters 110∧Spec prog 110 #[.pointer (some ⟨b,0,none⟩),bi.v,nd.v,.int .i64 z] [Usg] [Vw b ps rs cs] ⟨Unit,fun _=>.int .i64 (vset cs (nnm bi) (iencS {nd with sz:=z})).1,fun _=>True,fun _=>[],fun _=>[Vw b ps rs (vset cs (nnm bi) (iencS {nd with sz:=z})).2]⟩:=by
 have n3:=UF b ps rs cs bi {nd with sz:=z} h hw hl
 refine ZV [_,_,_,_] func110 ntmps110 fun G w hp=>?_
 repeat' (first|refine ZH ?_|refine ZI ?_|refine ZK ?_|refine ZG ?_|refine ZM ?_|refine ZJ ?_|refine ZN ?_|refine ZP (fun b=>?_)|refine ZO (fun b=>?_)|refine ZA ?_|refine ZB ?_|refine ZL ?_|refine ZE (n3) (fun _ _=>?_)|refine l_call0 (n3) (fun _ _=>?_)|(refine ZC (fun hc=>?_) (fun hc=>?_)<;>(try simp at hc)<;>(try omega))|(refine ZF (fun hc=>?_) (fun hc=>?_)<;>(try simp at hc)<;>(try omega)))
 exact ZT () rfl trivial
def Yd (s:ByteArray):List UInt8:=cpy (List.replicate 64 0) 0 s 64
theorem YU (s:ByteArray):(Yd s).length=64:=by rw [Yd,Vh (by simp)];simp
set_option maxHeartbeats 1000000 in
theorem block_ok (b:Nat) (ps:Option Addr) (es:Al) (rs:List (Nm×Ch)) (cs:List Ch) (bi:Bi) (i:Int) (hw:bi.mkr.size≤1099511627770) :
  Enters 108∧Spec prog 108 #[.pointer (some ⟨b,0,none⟩),bi.v,.int .i64 i] [St ps es,Usg] [Vw b ps rs cs] ⟨Unit,fun _=>.tuple #[arv (Yd (vget es cs (bnm bi i)).1),.bool (vget es cs (bnm bi i)).2],fun _=>True,fun _=>[],fun _=>[Vw b ps (vread es rs cs (bnm bi i)) cs]⟩:=by
 have n2:=WI bi i
 have n3:=vwGet_ok b ps es rs cs (bnm bi i) hw (Nat.zero_le _)
 generalize b=bv at *
 refine ZV [_,_,_] func108 ntmps108 fun G w hp=>?_
 repeat' (first|refine ZH ?_|refine ZI ?_|refine ZK ?_|refine ZG ?_|refine ZM ?_|refine ZJ ?_|refine ZN ?_|refine ZP (fun b=>?_)|refine ZO (fun b=>?_)|refine ZA ?_|refine ZB ?_|refine ZL ?_|refine ZE (n2) (fun _ _=>?_)|refine l_call0 (n2) (fun _ _=>?_)|refine ZE (n3) (fun _ _=>?_)|refine l_call0 (n3) (fun _ _=>?_)|refine l_sla0 ?_|(refine ZC (fun hc=>?_) (fun hc=>?_)<;>(try simp at hc)<;>(try omega))|(refine ZF (fun hc=>?_) (fun hc=>?_)<;>(try simp at hc)<;>(try omega)))
 rename_i b6 _ _ _ _
 refine l_by (T:=215) (b:=b) (Lb:=List.replicate 64 0) rfl ?_
 refine l_by (T:=215) (b:=b6) (Lb:=List.replicate 64 0) rfl ?_
 refine l_copyS (T:=215) (off:=0) (dl:=64) (Lb:=List.replicate 64 0) ?_ (by simp)
 have hp:=YU (vget es cs (bnm bi i)).1
 unfold Yd at hp ⊢
 generalize cpy (List.replicate 64 0) 0 (vget es cs (bnm bi i)).1 64=P at *
 repeat' (first|refine ZH ?_|refine ZI ?_|refine ZK ?_|refine ZG ?_|refine ZM ?_|refine ZJ ?_|refine ZN ?_|refine ZP (fun b=>?_)|refine ZO (fun b=>?_)|refine ZA ?_|refine ZB ?_|refine ZL ?_|refine l_ldB (Lb:=P) ?_ hp.symm|refine l_stB (L0:=List.replicate 64 0) (Lb:=P) ?_ hp.symm (by simp [hp])|(refine ZC (fun hc=>?_) (fun hc=>?_)<;>(try simp at hc))|(refine ZF (fun hc=>?_) (fun hc=>?_)<;>(try simp at hc)))
 exact ZT () (vs:=[arv P,.bool (vget es cs (bnm bi i)).2]) rfl trivial (hr:=.cell rfl (show Sel (Pt b6 (.cells (byt P).toArray 215 (0,0))) _ _ from .here) (by rw [List.toList_toArray];exact ldv_arr rfl rfl hp.symm) (.tmp rfl .nil))
def cvs (c:Ct):ByteArray:=⟨(cenc c).toArray⟩
theorem Wd {c:Ct} (h:CtOK c):(cvs c).size≤30:=by
 have:=cenc_len h
 show (cenc c).toArray.size≤_
 rw [List.size_toArray];exact this
theorem W8 {who:ByteArray} (h:lvalid who.data.toList=true):nchk (cnm who)=0:=by
 have h2:isE ⟨#[]⟩=true:=by simp [isE]
 rw [nchk,if_pos (by simp [cnm])]
 show uchk ⟨_,true,false,false,false,0⟩ (cnm who)=0
 have h1:lvalid (cnm who).owner.data.toList=true:=h
 simp [uchk,h,h2,cnm]
theorem Zu {b:Bi} (h:bchk b=0):nchk (nnm b)=0:=by
 unfold bchk at h
 split at h
 ·cases h
 ·rename_i hv
  split at h
  ·rename_i hn
   have hv:lvalid b.mkr.data.toList=true:=by simpa using hv
   have h2:isE ⟨#[]⟩=true:=by simp [isE]
   rw [nchk,if_pos (by simp [nnm])]
   show uchk ⟨_,true,true,false,false,0⟩ (nnm b)=0
   simp [uchk,nnm,hv,h2,within,hn]
  ·cases h
theorem YP {b:Bi} {i:Int} (h:bchk b=0) (hi:0≤i∧i≤63):nchk (bnm b i)=0:=by
 unfold bchk at h
 split at h
 ·cases h
 ·rename_i hv
  split at h
  ·rename_i hn
   have hv:lvalid b.mkr.data.toList=true:=by simpa using hv
   have h2:isE ⟨#[]⟩=true:=by simp [isE]
   rw [nchk,if_pos (by simp [bnm])]
   show uchk ⟨_,true,true,true,false,63⟩ (bnm b i)=0
   simp [uchk,bnm,hv,h2,within,hn,hi]
  ·cases h
theorem enc_cdec {c:Ct} (h:CtOK c):cdec (cvs c)=some c:=by
 obtain ⟨h1,h2,h3,h4,h5,h6⟩:=h
 have e1:((c.b.toNat:Nat):Int)=c.b:=by omega
 have e2:((c.o.toNat:Nat):Int)=c.o:=by omega
 have e3:((c.c.toNat:Nat):Int)=c.c:=by omega
 unfold cdec cread cvs
 have r1:=Yl c.b.toNat (by omega) (venc c.o.toNat++venc c.c.toNat) 0 1048576 (by omega)
 have hl:cenc c=venc c.b.toNat++(venc c.o.toNat++venc c.c.toNat):=by simp [cenc]
 have r2:=Yl c.o.toNat (by omega) (venc c.c.toNat) (0+(venc c.b.toNat).length) 1048576 (by omega)
 have r3:=Yl c.c.toNat (by omega) [] (0+(venc c.b.toNat).length+(venc c.o.toNat).length) 1048576 (by omega)
 rw [List.append_nil] at r3
 simp only [hl,r1,r2,r3,e1,e2,e3]
 simp
theorem rnum_in (s:RS) (m:Int) (hm:0≤m):0≤(rnum s m).1∧(rnum s m).1≤m:=by
 unfold rnum rstep
 split
 ·exact ⟨Int.le_refl _,hm⟩
 ·split
  ·exact ⟨Int.le_refl _,hm⟩
  ·rename_i h
   simp only [ne_eq,Decidable.not_not] at h
   unfold pnum at h ⊢
   dsimp only at h ⊢
   refine ⟨Int.natCast_nonneg _,?_⟩
   split at h
   ·cases h
   ·rename_i h2
    rw [h] at h2
    simp at h2;omega
theorem cdec_ok {s:ByteArray} {c:Ct} (h:cdec s=some c):CtOK c:=by
 unfold cdec at h
 dsimp only at h
 split at h
 ·obtain rfl:=Option.some.inj h
  unfold cread
  dsimp only
  have h1:=rnum_in ⟨s.data.toList,0,0⟩ 1048576 (by decide)
  have h2:=rnum_in (rnum ⟨s.data.toList,0,0⟩ 1048576).2 1048576 (by decide)
  have h3:=rnum_in (rnum (rnum ⟨s.data.toList,0,0⟩ 1048576).2 1048576).2 1048576 (by decide)
  exact ⟨h1.1,h1.2,h2.1,h2.2,h3.1,h3.2⟩
 ·cases h
theorem made_fit {es:Al} {cs:List Ch} {who:ByteArray} (h:(madeE es cs who).2=0):lvalid who.data.toList=true∧CtOK (madeE es cs who).1:=by
 unfold madeE at h ⊢
 split at h
 ·rename_i hv
  rw [if_pos hv]
  refine ⟨hv,?_⟩
  split at h
  ·rename_i hp
   rw [if_pos hp]
   dsimp only at h ⊢
   cases hd:cdec (vget es cs (cnm who)).1 with
   | none=>rw [hd] at h;cases h
   | some c=>exact cdec_ok hd
  ·rename_i hp
   rw [if_neg hp]
   exact ⟨by decide,by decide,by decide,by decide,by decide,by decide⟩
 ·cases h
def nbE (es:Al) (cs:List Ch) (who:ByteArray):Bi×Int:=
 if (madeE es cs who).2≠0 then (Bi.z,(madeE es cs who).2) else if (madeE es cs who).1.b=1048576 then (Bi.z,9) else (⟨who,(madeE es cs who).1.b⟩,0)
def nbC (es:Al) (cs:List Ch) (who:ByteArray):List Ch:=
 if (nbE es cs who).2=0 then cs++[⟨cnm who,cvs {(madeE es cs who).1 with b:=(madeE es cs who).1.b+1},false⟩] else cs
set_option maxHeartbeats 2000000 in
theorem nextBirth_ok (b:Nat) (ps:Option Addr) (es:Al) (rs:List (Nm×Ch)) (cs:List Ch) (who:ByteArray) (hw:who.size≤1099511627770) (hv:(vget es cs (cnm who)).1.size≤1099511627776) (hl:cs.length≤1000000) :
  Enters 103∧Spec prog 103 #[.pointer (some ⟨b,0,none⟩),.string who] [St ps es,Usg] [Vw b ps rs cs] ⟨Unit,fun _=>.tuple #[(nbE es cs who).1.v,.int .i64 (nbE es cs who).2],fun _=>True,fun _=>[],fun _=>[Vw b ps (madeR es rs cs who) (nbC es cs who)]⟩:=by
 have n1:=made_ok b ps es rs cs who hw hv
 unfold nbC
 have hm:=fun h=>made_fit (es:=es) (cs:=cs) (who:=who) h
 unfold nbE
 generalize madeE es cs who=m at *
 obtain ⟨c,e⟩:=m
 dsimp only at *
 by_cases h0:e=0
 ·subst h0
  obtain ⟨hlv,hc⟩:=hm rfl
  rw [if_neg (by simp)]
  by_cases h1:c.b=1048576
  ·rw [if_pos h1]
   refine ZV [_,_] func103 ntmps103 fun G w hp=>?_
   repeat' (first|refine ZH ?_|refine ZI ?_|refine ZK ?_|refine ZG ?_|refine ZM ?_|refine ZJ ?_|refine ZN ?_|refine ZP (fun b=>?_)|refine ZO (fun b=>?_)|refine ZA ?_|refine ZB ?_|refine ZL ?_|refine ZE (n1) (fun _ _=>?_)|refine l_call0 (n1) (fun _ _=>?_)|(refine ZC (fun hc=>?_) (fun hc=>?_)<;>(try simp at hc)<;>(try omega))|(refine ZF (fun hc=>?_) (fun hc=>?_)<;>(try simp at hc)<;>(try omega)))
   exact ZT () rfl trivial
  ·rw [if_neg h1]
   have hc2:CtOK {c with b:=c.b+1}:=⟨by have:=hc.b0;show 0≤c.b+1;omega,by have:=hc.b1;show c.b+1≤_;omega,hc.o0,hc.o1,hc.c0,hc.c1⟩
   have n2:=setMade_ok b ps (madeR es rs cs who) cs who {c with b:=c.b+1} hw hlv hc2 hl
   have hcl:=cenc_len hc2
   have e9:vset cs (cnm who) ⟨(cenc {c with b:=c.b+1}).toArray⟩=(0,cs++[⟨cnm who,cvs {c with b:=c.b+1},false⟩]):=by
    unfold vset
    rw [if_neg (by simp [W8 hlv]),if_neg (by show ¬65536<(cenc {c with b:=c.b+1}).toArray.size;rw [List.size_toArray];omega)]
    rfl
   rw [e9] at n2
   have w1:IntKind.i64.wrap (c.b+1)=c.b+1:=by have:=hc.b0;have:=hc.b1;exact wrapi (by omega) (by omega)
   refine ZV [_,_] func103 ntmps103 fun G w hp=>?_
   repeat' (first|refine ZH ?_|refine ZI ?_|refine ZK ?_|refine ZG ?_|refine ZM ?_|refine ZJ ?_|refine ZN ?_|refine ZP (fun b=>?_)|refine ZO (fun b=>?_)|refine ZA ?_|refine ZB ?_|refine ZL ?_|refine ZE (n1) (fun _ _=>?_)|refine l_call0 (n1) (fun _ _=>?_)|refine ZE (n2) (fun _ _=>?_)|refine l_call0 (n2) (fun _ _=>?_)|rw [w1]|(refine ZC (fun hc=>?_) (fun hc=>?_)<;>(try simp at hc)<;>(try omega))|(refine ZF (fun hc=>?_) (fun hc=>?_)<;>(try simp at hc)<;>(try omega)))
   exact ZT () rfl trivial
 ·rw [if_pos h0]
  refine ZV [_,_] func103 ntmps103 fun G w hp=>?_
  repeat' (first|refine ZH ?_|refine ZI ?_|refine ZK ?_|refine ZG ?_|refine ZM ?_|refine ZJ ?_|refine ZN ?_|refine ZP (fun b=>?_)|refine ZO (fun b=>?_)|refine ZA ?_|refine ZB ?_|refine ZL ?_|refine ZE (n1) (fun _ _=>?_)|refine l_call0 (n1) (fun _ _=>?_)|(refine ZC (fun hc=>?_) (fun hc=>?_)<;>(try simp at hc)<;>(try omega))|(refine ZF (fun hc=>?_) (fun hc=>?_)<;>(try simp at hc)<;>(try omega)))
  rw [if_neg h0]
  exact ZT () rfl trivial
def mkE (es:Al) (cs:List Ch) (who:ByteArray) (nd:Ino):Bi×Int:=
 if ichk nd≠0 then (Bi.z,ichk nd) else if nd.sz≠0 then (Bi.z,2) else nbE es cs who
def mkC (es:Al) (cs:List Ch) (who:ByteArray) (nd:Ino):List Ch:=
 if (mkE es cs who nd).2=0 then nbC es cs who++[⟨nnm (mkE es cs who nd).1,iencS nd,false⟩] else cs
def mkR (es:Al) (rs:List (Nm×Ch)) (cs:List Ch) (who:ByteArray) (nd:Ino):List (Nm×Ch):=if ichk nd=0∧nd.sz=0 then madeR es rs cs who else rs
theorem nb_bchk {es:Al} {cs:List Ch} {who:ByteArray} (h:(nbE es cs who).2=0):bchk (nbE es cs who).1=0∧(nbE es cs who).1.mkr=who:=by
 unfold nbE at h ⊢
 split at h
 ·rename_i h1;exact absurd h h1
 ·rename_i h1
  rw [if_neg h1]
  split at h
  ·cases h
  ·rename_i h2
   rw [if_neg h2]
   obtain ⟨hv,hc⟩:=made_fit (by simpa using h1)
   have:=hc.b0
   have:=hc.b1
   refine ⟨?_,rfl⟩
   unfold bchk
   rw [if_neg (by simp [hv]),if_pos (by constructor<;>dsimp only<;>omega)]
theorem nb_z {es:Al} {cs:List Ch} {who:ByteArray} (h:(nbE es cs who).2≠0):(nbE es cs who).1=Bi.z:=by
 unfold nbE at h ⊢
 split
 ·rfl
 ·rename_i h1
  rw [if_neg h1] at h
  split
  ·rfl
  ·rename_i h2
   rw [if_neg h2] at h
   exact absurd rfl h
set_option maxHeartbeats 2000000 in
theorem make_ok (b:Nat) (ps:Option Addr) (es:Al) (rs:List (Nm×Ch)) (cs:List Ch) (who:ByteArray) (nd:Ino) (hw:who.size≤1099511627770) (hv:(vget es cs (cnm who)).1.size≤1099511627776) (hl:cs.length≤900000) :
  Enters 50∧Spec prog 50 #[.pointer (some ⟨b,0,none⟩),.string who,nd.v] [St ps es,Usg] [Vw b ps rs cs] ⟨Unit,fun _=>.tuple #[(mkE es cs who nd).1.v,.int .i64 (mkE es cs who nd).2],fun _=>True,fun _=>[],fun _=>[Vw b ps (mkR es rs cs who nd) (mkC es cs who nd)]⟩:=by
 have n1:=Xp nd
 have n2:=nextBirth_ok b ps es rs cs who hw hv (by omega)
 have hnb:=fun h=>nb_bchk (es:=es) (cs:=cs) (who:=who) h
 by_cases h0:ichk nd=0
 ·rw [h0] at n1
  by_cases h1:nd.sz=0
  ·have eE:mkE es cs who nd=nbE es cs who:=by rw [mkE,if_neg (by simp [h0]),if_neg (by simp [h1])]
   have eR:mkR es rs cs who nd=madeR es rs cs who:=by rw [mkR,if_pos ⟨h0,h1⟩]
   rw [mkC,eE,eR]
   have hle:(nbC es cs who).length≤cs.length+1:=by unfold nbC;split<;>simp
   have n3:=fun bi hb=>UF b ps (madeR es rs cs who) (nbC es cs who) bi nd h0 hb (by omega)
   by_cases h2:(nbE es cs who).2=0
   ·obtain ⟨g1,g2⟩:=hnb h2
    rw [if_pos h2]
    generalize nbC es cs who=cs' at *
    generalize nbE es cs who=m at *
    obtain ⟨bi,e⟩:=m
    dsimp only at *
    subst h2
    have n4:=n3 bi (by rw [g2];omega)
    have e9:vset cs' (nnm bi) (iencS nd)=(0,cs'++[⟨nnm bi,iencS nd,false⟩]):=by
     unfold vset
     have:=Zs nd
     rw [if_neg (by simp [Zu g1]),if_neg (by omega)]
    rw [e9] at n4
    refine ZV [_,_,_] func50 ntmps50 fun G w hp=>?_
    repeat' (first|refine ZH ?_|refine ZI ?_|refine ZK ?_|refine ZG ?_|refine ZM ?_|refine ZJ ?_|refine ZN ?_|refine ZP (fun b=>?_)|refine ZO (fun b=>?_)|refine ZA ?_|refine ZB ?_|refine ZL ?_|refine ZE (n1) (fun _ _=>?_)|refine l_call0 (n1) (fun _ _=>?_)|refine ZE (n2) (fun _ _=>?_)|refine l_call0 (n2) (fun _ _=>?_)|refine ZE (n4) (fun _ _=>?_)|refine l_call0 (n4) (fun _ _=>?_)|(refine ZC (fun hc=>?_) (fun hc=>?_)<;>(try simp at hc)<;>(try omega))|(refine ZF (fun hc=>?_) (fun hc=>?_)<;>(try simp at hc)<;>(try omega)))
    exact ZT () rfl trivial
   ·rw [if_neg h2]
    have hc:nbC es cs who=cs:=by rw [nbC,if_neg h2]
    rw [hc] at n2
    have hz:=nb_z h2
    generalize nbE es cs who=m at *
    obtain ⟨bi,e⟩:=m
    dsimp only at *
    subst hz
    refine ZV [_,_,_] func50 ntmps50 fun G w hp=>?_
    repeat' (first|refine ZH ?_|refine ZI ?_|refine ZK ?_|refine ZG ?_|refine ZM ?_|refine ZJ ?_|refine ZN ?_|refine ZP (fun b=>?_)|refine ZO (fun b=>?_)|refine ZA ?_|refine ZB ?_|refine ZL ?_|refine ZE (n1) (fun _ _=>?_)|refine l_call0 (n1) (fun _ _=>?_)|refine ZE (n2) (fun _ _=>?_)|refine l_call0 (n2) (fun _ _=>?_)|(refine ZC (fun hc=>?_) (fun hc=>?_)<;>(try simp at hc)<;>(try omega))|(refine ZF (fun hc=>?_) (fun hc=>?_)<;>(try simp at hc)<;>(try omega)))
    exact ZT () rfl trivial
  ·have eE:mkE es cs who nd=(Bi.z,2):=by rw [mkE,if_neg (by simp [h0]),if_pos h1]
   have eR:mkR es rs cs who nd=rs:=by rw [mkR,if_neg (fun h=>h1 h.2)]
   rw [mkC,eE,eR,if_neg (by decide)]
   refine ZV [_,_,_] func50 ntmps50 fun G w hp=>?_
   repeat' (first|refine ZH ?_|refine ZI ?_|refine ZK ?_|refine ZG ?_|refine ZM ?_|refine ZJ ?_|refine ZN ?_|refine ZP (fun b=>?_)|refine ZO (fun b=>?_)|refine ZA ?_|refine ZB ?_|refine ZL ?_|refine ZE (n1) (fun _ _=>?_)|refine l_call0 (n1) (fun _ _=>?_)|(refine ZC (fun hc=>?_) (fun hc=>?_)<;>(try simp at hc)<;>(try omega))|(refine ZF (fun hc=>?_) (fun hc=>?_)<;>(try simp at hc)<;>(try omega)))
   exact ZT () rfl trivial
 ·have eE:mkE es cs who nd=(Bi.z,ichk nd):=by rw [mkE,if_pos h0]
  have eR:mkR es rs cs who nd=rs:=by rw [mkR,if_neg (fun h=>h0 h.1)]
  rw [mkC,eE,eR,if_neg h0]
  generalize ichk nd=e at *
  refine ZV [_,_,_] func50 ntmps50 fun G w hp=>?_
  repeat' (first|refine ZH ?_|refine ZI ?_|refine ZK ?_|refine ZG ?_|refine ZM ?_|refine ZJ ?_|refine ZN ?_|refine ZP (fun b=>?_)|refine ZO (fun b=>?_)|refine ZA ?_|refine ZB ?_|refine ZL ?_|refine ZE (n1) (fun _ _=>?_)|refine l_call0 (n1) (fun _ _=>?_)|(refine ZC (fun hc=>?_) (fun hc=>?_)<;>(try simp at hc)<;>(try omega))|(refine ZF (fun hc=>?_) (fun hc=>?_)<;>(try simp at hc)<;>(try omega)))
  exact ZT () rfl trivial
structure Pp where
 bl:Nat
 fr:Nat
 to:Nat
def Pp.v (p:Pp):Value:=.agg #[.int .i64 (p.bl:Int),.int .i64 (p.fr:Int),.int .i64 (p.to:Int)]
def pts (a t:Nat):List Pp:=
 if a<t then ⟨a / 64,a - a / 64 * 64,min t (a / 64 * 64+64) - a / 64 * 64⟩::pts (min t (a / 64 * 64+64)) t else []
termination_by t - a
decreasing_by omega
theorem VI (b1 b2 f t:Nat) (hf:f≤1000000000) (ht:t≤1000000000):Iter 157 [.pointer (some ⟨b1,0,none⟩),.pointer (some ⟨b2,0,none⟩)] Pp.v (pts f t) [Blk b1 (.cells #[.int .i64 (f:Int)] 3),Blk b2 (.cells #[.int .i64 (t:Int)] 3)] []:=by
 intro v Y I Ix hy
 refine ZV [_,_,_] func157 ntmps157 fun G w hp=>?_
 repeat' (first|refine ZH ?_|refine ZI ?_|refine ZK ?_|refine ZG ?_|refine ZM ?_|refine ZJ ?_|refine ZN ?_|refine ZP (fun b=>?_)|refine ZO (fun b=>?_)|refine ZA ?_|refine ZB ?_|refine ZL ?_|(refine ZC (fun hc=>?_) (fun hc=>?_)<;>(try simp at hc))|(refine ZF (fun hc=>?_) (fun hc=>?_)<;>(try simp at hc)))
 refine YT (X:={q:Nat×List Pp // q.1≤1000000000∧q.2++pts q.1 t=pts f t}) (fun q=>[(0,v),(1,.pointer (some ⟨b1,0,none⟩)),(2,.pointer (some ⟨b2,0,none⟩)),(4,.int .i64 (q.1.1:Int))]) (fun _=>[Y,Blk b1 (.cells #[.int .i64 (f:Int)] 3),Blk b2 (.cells #[.int .i64 (t:Int)] 3)]) (fun q=>[I q.1.2]) (fun q=>t - q.1.1) ⟨(f,[]),hf,rfl⟩ ⟨rfl,rfl,rfl,rfl,trivial⟩ ?_
 rintro ⟨⟨a,pre⟩,ha,he⟩
 dsimp only at ha he ⊢
 by_cases hlt:a<t
 ·have d1:(a:Int).tdiv 64=((a / 64:Nat):Int):=by rw [Int.tdiv_eq_ediv_of_nonneg (Int.natCast_nonneg a)];exact (Int.natCast_ediv a 64).symm
  have w1:IntKind.i64.wrap ((a / 64:Nat):Int)=((a / 64:Nat):Int):=wrapi (by omega) (by omega)
  have w2:IntKind.i64.wrap (((a / 64:Nat):Int) * 64)=((a / 64 * 64:Nat):Int):=by rw [wrapi (by omega) (by omega)];omega
  have w3:IntKind.i64.wrap (((a / 64 * 64:Nat):Int)+64)=((a / 64 * 64+64:Nat):Int):=by rw [wrapi (by omega) (by omega)];omega
  have w4:(if ((a / 64 * 64+64:Nat):Int)<(t:Int) then ((a / 64 * 64+64:Nat):Int) else (t:Int))=((min t (a / 64 * 64+64):Nat):Int):=by split<;>omega
  have w5:IntKind.i64.wrap ((a:Int) - ((a / 64 * 64:Nat):Int))=((a - a / 64 * 64:Nat):Int):=by rw [wrapi (by omega) (by omega)];omega
  have w6:IntKind.i64.wrap (((min t (a / 64 * 64+64):Nat):Int) - ((a / 64 * 64:Nat):Int))=((min t (a / 64 * 64+64) - a / 64 * 64:Nat):Int):=by rw [wrapi (by omega) (by omega)];omega
  rw [pts,if_pos hlt] at he
  generalize hp:(⟨a / 64,a - a / 64 * 64,min t (a / 64 * 64+64) - a / 64 * 64⟩:Pp)=p at he
  have hpre:pre++[p] <+: pts f t:=⟨pts (min t (a / 64 * 64+64)) t,by rw [←he];simp⟩
  repeat' (first|refine ZH ?_|refine ZI ?_|refine ZK ?_|refine ZG ?_|refine ZM ?_|refine ZJ ?_|refine ZN ?_|refine ZP (fun b=>?_)|refine ZO (fun b=>?_)|refine ZA ?_|refine ZB ?_|rw [d1]|rw [w1]|rw [w2]|rw [w3]|rw [w4]|rw [w5]|rw [w6]|(refine ZC (fun hc=>?_) (fun hc=>?_)<;>(try simp at hc)<;>(try omega))|(refine ZF (fun hc=>?_) (fun hc=>?_)<;>(try simp at hc)<;>(try omega)))
  refine l_callV (vs:=[p.v]) (hy pre p hpre) (fun bb _=>?_) (hargs:=by rw [←hp];rfl)
  cases bb with
  | false=>
   repeat' (first|refine ZH ?_|refine ZI ?_|refine ZK ?_|refine ZG ?_|refine ZM ?_|refine ZJ ?_|refine ZN ?_|refine ZP (fun b=>?_)|refine ZO (fun b=>?_)|refine ZA ?_|refine ZB ?_|(refine ZC (fun hc=>?_) (fun hc=>?_)<;>(try simp at hc))|(refine ZF (fun hc=>?_) (fun hc=>?_)<;>(try simp at hc)))
   exact XE (XR (YZ (some (pre++[p])) rfl (fun q hq=>by cases hq;exact hpre)))
  | true=>
   repeat' (first|refine ZH ?_|refine ZI ?_|refine ZK ?_|refine ZG ?_|refine ZM ?_|refine ZJ ?_|refine ZN ?_|refine ZP (fun b=>?_)|refine ZO (fun b=>?_)|refine ZA ?_|refine ZB ?_|(refine ZC (fun hc=>?_) (fun hc=>?_)<;>(try simp at hc))|(refine ZF (fun hc=>?_) (fun hc=>?_)<;>(try simp at hc)))
   exact Zi ⟨(min t (a / 64 * 64+64),pre++[p]),by dsimp only;omega,by rw [←he];simp⟩ (by show t - min t (a / 64 * 64+64)<t - a;omega) ⟨rfl,rfl,rfl,rfl,trivial⟩
 ·rw [pts,if_neg hlt,List.append_nil] at he
  subst he
  repeat' (first|refine ZH ?_|refine ZI ?_|refine ZK ?_|refine ZG ?_|refine ZM ?_|refine ZJ ?_|refine ZN ?_|refine ZP (fun b=>?_)|refine ZO (fun b=>?_)|refine ZA ?_|refine ZB ?_|refine ZL ?_|(refine ZC (fun hc=>?_) (fun hc=>?_)<;>(try simp at hc)<;>(try omega))|(refine ZF (fun hc=>?_) (fun hc=>?_)<;>(try simp at hc)<;>(try omega)))
  exact Y8 none rfl (fun q hq=>by cases hq)
theorem partsF_ok (f t:Int):Enters 107∧Spec prog 107 #[.int .i64 f,.int .i64 t] [] []
  ⟨Nat×Nat,fun q=>.func (.func 157) #[] #[.pointer (some ⟨q.1,0,none⟩),.pointer (some ⟨q.2,0,none⟩)],fun _=>True,fun q=>[Blk q.1 (.cells #[.int .i64 f] 3),Blk q.2 (.cells #[.int .i64 t] 3)],fun _=>[]⟩:=by
 refine ZV [_,_] func107 ntmps107 fun G w hp=>?_
 repeat' (first|refine ZH ?_|refine ZI ?_|refine ZK ?_|refine ZG ?_|refine ZM ?_|refine ZJ ?_|refine ZN ?_|refine ZP (fun b=>?_)|refine ZO (fun b=>?_)|refine ZA ?_|refine ZB ?_|refine ZL ?_|(refine ZC (fun hc=>?_) (fun hc=>?_)<;>(try simp at hc))|(refine ZF (fun hc=>?_) (fun hc=>?_)<;>(try simp at hc)))
 rename_i b1
 refine k_fz (b:=b1) ?_
 refine k_fz (b:=b) ?_
 exact ZT (b1,b) rfl trivial
def wnew (es:Al) (cs:List Ch) (bi:Bi) (f:Nat) (s:ByteArray) (p:Pp):List UInt8:=
 cpy (if p.to - p.fr<64 then Yd (vget es cs (bnm bi p.bl)).1 else List.replicate 64 0) p.fr (s.extract (p.bl * 64+p.fr - f) s.size) (p.to - p.fr)
def wstep (es:Al) (bi:Bi) (f:Nat) (s:ByteArray) (q:List (Nm×Ch)×List Ch) (p:Pp):List (Nm×Ch)×List Ch:=
 (if p.to - p.fr<64 then vread es q.1 q.2 (bnm bi p.bl) else q.1,q.2++[⟨bnm bi p.bl,⟨(wnew es q.2 bi f s p).toArray⟩,false⟩])
def wfold (es:Al) (bi:Bi) (f:Nat) (s:ByteArray) (q:List (Nm×Ch)×List Ch) (l:List Pp):List (Nm×Ch)×List Ch:=l.foldl (wstep es bi f s) q
theorem wfold_snoc (es:Al) (bi:Bi) (f:Nat) (s:ByteArray) (q:List (Nm×Ch)×List Ch) (l:List Pp) (p:Pp):wfold es bi f s q (l++[p])=wstep es bi f s (wfold es bi f s q l) p:=by simp [wfold]
theorem X4 (es:Al) (bi:Bi) (f:Nat) (s:ByteArray):∀(l:List Pp) (q:List (Nm×Ch)×List Ch),(wfold es bi f s q l).2.length=q.2.length+l.length
 | [],q=>rfl
 | p::l,q=>by
  show (wfold es bi f s (wstep es bi f s q p) l).2.length=_
  rw [X4 es bi f s l]
  simp [wstep];omega
theorem Xn:∀(k a t:Nat),t - a≤k→∀p ∈ pts a t,a≤p.bl * 64+p.fr∧p.fr<p.to∧p.to≤64∧p.bl * 64+p.to≤t
 | 0,a,t,hk,p,hp=>by
  rw [pts,if_neg (by omega)] at hp
  cases hp
 | k+1,a,t,hk,p,hp=>by
  rw [pts] at hp
  split at hp
  ·rename_i hlt
   rcases List.mem_cons.1 hp with rfl|hp
   ·dsimp only;omega
   ·have:=Xn k (min t (a / 64 * 64+64)) t (by omega) p hp
    omega
  ·cases hp
theorem WC:∀(k a t:Nat),t - a≤k→(pts a t).length≤t - a
 | 0,a,t,hk=>by rw [pts,if_neg (by omega)];simp
 | k+1,a,t,hk=>by
  rw [pts]
  split
  ·have:=WC k (min t (a / 64 * 64+64)) t (by omega)
   simp only [List.length_cons];omega
  ·simp
theorem XG {nd:Ino} {z:Int} (h:ichk nd=0) (hk:nd.kd≠2) (hk3:nd.kd≠3) (hz:0≤z∧z≤4096):ichk {nd with sz:=z}=0:=by
 obtain ⟨h1,h2,h3⟩:=Yc h
 have hk1:nd.kd=1:=by omega
 unfold ichk at h ⊢
 unfold ifit at *
 dsimp only at *
 rw [if_neg (by omega),if_neg (by omega)] at h ⊢
 split at h
 ·cases h
 ·rename_i h4
  rw [if_neg (fun h5=>h4 (by rcases h5 with ⟨h5,_⟩|h5;exact absurd hk1 h5;exact .inr h5)),if_pos (by omega)]
theorem Wh {es:Al} {cs:List Ch} {bi:Bi} (h:(ifile es cs bi).2=0):bchk bi=0∧ichk (ifile es cs bi).1=0∧(ifile es cs bi).1.kd≠2∧(ifile es cs bi).1.kd≠3:=by
 unfold ifile at h ⊢
 split at h
 ·rename_i h1;exact absurd h h1
 ·rename_i h1
  rw [if_neg h1]
  split at h
  ·cases h
  ·rename_i h2
   rw [if_neg h2]
   split at h
   ·cases h
   ·rename_i h3
    rw [if_neg h3]
    simp only [ne_eq,Decidable.not_not] at h1
    unfold iget at h1 h2 h3 ⊢
    split at h1
    ·rename_i h4;exact absurd h1 h4
    ·rename_i h4
     rw [if_neg h4] at h2 h3 ⊢
     split at h1
     ·rename_i h5
      rw [if_pos h5] at h2 h3 ⊢
      dsimp only at h1 h2 h3 ⊢
      cases hd:idec (vget es cs (nnm bi)).1 with
      | none=>rw [hd] at h1;cases h1
      | some nd=>
       rw [hd] at h2 h3
       exact ⟨by simpa using h4,(idec_inv hd).1,h2,h3⟩
     ·cases h1
abbrev JWL (b:Nat) (ps:Option Addr) (q:List (Nm×Ch)×List Ch):List HP:=[Vw b ps q.1 q.2]
def JW (b:Nat) (ps:Option Addr) (es:Al) (bi:Bi) (f:Nat) (s:ByteArray) (q:List (Nm×Ch)×List Ch) (pre:List Pp):HP:=Vw b ps (wfold es bi f s q pre).1 (wfold es bi f s q pre).2
def iwE (es:Al) (cs:List Ch) (bi:Bi) (f:Int) (s:ByteArray):Int×Int:=
 if (ifile es cs bi).2≠0 then (0,(ifile es cs bi).2) else if f<0∨4096<f then (0,2) else if f=4096∧isE s=false then (0,26) else ((min s.size (4096 - f.toNat):Nat),0)
def iwQ (es:Al) (rs:List (Nm×Ch)) (cs:List Ch) (bi:Bi) (f:Nat) (s:ByteArray):List (Nm×Ch)×List Ch:=wfold es bi f s (igetR es rs cs bi,cs) (pts f (f+min s.size (4096 - f)))
def iwN (es:Al) (cs:List Ch) (bi:Bi) (f:Nat) (s:ByteArray):List Ch:=
 if 0<min s.size (4096 - f)∧(ifile es cs bi).1.sz<((f+min s.size (4096 - f):Nat):Int) then [⟨nnm bi,iencS {(ifile es cs bi).1 with sz:=((f+min s.size (4096 - f):Nat):Int)},false⟩] else []
set_option maxHeartbeats 4000000 in
theorem write_ok (b:Nat) (ps:Option Addr) (es:Al) (rs:List (Nm×Ch)) (cs:List Ch) (bi:Bi) (f:Nat) (s:ByteArray) (hw:bi.mkr.size≤1099511627770) (hv:(vget es cs (nnm bi)).1.size≤1099511627776) (hs:s.size≤1099511627776) (hl:cs.length≤900000)
  (h0:(ifile es cs bi).2=0) (hf:f≤4096) (hfe:f=4096→isE s=true) :
  Enters 51∧Spec prog 51 #[.pointer (some ⟨b,0,none⟩),bi.v,.int .i64 (f:Int),.string s] [St ps es,Usg] [Vw b ps rs cs]
   ⟨Unit,fun _=>.tuple #[.int .i64 ((min s.size (4096 - f):Nat):Int),.int .i64 0],fun _=>True,fun _=>[],fun _=>[Vw b ps (iwQ es rs cs bi f s).1 ((iwQ es rs cs bi f s).2++iwN es cs bi f s)]⟩:=by
 have n1:=XH b ps es rs cs bi hw hv
 obtain ⟨g1,g2,g3,g4⟩:=Wh h0
 have n2:=Z5 (f:Int) 4096
 rw [show (decide ((0:Int)≤(f:Int)) && decide ((f:Int)≤4096))=true by simp;omega] at n2
 have w1:IntKind.i64.wrap (4096 - (f:Int))=((4096 - f:Nat):Int):=by rw [wrapi (by omega) (by omega)];omega
 have w2:(if ((4096 - f:Nat):Int)<(s.size:Int) then ((4096 - f:Nat):Int) else (s.size:Int))=((min s.size (4096 - f):Nat):Int):=by split<;>omega
 unfold iwQ iwN
 rw [h0] at n1
 generalize (ifile es cs bi).1=nd at *
 generalize hc:min s.size (4096 - f)=cnt at *
 have w3:IntKind.i64.wrap ((f:Int)+(cnt:Int))=((f+cnt:Nat):Int):=by rw [wrapi (by omega) (by omega)];omega
 have n3:=partsF_ok (f:Int) ((f+cnt:Nat):Int)
 have hE:isE s=true→s.toList=[]:=fun h=>by rw [isE_eq] at h;rw [of_decide_eq_true h];simp [Zw]
 have hcn:cnt≤s.size∧cnt≤4096 - f:=by omega
 generalize b=bv at *
 refine ⟨enters_of func51 (by kernel_rfl) rfl,Wp (vs:=[_,_,_,_]) func51 rfl ntmps51 rfl fun G w hp=>?_⟩
 repeat' (first|refine ZH ?_|refine ZI ?_|refine ZK ?_|refine ZG ?_|refine ZM ?_|refine ZJ ?_|refine ZN ?_|refine ZP (fun b=>?_)|refine ZO (fun b=>?_)|refine ZA ?_|refine ZB ?_|refine ZL ?_|refine ZX ?_|refine ZY ?_|refine Zf ?_|refine Za ?_|refine Zb ?_|refine Zc (fun b=>?_)|refine Zd (fun b=>?_)|refine Ze ?_|refine ZZ ?_|refine ZE (n1) (fun _ _=>?_)|refine l_call0 (n1) (fun _ _=>?_)|refine ZS (n1) (fun _ _=>?_)|refine ZE (n2) (fun _ _=>?_)|refine l_call0 (n2) (fun _ _=>?_)|refine ZS (n2) (fun _ _=>?_)|refine ZE (n3) (fun _ _=>?_)|refine l_call0 (n3) (fun _ _=>?_)|refine ZS (n3) (fun _ _=>?_)|rw [w1]|rw [w2]|rw [w3]|(refine ZC (fun hc=>?_) (fun hc=>?_)<;>(try simp at hc)<;>(try omega))|(refine ZQ (fun hc=>?_) (fun hc=>?_)<;>(try simp at hc)<;>(try omega))|refine ZD 14 [] [(0,0),(1,0),(2,0),(3,0),(4,0),(5,0),(6,0),(7,0),(8,0),(9,0),(10,0),(11,0),(12,0),(13,0),(14,0),(15,4)] [] ?_|refine ZD 15 [] [(0,0),(1,0),(2,0),(3,0),(5,0),(6,0),(4,4),(7,4),(8,0)] [] ?_|(refine ZF (fun hc=>?_) (fun hc=>?_)<;>(try simp at hc)<;>(try omega)))
 ·rename_i hf4
  exact absurd (hE (hfe (by omega))) hc
 ·rename_i b4 b5 b6 b7 b8 b9 _ _ _ _ hc1 q _
  obtain ⟨p1,p2⟩:=q
  refine k_fz (b:=b4) ?_
  refine k_fz (b:=b5) ?_
  refine k_fz (b:=b6) ?_
  refine k_fz (b:=b7) ?_
  refine Vu (α:=Pp) (enc:=Pp.v) (xs:=pts f (f+cnt)) (fun pre=>Vw bv ps (wfold es bi f s (igetR es rs cs bi,cs) pre).1 (wfold es bi f s (igetR es rs cs bi,cs) pre).2) (fun _ _=>False) (VI p1 p2 f (f+cnt) (by omega) (by omega)) ?_ ?_ ?_
  ·intro lr l pre e hpre G w0 hp0
   exfalso
   have hpm:=Xn (f+cnt - f) f (f+cnt) (Nat.le_refl _) e (hpre.subset (by simp))
   omega
  ·intro D
   dsimp only
   have hql:(wfold es bi f s (igetR es rs cs bi,cs) (pts f (f+cnt))).2.length≤910000:=by
    rw [X4]
    have:=WC (f+cnt - f) f (f+cnt) (Nat.le_refl _)
    dsimp only;omega
   generalize wfold es bi f s (igetR es rs cs bi,cs) (pts f (f+cnt))=Q at *
   obtain ⟨rs',cs'⟩:=Q
   dsimp only at *
   have hg:¬(0<cnt∧nd.sz<((f+cnt:Nat):Int)):=by omega
   ·rw [if_neg hg,List.append_nil]
    repeat' (first|refine ZH ?_|refine ZI ?_|refine ZK ?_|refine ZG ?_|refine ZM ?_|refine ZJ ?_|refine ZN ?_|refine ZP (fun b=>?_)|refine ZO (fun b=>?_)|refine ZA ?_|refine ZB ?_|refine ZL ?_|refine ZX ?_|refine ZY ?_|refine Zf ?_|refine Za ?_|refine Zb ?_|refine Zc (fun b=>?_)|refine Zd (fun b=>?_)|refine Ze ?_|refine ZZ ?_|rw [w3]|(refine ZC (fun hc=>?_) (fun hc=>?_)<;>(try simp at hc)<;>(try omega))|(refine ZQ (fun hc=>?_) (fun hc=>?_)<;>(try simp at hc)<;>(try omega))|refine ZD 14 [] [(0,0),(1,0),(2,0),(3,0),(4,0),(5,0),(6,0),(7,0),(8,0),(9,0),(10,0),(11,0),(12,0),(13,0),(14,0),(15,4)] [] ?_|refine ZD 15 [] [(0,0),(1,0),(2,0),(3,0),(5,0),(6,0),(4,4),(7,4),(8,0)] [] ?_|(refine ZF (fun hc=>?_) (fun hc=>?_)<;>(try simp at hc)<;>(try omega)))
    all_goals exact VH () rfl trivial
  ·intro D pre hpre
   exact w_open (X:=Empty) (Lx:=fun _=>[]) (p:=fun _=>False) .here (fun h hh=>hh.elim) (fun q hq=>hq.elim)
 ·rename_i b4 b5 b6 b7 b8 b9 _ _ _ _ q _
  obtain ⟨p1,p2⟩:=q
  refine k_fz (b:=b4) ?_
  refine k_fz (b:=b5) ?_
  refine k_fz (b:=b6) ?_
  refine k_fz (b:=b7) ?_
  refine Vu (α:=Pp) (enc:=Pp.v) (xs:=pts f (f+cnt)) (fun pre=>Vw bv ps (wfold es bi f s (igetR es rs cs bi,cs) pre).1 (wfold es bi f s (igetR es rs cs bi,cs) pre).2) (fun _ _=>False) (VI p1 p2 f (f+cnt) (by omega) (by omega)) ?_ ?_ ?_
  ·intro lr l pre e hpre G w0 hp0
   dsimp only
   have hpm:=Xn (f+cnt - f) f (f+cnt) (Nat.le_refl _) e (hpre.subset (by simp))
   have hpl:pre.length≤4096:=by
    have h1:=hpre.length_le
    have h2:=WC (f+cnt - f) f (f+cnt) (Nat.le_refl _)
    simp only [List.length_append,List.length_singleton] at h1;omega
   have hsn:=wfold_snoc es bi f s (igetR es rs cs bi,cs) pre e
   have hql:(wfold es bi f s (igetR es rs cs bi,cs) pre).2.length≤910000:=by rw [X4];dsimp only;omega
   rw [hsn]
   generalize wfold es bi f s (igetR es rs cs bi,cs) pre=Q at *
   obtain ⟨rs',cs'⟩:=Q
   obtain ⟨bl,fr,to⟩:=e
   dsimp only at hpm hql ⊢
   have hb:=YP g1 (i:=(bl:Int)) (by omega)
   have m1:=block_ok bv ps es rs' cs' bi (bl:Int) hw
   have m2:=WI bi (bl:Int)
   have ws:IntKind.i64.wrap ((to:Int) - (fr:Int))=((to - fr:Nat):Int):=by rw [wrapi (by omega) (by omega)];omega
   have wa:IntKind.i64.wrap ((bl:Int) * 64)=((bl * 64:Nat):Int):=by rw [wrapi (by omega) (by omega)];omega
   have wb:IntKind.i64.wrap (((bl * 64:Nat):Int)+(fr:Int))=((bl * 64+fr:Nat):Int):=by rw [wrapi (by omega) (by omega)];omega
   have wc:IntKind.i64.wrap (((bl * 64+fr:Nat):Int) - (f:Int))=((bl * 64+fr - f:Nat):Int):=by rw [wrapi (by omega) (by omega)];omega
   by_cases hfull:to - fr<64
   ·have ho:=YU (vget es cs' (bnm bi (bl:Int))).1
    generalize hP:Yd (vget es cs' (bnm bi (bl:Int))).1=P at *
    have hwn:wnew es cs' bi f s ⟨bl,fr,to⟩=cpy (P) fr (s.extract (bl * 64+fr - f) s.size) (to - fr):=by unfold wnew;dsimp only;rw [if_pos hfull];rw [hP]
    have hnl:(cpy (P) fr (s.extract (bl * 64+fr - f) s.size) (to - fr)).length=64:=by rw [Vh (by simp [ho];omega)];simp [ho]
    have hst:wstep es bi f s (rs',cs') ⟨bl,fr,to⟩=(vread es rs' cs' (bnm bi (bl:Int)),cs'++[⟨bnm bi (bl:Int),⟨(cpy (P) fr (s.extract (bl * 64+fr - f) s.size) (to - fr)).toArray⟩,false⟩]):=by unfold wstep;rw [hwn];dsimp only;rw [if_pos hfull]
    rw [hst]
    have m3:=WY bv ps (vread es rs' cs' (bnm bi (bl:Int))) cs' (bnm bi (bl:Int)) ⟨(cpy (P) fr (s.extract (bl * 64+fr - f) s.size) (to - fr)).toArray⟩ (by show bi.mkr.size≤_;omega) (Nat.zero_le _) (by omega)
    have e9:vset cs' (bnm bi (bl:Int)) ⟨(cpy (P) fr (s.extract (bl * 64+fr - f) s.size) (to - fr)).toArray⟩=(0,cs'++[⟨bnm bi (bl:Int),⟨(cpy (P) fr (s.extract (bl * 64+fr - f) s.size) (to - fr)).toArray⟩,false⟩]):=by
     unfold vset
     rw [if_neg (by simp [hb]),if_neg (by show ¬65536<(List.toArray _).size;rw [List.size_toArray,hnl];omega)]
    rw [e9] at m3
    repeat' (first|refine ZH ?_|refine ZI ?_|refine ZK ?_|refine ZG ?_|refine ZM ?_|refine ZJ ?_|refine ZN ?_|refine ZP (fun b=>?_)|refine ZO (fun b=>?_)|refine ZA ?_|refine ZB ?_|refine ZL ?_|refine ZX ?_|refine ZY ?_|refine Zf ?_|refine Za ?_|refine Zb ?_|refine Zc (fun b=>?_)|refine Zd (fun b=>?_)|refine Ze ?_|refine ZZ ?_|refine ZE (m1) (fun _ _=>?_)|refine l_call0 (m1) (fun _ _=>?_)|refine ZS (m1) (fun _ _=>?_)|refine k_beg ?_|rw [ws]|(refine ZC (fun hc=>?_) (fun hc=>?_)<;>(try simp at hc)<;>(try omega))|(refine ZQ (fun hc=>?_) (fun hc=>?_)<;>(try simp at hc)<;>(try omega))|refine ZD 14 [By _ _ _] [(0,0),(1,0),(2,0),(3,0),(4,0),(5,0),(6,0),(7,0),(8,0),(9,0),(10,0),(11,0),(12,0),(13,0),(14,0),(15,4)] [] ?_|refine ZD 15 [Vw _ _ _ _] [(0,0),(1,0),(2,0),(3,0),(5,0),(6,0),(4,4),(7,4),(8,0)] [] ?_|(refine ZF (fun hc=>?_) (fun hc=>?_)<;>(try simp at hc)<;>(try omega)))
    refine l_by (T:=215) (b:=b) (Lb:=List.replicate 64 0) rfl ?_
    refine l_stB (L0:=List.replicate 64 0) (Lb:=P) ?_ ho.symm (by simp [ho])
    repeat' (first|refine ZH ?_|refine ZI ?_|refine ZK ?_|refine ZG ?_|refine ZM ?_|refine ZJ ?_|refine ZN ?_|refine ZP (fun b=>?_)|refine ZO (fun b=>?_)|refine ZA ?_|refine ZB ?_|refine ZL ?_|refine ZX ?_|refine ZY ?_|refine Zf ?_|refine Za ?_|refine Zb ?_|refine Zc (fun b=>?_)|refine Zd (fun b=>?_)|refine Ze ?_|refine ZZ ?_|refine ZE (m2) (fun _ _=>?_)|refine l_call0 (m2) (fun _ _=>?_)|refine ZS (m2) (fun _ _=>?_)|refine ZE (m3) (fun _ _=>?_)|refine l_call0 (m3) (fun _ _=>?_)|refine ZS (m3) (fun _ _=>?_)|rw [wa]|rw [wb]|rw [wc]|refine r_sla (m:=64) fr to (by omega) (by omega) ?_|refine r_send (s:=s) (bl * 64+fr - f) (by omega) ?_|refine r_copyS (off:=fr) (dl:=to - fr) (Lb:=P) ?_ (by simp [ho];omega)|refine r_sla0 ?_|refine r_b2sB (Lb:=cpy (P) fr (s.extract (bl * 64+fr - f) s.size) (to - fr)) ?_ hnl.symm|(refine ZC (fun hc=>?_) (fun hc=>?_)<;>(try simp at hc)<;>(try omega))|(refine ZQ (fun hc=>?_) (fun hc=>?_)<;>(try simp at hc)<;>(try omega))|refine ZD 14 [By _ _ _] [(0,0),(1,0),(2,0),(3,0),(4,0),(5,0),(6,0),(7,0),(8,0),(9,0),(10,0),(11,0),(12,0),(13,0),(14,0),(15,4)] [] ?_|refine ZD 15 [Vw _ _ _ _] [(0,0),(1,0),(2,0),(3,0),(5,0),(6,0),(4,4),(7,4),(8,0)] [] ?_|(refine ZF (fun hc=>?_) (fun hc=>?_)<;>(try simp at hc)<;>(try omega)))
    exact k_rn
   ·have hwn:wnew es cs' bi f s ⟨bl,fr,to⟩=cpy (List.replicate 64 0) fr (s.extract (bl * 64+fr - f) s.size) (to - fr):=by unfold wnew;dsimp only;rw [if_neg hfull]
    have hnl:(cpy (List.replicate 64 0) fr (s.extract (bl * 64+fr - f) s.size) (to - fr)).length=64:=by rw [Vh (by simp;omega)];simp
    have hst:wstep es bi f s (rs',cs') ⟨bl,fr,to⟩=(rs',cs'++[⟨bnm bi (bl:Int),⟨(cpy (List.replicate 64 0) fr (s.extract (bl * 64+fr - f) s.size) (to - fr)).toArray⟩,false⟩]):=by unfold wstep;rw [hwn];dsimp only;rw [if_neg hfull]
    rw [hst]
    have m3:=WY bv ps (rs') cs' (bnm bi (bl:Int)) ⟨(cpy (List.replicate 64 0) fr (s.extract (bl * 64+fr - f) s.size) (to - fr)).toArray⟩ (by show bi.mkr.size≤_;omega) (Nat.zero_le _) (by omega)
    have e9:vset cs' (bnm bi (bl:Int)) ⟨(cpy (List.replicate 64 0) fr (s.extract (bl * 64+fr - f) s.size) (to - fr)).toArray⟩=(0,cs'++[⟨bnm bi (bl:Int),⟨(cpy (List.replicate 64 0) fr (s.extract (bl * 64+fr - f) s.size) (to - fr)).toArray⟩,false⟩]):=by
     unfold vset
     rw [if_neg (by simp [hb]),if_neg (by show ¬65536<(List.toArray _).size;rw [List.size_toArray,hnl];omega)]
    rw [e9] at m3
    repeat' (first|refine ZH ?_|refine ZI ?_|refine ZK ?_|refine ZG ?_|refine ZM ?_|refine ZJ ?_|refine ZN ?_|refine ZP (fun b=>?_)|refine ZO (fun b=>?_)|refine ZA ?_|refine ZB ?_|refine ZL ?_|refine ZX ?_|refine ZY ?_|refine Zf ?_|refine Za ?_|refine Zb ?_|refine Zc (fun b=>?_)|refine Zd (fun b=>?_)|refine Ze ?_|refine ZZ ?_|refine ZE (m1) (fun _ _=>?_)|refine l_call0 (m1) (fun _ _=>?_)|refine ZS (m1) (fun _ _=>?_)|refine k_beg ?_|rw [ws]|(refine ZC (fun hc=>?_) (fun hc=>?_)<;>(try simp at hc)<;>(try omega))|(refine ZQ (fun hc=>?_) (fun hc=>?_)<;>(try simp at hc)<;>(try omega))|refine ZD 14 [By _ _ _] [(0,0),(1,0),(2,0),(3,0),(4,0),(5,0),(6,0),(7,0),(8,0),(9,0),(10,0),(11,0),(12,0),(13,0),(14,0),(15,4)] [] ?_|refine ZD 15 [Vw _ _ _ _] [(0,0),(1,0),(2,0),(3,0),(5,0),(6,0),(4,4),(7,4),(8,0)] [] ?_|(refine ZF (fun hc=>?_) (fun hc=>?_)<;>(try simp at hc)<;>(try omega)))
    refine k_by (T:=215) (b:=b) (Lb:=List.replicate 64 0) rfl ?_
    repeat' (first|refine ZH ?_|refine ZI ?_|refine ZK ?_|refine ZG ?_|refine ZM ?_|refine ZJ ?_|refine ZN ?_|refine ZP (fun b=>?_)|refine ZO (fun b=>?_)|refine ZA ?_|refine ZB ?_|refine ZL ?_|refine ZX ?_|refine ZY ?_|refine Zf ?_|refine Za ?_|refine Zb ?_|refine Zc (fun b=>?_)|refine Zd (fun b=>?_)|refine Ze ?_|refine ZZ ?_|refine ZE (m2) (fun _ _=>?_)|refine l_call0 (m2) (fun _ _=>?_)|refine ZS (m2) (fun _ _=>?_)|refine ZE (m3) (fun _ _=>?_)|refine l_call0 (m3) (fun _ _=>?_)|refine ZS (m3) (fun _ _=>?_)|rw [wa]|rw [wb]|rw [wc]|refine r_sla (m:=64) fr to (by omega) (by omega) ?_|refine r_send (s:=s) (bl * 64+fr - f) (by omega) ?_|refine r_copyS (off:=fr) (dl:=to - fr) (Lb:=List.replicate 64 0) ?_ (by simp;omega)|refine r_sla0 ?_|refine r_b2sB (Lb:=cpy (List.replicate 64 0) fr (s.extract (bl * 64+fr - f) s.size) (to - fr)) ?_ hnl.symm|(refine ZC (fun hc=>?_) (fun hc=>?_)<;>(try simp at hc)<;>(try omega))|(refine ZQ (fun hc=>?_) (fun hc=>?_)<;>(try simp at hc)<;>(try omega))|refine ZD 14 [By _ _ _] [(0,0),(1,0),(2,0),(3,0),(4,0),(5,0),(6,0),(7,0),(8,0),(9,0),(10,0),(11,0),(12,0),(13,0),(14,0),(15,4)] [] ?_|refine ZD 15 [Vw _ _ _ _] [(0,0),(1,0),(2,0),(3,0),(5,0),(6,0),(4,4),(7,4),(8,0)] [] ?_|(refine ZF (fun hc=>?_) (fun hc=>?_)<;>(try simp at hc)<;>(try omega)))
    exact k_rn
  ·intro D
   dsimp only
   have hql:(wfold es bi f s (igetR es rs cs bi,cs) (pts f (f+cnt))).2.length≤910000:=by
    rw [X4]
    have:=WC (f+cnt - f) f (f+cnt) (Nat.le_refl _)
    dsimp only;omega
   generalize wfold es bi f s (igetR es rs cs bi,cs) (pts f (f+cnt))=Q at *
   obtain ⟨rs',cs'⟩:=Q
   dsimp only at *
   by_cases hg:0<cnt∧nd.sz<((f+cnt:Nat):Int)
   ·rw [if_pos hg]
    have hck:=XG g2 g3 g4 (z:=((f+cnt:Nat):Int)) (by omega)
    have n5:=W9 bv ps rs' cs' bi nd ((f+cnt:Nat):Int) hck (by omega) (by omega)
    have e9:vset cs' (nnm bi) (iencS {nd with sz:=((f+cnt:Nat):Int)})=(0,cs'++[⟨nnm bi,iencS {nd with sz:=((f+cnt:Nat):Int)},false⟩]):=by
     unfold vset
     have:=Zs {nd with sz:=((f+cnt:Nat):Int)}
     rw [if_neg (by simp [Zu g1]),if_neg (by omega)]
    rw [e9] at n5
    repeat' (first|refine ZH ?_|refine ZI ?_|refine ZK ?_|refine ZG ?_|refine ZM ?_|refine ZJ ?_|refine ZN ?_|refine ZP (fun b=>?_)|refine ZO (fun b=>?_)|refine ZA ?_|refine ZB ?_|refine ZL ?_|refine ZX ?_|refine ZY ?_|refine Zf ?_|refine Za ?_|refine Zb ?_|refine Zc (fun b=>?_)|refine Zd (fun b=>?_)|refine Ze ?_|refine ZZ ?_|refine ZE (n5) (fun _ _=>?_)|refine l_call0 (n5) (fun _ _=>?_)|refine ZS (n5) (fun _ _=>?_)|rw [w3]|(refine ZC (fun hc=>?_) (fun hc=>?_)<;>(try simp at hc)<;>(try omega))|(refine ZQ (fun hc=>?_) (fun hc=>?_)<;>(try simp at hc)<;>(try omega))|refine ZD 14 [] [(0,0),(1,0),(2,0),(3,0),(4,0),(5,0),(6,0),(7,0),(8,0),(9,0),(10,0),(11,0),(12,0),(13,0),(14,0),(15,4)] [] ?_|refine ZD 15 [] [(0,0),(1,0),(2,0),(3,0),(5,0),(6,0),(4,4),(7,4),(8,0)] [] ?_|(refine ZF (fun hc=>?_) (fun hc=>?_)<;>(try simp at hc)<;>(try omega)))
    exact VH () rfl trivial
   ·rw [if_neg hg,List.append_nil]
    repeat' (first|refine ZH ?_|refine ZI ?_|refine ZK ?_|refine ZG ?_|refine ZM ?_|refine ZJ ?_|refine ZN ?_|refine ZP (fun b=>?_)|refine ZO (fun b=>?_)|refine ZA ?_|refine ZB ?_|refine ZL ?_|refine ZX ?_|refine ZY ?_|refine Zf ?_|refine Za ?_|refine Zb ?_|refine Zc (fun b=>?_)|refine Zd (fun b=>?_)|refine Ze ?_|refine ZZ ?_|rw [w3]|(refine ZC (fun hc=>?_) (fun hc=>?_)<;>(try simp at hc)<;>(try omega))|(refine ZQ (fun hc=>?_) (fun hc=>?_)<;>(try simp at hc)<;>(try omega))|refine ZD 14 [] [(0,0),(1,0),(2,0),(3,0),(4,0),(5,0),(6,0),(7,0),(8,0),(9,0),(10,0),(11,0),(12,0),(13,0),(14,0),(15,4)] [] ?_|refine ZD 15 [] [(0,0),(1,0),(2,0),(3,0),(5,0),(6,0),(4,4),(7,4),(8,0)] [] ?_|(refine ZF (fun hc=>?_) (fun hc=>?_)<;>(try simp at hc)<;>(try omega)))
    all_goals exact VH () rfl trivial
  ·intro D pre hpre
   exact w_open (X:=Empty) (Lx:=fun _=>[]) (p:=fun _=>False) .here (fun h hh=>hh.elim) (fun q hq=>hq.elim)
def insN (a:Nm):List Nm→List Nm
 | []=>[a]
 | b::l=>if cmpO a b<0 then a::b::l else if 0<cmpO a b then b::insN a l else a::l
theorem X8 (x:Nm×ByteArray) (l:Al) (k:Int):kn (x::l) k=if x.1.kind=k then x.1::kn l k else kn l k:=by
 unfold kn
 rw [List.filter_cons]
 by_cases h:x.1.kind=k
 ·simp [h]
 ·simp [h]
theorem kn_mem {es:Al} {k:Int} {a:Nm} (h:a ∈ kn es k):a.kind=k∧∃v,(a,v) ∈ es:=by
 unfold kn at h
 obtain ⟨x,hx,rfl⟩:=List.mem_map.1 h
 obtain ⟨h1,h2⟩:=List.mem_filter.1 hx
 exact ⟨by simpa using h2,x.2,h1⟩
theorem insN_head {a:Nm}:∀{l:List Nm},(∀x ∈ l,cmpO a x<0)→insN a l=a::l
 | [],_=>rfl
 | b::l,h=>by rw [insN,if_pos (h b (by simp))]
theorem kn_ins (a:Nm) (v:ByteArray) (k:Int):∀es:Al,Srt es→kn (insO a v es) k=if a.kind=k then insN a (kn es k) else kn es k
 | [],_=>by
  show kn [(a,v)] k=_
  rw [X8];rfl
 | (b,u)::l,hs=>by
  obtain ⟨h1,h2⟩:=List.pairwise_cons.1 hs
  have ih:=kn_ins a v k l h2
  rw [insO]
  by_cases hlt:cmpO a b<0
  ·rw [if_pos hlt,X8,X8]
   by_cases ha:a.kind=k
   ·rw [if_pos ha,if_pos ha]
    by_cases hb:b.kind=k
    ·simp only [hb,if_true];rw [insN,if_pos hlt]
    ·simp only [hb,if_false]
     rw [insN_head fun x hx=>YI hlt (by obtain ⟨_,w,hw⟩:=kn_mem hx;exact h1 _ hw)]
   ·rw [if_neg ha,if_neg ha]
  ·rw [if_neg hlt]
   by_cases he:0<cmpO a b
   ·rw [if_pos he,X8,X8,ih]
    by_cases ha:a.kind=k
    ·simp only [ha,if_true]
     by_cases hb:b.kind=k
     ·simp only [hb,if_true];rw [insN,if_neg hlt,if_pos he]
     ·simp only [hb,if_false]
    ·simp only [ha,if_false]
   ·rw [if_neg he,X8,X8]
    obtain rfl:=(Z8 a b).1 (by omega)
    by_cases ha:a.kind=k
    ·simp only [ha,if_true];rw [insN,if_neg hlt,if_neg he]
    ·simp only [ha,if_false]
theorem XV (n b:Nm) (u:ByteArray) (l:Al):getO n ((b,u)::l)=if cmpO n b=0 then some u else getO n l:=rfl
theorem Vi (n a:Nm) (v:ByteArray):∀es:Al,getO n (insO a v es)=if n=a then some v else getO n es
 | []=>by
  rw [insO,XV]
  by_cases h:n=a
  ·subst h;rw [if_pos ((Z8 n n).2 rfl),if_pos rfl]
  ·rw [if_neg (fun e=>h ((Z8 n a).1 e)),if_neg h]
 | (b,u)::l=>by
  have ih:=Vi n a v l
  rw [insO]
  by_cases hlt:cmpO a b<0
  ·rw [if_pos hlt,XV]
   by_cases h:n=a
   ·subst h;rw [if_pos ((Z8 n n).2 rfl),if_pos rfl]
   ·rw [if_neg (fun e=>h ((Z8 n a).1 e)),if_neg h]
  ·rw [if_neg hlt]
   by_cases he:0<cmpO a b
   ·rw [if_pos he,XV,XV,ih]
    by_cases hb:cmpO n b=0
    ·obtain rfl:=(Z8 n b).1 hb
     rw [if_pos hb,if_pos hb,if_neg (fun e=>by subst e;omega)]
    ·rw [if_neg hb,if_neg hb]
   ·rw [if_neg he]
    have he0:cmpO a b=0:=by omega
    obtain rfl:=(Z8 a b).1 he0
    rw [XV,XV]
    by_cases h:n=a
    ·subst h;rw [if_pos he0,if_pos rfl]
    ·rw [if_neg (fun e=>h ((Z8 n a).1 e)),if_neg h,if_neg (fun e=>h ((Z8 n a).1 e))]
theorem UQ (n:Nm):∀(l:List Ch) (es:Al),(l.map (·.nm)).Nodup→getO n (applyE es l)=match l.find? (fun c=>decide (c.nm=n)) with|some c=>some c.val|none=>getO n es
 | [],es,_=>rfl
 | c::l,es,h=>by
  simp only [List.map_cons,List.nodup_cons] at h
  show getO n (applyE (insO c.nm c.val es) l)=_
  rw [UQ n l _ h.2,List.find?_cons]
  by_cases hc:c.nm=n
  ·have hn:l.find? (fun c=>decide (c.nm=n))=none:=List.find?_eq_none.2 fun x hx=>by
    simp only [decide_eq_true_eq]
    intro e
    exact h.1 (List.mem_map.2 ⟨x,hx,e.trans hc.symm⟩)
   rw [hn]
   simp [hc,Vi]
  ·simp only [hc,decide_false]
   cases l.find? (fun c=>decide (c.nm=n)) with
   | some c'=>rfl
   | none=>dsimp only;rw [Vi,if_neg (fun e=>hc e.symm)]
theorem vwr_nodup (cs:List Ch):((vwr cs).map (·.nm)).Nodup:=by
 have h1:((vwr cs).map (·.nm)).Perm (((lastL cs).map (chAt cs)).map (·.nm)):=(Yb _).map _
 refine h1.nodup_iff.2 ?_
 have h2:((lastL cs).map (chAt cs)).map (·.nm)=(lastL cs).map (·.1):=by
  rw [List.map_map]
  refine List.map_congr_left fun p hp=>(XQ hp).2
 rw [h2]
 exact Yh cs
theorem vwr_mem {cs:List Ch} {c:Ch}:c ∈ vwr cs↔vcall cs c.nm=some c:=by
 rw [vwr,(Yb _).mem_iff,List.mem_map]
 constructor
 ·rintro ⟨p,hp,rfl⟩
  obtain ⟨h1,h2⟩:=XQ hp
  have h3:=(Vz (lastL cs) (Yh cs) p.1 p.2).2 hp
  obtain ⟨c,h4,h5⟩:=(XS p.1 cs).1 p.2 h3
  rw [h1] at h4
  rw [h2,h5,←h4]
 ·intro h
  cases hg:mget c.nm (lastL cs) with
  | none=>rw [(XS c.nm cs).2 hg] at h;cases h
  | some i=>
   obtain ⟨c',h1,h2⟩:=(XS c.nm cs).1 i hg
   rw [h] at h2
   obtain rfl:=Option.some.inj h2
   refine ⟨(c.nm,i),(Vz (lastL cs) (Yh cs) c.nm i).1 hg,?_⟩
   simp [chAt,h1]
theorem find_vwr (cs:List Ch) (n:Nm):(vwr cs).find? (fun c=>decide (c.nm=n))=vcall cs n:=by
 cases h:(vwr cs).find? (fun c=>decide (c.nm=n)) with
 | some c=>
  have h1:=List.mem_of_find?_eq_some h
  have h2:=List.find?_some h
  simp only [decide_eq_true_eq] at h2
  rw [←h2]
  exact (vwr_mem.1 h1).symm
 | none=>
  cases hc:vcall cs n with
  | none=>rfl
  | some c=>
   obtain ⟨h1,_⟩:=We hc
   have h2:c ∈ vwr cs:=vwr_mem.2 (by rw [h1];exact hc)
   have:=List.find?_eq_none.1 h c h2
   simp [h1] at this
theorem X5 (es:Al) (cs:List Ch) (n:Nm):getO n (applyE es (vwr cs))=match vcall cs n with|some c=>some c.val|none=>getO n es:=by
 rw [UQ n _ es (vwr_nodup cs),find_vwr]
def o1:ByteArray:=⟨#[49]⟩
theorem Vf:lvalid o1.data.toList=true:=by
 have h:=(W2 [49] 0 0 (by simp)).2.2.2
 rw [show ffirst (([49]:List UInt8).drop 0) 0 0=(⟨1,0,0⟩,1) from rfl] at h
 simp at h
 simp [o1,lvalid,lparts,h]
def nd0 (z:Int):Ino:=⟨1,0,0,0,z,1,⟨#[]⟩⟩
theorem nd0_chk {z:Int} (h:0≤z∧z≤4096):ichk (nd0 z)=0:=by
 have h1:isE ⟨#[]⟩=true:=by simp [isE]
 unfold ichk ifit nd0
 dsimp only
 rw [if_neg (by omega),if_neg (by omega),if_neg (by simp [h1]),if_pos (by decide)]
def b0:Bi:=⟨o1,0⟩
theorem Yq:bchk b0=0:=by
 unfold bchk
 rw [if_neg (by simp [b0,Vf]),if_pos (by simp [b0])]
def zer (n:Nat):ByteArray:=⟨(List.replicate n 0).toArray⟩
theorem Ya (n:Nat):(zer n).size=n:=by show (List.toArray _).size=n;simp
theorem XX (n:Nm):vget [] [] n=(⟨#[]⟩,false):=by
 unfold vget
 split
 ·rfl
 ·rfl
theorem made_o1:madeE [] [] o1=(Ct.z,0):=by rw [madeE,if_pos Vf,XX];rfl
theorem nb_o1:nbE [] [] o1=(b0,0):=by
 unfold nbE
 rw [made_o1,if_neg (by simp),if_neg (by decide)];rfl
theorem mk_o1:mkE [] [] o1 (nd0 0)=(b0,0):=by rw [mkE,if_neg (by simp [nd0_chk]),if_neg (by simp [nd0]),nb_o1]
def kc27:List Ch:=[⟨cnm o1,cvs ⟨1,0,0⟩,false⟩,⟨nnm b0,iencS (nd0 0),false⟩]
theorem mkC_o1:mkC [] [] o1 (nd0 0)=kc27:=by
 rw [mkC,mk_o1,if_pos rfl,nbC,nb_o1,if_pos rfl,made_o1];rfl
theorem Yi {es:Al} {cs:List Ch} {bi:Bi} {nd:Ino} (hb:bchk bi=0) (h1:(vget es cs (nnm bi))=(iencS nd,true)) (h2:ichk nd=0) (h3:nd.kd=1):iget es cs bi=(nd,0)∧ifile es cs bi=(nd,0):=by
 have h4:iget es cs bi=(nd,0):=by
  rw [iget,if_neg (by simp [hb]),h1,if_pos rfl]
  simp [idec_enc h2]
 refine ⟨h4,?_⟩
 unfold ifile
 rw [h4,if_neg (by simp),if_neg (by simp [h3]),if_neg (by simp [h3])]
theorem YJ {es:Al} {cs:List Ch} {n:Nm} {v:ByteArray} (hn:nchk n=0):vget es (cs++[⟨n,v,false⟩]) n=(v,true):=by
 unfold vget
 rw [if_neg (by simp [hn]),YN,if_pos rfl];rfl
theorem mset_len {α β:Type} [DecidableEq α] (a:α) (v:β):∀m:List (α×β),(mset a v m).length≤m.length+1
 | []=>by simp [mset]
 | (b,u)::m=>by
  unfold mset
  split
  ·simp
  ·have:=mset_len a v m
   simp only [List.length_cons];omega
theorem W7 (cs:List Ch):(lastL cs).length≤cs.length:=by
 refine Xf (P:=fun cs=>(lastL cs).length≤cs.length) (by simp [lastL,lastG]) (fun l a ih=>?_) cs
 rw [Xb]
 have:=mset_len a.nm l.length (lastL l)
 simp only [List.length_append,List.length_singleton];omega
theorem pts_100:pts 0 100=[⟨0,0,64⟩,⟨1,0,36⟩]:=by
 rw [pts,if_pos (by decide),pts,if_pos (by decide),pts,if_neg (by decide)]
 rfl
theorem pts_64:pts 64 128=[⟨1,0,64⟩]:=by
 rw [pts,if_pos (by decide),pts,if_neg (by decide)]
 rfl
theorem zeros_ok (n:Nat) (hn:n≤100000):Enters 52∧Spec prog 52 #[.int .i64 (n:Int)] [] [] (RetV (.string (zer n))):=by
 have hm:(if (n:Int)<0 then (0:Int) else (n:Int))=(n:Int):=by rw [if_neg (by omega)]
 refine ZV [_] func52 ntmps52 fun G w hp=>?_
 repeat' (first|refine ZH ?_|refine ZI ?_|refine ZK ?_|refine ZG ?_|refine ZM ?_|refine ZJ ?_|refine ZN ?_|refine ZP (fun b=>?_)|refine ZO (fun b=>?_)|refine ZA ?_|refine ZB ?_|refine ZL ?_|rw [hm]|refine l_mks bf (0:UInt8) n 1 (by omega) (by omega) (fun b6=>?_)|(refine ZC (fun hc=>?_) (fun hc=>?_)<;>(try simp at hc))|(refine ZF (fun hc=>?_) (fun hc=>?_)<;>(try simp at hc)))
 refine l_by (T:=5) (b:=b6) (cs:=((List.replicate n (0:UInt8)).flatMap bf).toArray) (Lb:=List.replicate n 0) (by rw [Xd]) ?_
 refine l_b2sB (m:=n) (Lb:=List.replicate n 0) ?_ (by simp)
 repeat' (first|refine ZH ?_|refine ZI ?_|refine ZK ?_|refine ZG ?_|refine ZM ?_|refine ZJ ?_|refine ZN ?_|refine ZP (fun b=>?_)|refine ZO (fun b=>?_)|refine ZA ?_|refine ZB ?_|refine ZL ?_|(refine ZC (fun hc=>?_) (fun hc=>?_)<;>(try simp at hc))|(refine ZF (fun hc=>?_) (fun hc=>?_)<;>(try simp at hc)))
 exact ZT () rfl trivial
theorem WB {c:Ch} (h1:nchk c.nm=0) (h2:c.val.size≤65536) (h3:c.abs=false) (h4:c.nm.owner.size≤1000) (h5:c.nm.text.size≤1000):FitC c:=⟨h1,h2,h3,by omega,by omega⟩
theorem X2 {es:Al} {cs:List Ch} {bi:Bi} {f:Nat} {s:ByteArray} {p:Pp} (h:p.fr+(p.to - p.fr)≤64):(wnew es cs bi f s p).length=64:=by
 unfold wnew
 split
 ·rw [Vh (by rw [YU];exact h),YU]
 ·rw [Vh (by simp;exact h)];simp
theorem eqBi (b:Bi):eqC eqS 20 68 b.v b.v=some true:=by
 rw [show eqC eqS 20 68 b.v b.v=some ((b.mkr.toList == b.mkr.toList) && ((b.nu == b.nu) && true)) from rfl]
 simp
def ks27 (rs:List (Nm×Ch)):List Ch:=(iwQ [] rs kc27 b0 0 (zer 100)).2++iwN [] kc27 b0 0 (zer 100)
theorem if27:iget [] kc27 b0=(nd0 0,0)∧ifile [] kc27 b0=(nd0 0,0):=Yi Yq (YJ (cs:=[⟨cnm o1,cvs ⟨1,0,0⟩,false⟩]) (Zu Yq)) (nd0_chk (by decide)) rfl
theorem ks27_eq (rs:List (Nm×Ch)):∃x y:ByteArray,x.size=64∧y.size=64∧ks27 rs=[⟨cnm o1,cvs ⟨1,0,0⟩,false⟩,⟨nnm b0,iencS (nd0 0),false⟩,⟨bnm b0 0,x,false⟩,⟨bnm b0 1,y,false⟩]++[⟨nnm b0,iencS (nd0 100),false⟩]:=by
 have hm:min (zer 100).size (4096 - 0)=100:=by rw [Ya];decide
 have h1:iwN [] kc27 b0 0 (zer 100)=[⟨nnm b0,iencS (nd0 100),false⟩]:=by
  unfold iwN
  rw [hm,if27.2,if_pos (by decide)];rfl
 have h2:∃x y:ByteArray,x.size=64∧y.size=64∧(iwQ [] rs kc27 b0 0 (zer 100)).2=kc27++[⟨bnm b0 0,x,false⟩]++[⟨bnm b0 1,y,false⟩]:=by
  unfold iwQ
  rw [hm,show (0:Nat)+100=100 from rfl,pts_100]
  refine ⟨_,_,?_,?_,rfl⟩
  ·show (List.toArray _).size=64
   rw [List.size_toArray,X2 (by decide)]
  ·show (List.toArray _).size=64
   rw [List.size_toArray,X2 (by decide)]
 obtain ⟨x,y,hx,hy,h3⟩:=h2
 exact ⟨x,y,hx,hy,by rw [ks27,h1,h3];rfl⟩
theorem ks27_fit (rs:List (Nm×Ch)):∀c ∈ ks27 rs,FitC c:=by
 obtain ⟨x,y,hx,hy,h⟩:=ks27_eq rs
 have c1:(cvs ⟨1,0,0⟩).size≤30:=Wd ⟨by decide,by decide,by decide,by decide,by decide,by decide⟩
 have c2:=Zs (nd0 0)
 have c3:=Zs (nd0 100)
 rw [h]
 intro c hc
 have ho:o1.size≤1000:=by decide
 simp only [List.cons_append,List.nil_append,List.mem_cons,List.not_mem_nil,or_false] at hc
 rcases hc with rfl|rfl|rfl|rfl|rfl
 ·exact WB (W8 Vf) (by dsimp only;omega) rfl ho (by decide)
 ·exact WB (Zu Yq) (by dsimp only;omega) rfl ho (by decide)
 ·exact WB (YP Yq (by decide)) (by dsimp only;omega) rfl ho (Nat.zero_le _)
 ·exact WB (YP Yq (by decide)) (by dsimp only;omega) rfl ho (Nat.zero_le _)
 ·exact WB (Zu Yq) (by dsimp only;omega) rfl ho (by decide)
theorem ks27_len (rs:List (Nm×Ch)):(lastL (ks27 rs)).length≤12:=by
 obtain ⟨x,y,hx,hy,h⟩:=ks27_eq rs
 refine Nat.le_trans (W7 _) ?_
 rw [h];simp
theorem get27 (rs:List (Nm×Ch)):vget (applyE [] (vwr (ks27 rs))) [] (nnm b0)=(iencS (nd0 100),true):=by
 have h1:getO (nnm b0) (applyE [] (vwr (ks27 rs)))=some (iencS (nd0 100)):=by
  rw [X5]
  obtain ⟨x,y,hx,hy,h⟩:=ks27_eq rs
  rw [h,YN,if_pos rfl]
 unfold vget
 rw [if_neg (by simp [Zu Yq])]
 show ((getO (nnm b0) (applyE [] (vwr (ks27 rs)))).getD ⟨#[]⟩,(getO (nnm b0) (applyE [] (vwr (ks27 rs)))).isSome)=_
 rw [h1];rfl
theorem second27 (es:Al) (hes:vget es [] (nnm b0)=(iencS (nd0 100),true)):∃(c:Ch) (x:ByteArray),c.nm=nnm b0∧x.size=64∧iwQ es [] [] b0 64 (zer 64)=([(nnm b0,c)],[⟨bnm b0 1,x,false⟩])∧iwN es [] b0 64 (zer 64)=[⟨nnm b0,iencS (nd0 128),false⟩]∧ifile es [] b0=(nd0 100,0):=by
 have hf:=Yi Yq hes (nd0_chk (by decide)) rfl
 have hm:min (zer 64).size (4096 - 64)=64:=by rw [Ya];decide
 have hR:∃c:Ch,c.nm=nnm b0∧igetR es [] [] b0=[(nnm b0,c)]:=by
  rw [igetR,if_neg (by simp [Yq]),vread,if_neg (by simp [Zu Yq])]
  exact ⟨_,rfl,rfl⟩
 obtain ⟨c,hc,hR⟩:=hR
 refine ⟨c,⟨(wnew es [] b0 64 (zer 64) ⟨1,0,64⟩).toArray⟩,hc,?_,?_,?_,hf.2⟩
 ·show (List.toArray _).size=64
  rw [List.size_toArray,X2 (by decide)]
 ·unfold iwQ
  rw [hm,show (64:Nat)+64=128 from rfl,pts_64,hR]
  rfl
 ·unfold iwN
  rw [hm,hf.2,if_pos (by decide)];rfl
set_option maxHeartbeats 4000000 in
theorem known27_ok:Enters 15∧Spec prog 15 #[] [Usg] [] (RetV (.bool true)):=by
 have ho:o1.size≤1000:=by decide
 have z1:∀n:Nm,(vget [] [] n).1.size≤1099511627776:=fun n=>by rw [XX];exact Nat.zero_le _
 have n1:=fun b ps=>make_ok b (some ⟨ps,0,none⟩) [] [] [] o1 (nd0 0) (by omega) (z1 _) (by simp)
 rw [mk_o1,mkC_o1] at n1
 have n2:=zeros_ok 100 (by omega)
 have hv1:(vget [] kc27 (nnm b0)).1.size≤1099511627776:=by
  rw [show kc27=[⟨cnm o1,cvs ⟨1,0,0⟩,false⟩]++[⟨nnm b0,iencS (nd0 0),false⟩] from rfl,YJ (Zu Yq)]
  have:=Zs (nd0 0)
  dsimp only;omega
 have n3:=fun b ps rs=>write_ok b (some ⟨ps,0,none⟩) [] rs kc27 b0 0 (zer 100) (by show o1.size≤_;omega) hv1 (by rw [Ya];omega) (by decide) (by rw [if27.2]) (by omega) (by omega)
 rw [show min (zer 100).size (4096 - 0)=100 by rw [Ya];decide] at n3
 have n4:=fun b ps rs rs'=>vwAfter_ok b ps [] rs' (ks27 rs) (Nat.le_trans (ks27_len rs) (by decide)) (ks27_fit rs) (by simp)
 have n5:=zeros_ok 64 (by omega)
 obtain ⟨c,x,hc,hx,hQ,hN,hF⟩:=second27 (applyE [] (vwr (ks27 (mkR [] [] [] o1 (nd0 0))))) (get27 _)
 have hg:=get27 (mkR [] [] [] o1 (nd0 0))
 have hFit:FitC ⟨nnm b0,iencS (nd0 128),false⟩:=WB (Zu Yq) (by have:=Zs (nd0 128);dsimp only;omega) rfl ho (by decide)
 generalize hes:applyE [] (vwr (ks27 (mkR [] [] [] o1 (nd0 0))))=es2 at *
 have hv2:(vget es2 [] (nnm b0)).1.size≤1099511627776:=by rw [hg];have:=Zs (nd0 100);dsimp only;omega
 have n6:=fun b ps=>write_ok b (some ⟨ps,0,none⟩) es2 [] [] b0 64 (zer 64) (by show o1.size≤_;omega) hv2 (by rw [Ya];omega) (by decide) (by rw [hF]) (by omega) (by omega)
 simp only [hQ,hN] at n6
 rw [show min (zer 64).size (4096 - 64)=64 by rw [Ya];decide] at n6
 have hl4:vget es2 ([⟨bnm b0 1,x,false⟩]++[⟨nnm b0,iencS (nd0 128),false⟩]) (nnm b0)=(iencS (nd0 128),true):=YJ (Zu Yq)
 have hi4:=Yi Yq hl4 (nd0_chk (by decide)) rfl
 have n7:=fun b ps=>Wu b (some ⟨ps,0,none⟩) es2 [(nnm b0,c)] ([⟨bnm b0 1,x,false⟩]++[⟨nnm b0,iencS (nd0 128),false⟩]) b0 (by show o1.size≤_;omega) (by rw [hl4];have:=Zs (nd0 128);dsimp only;omega)
 have hr4:igetR es2 [(nnm b0,c)] ([⟨bnm b0 1,x,false⟩]++[⟨nnm b0,iencS (nd0 128),false⟩]) b0=[(nnm b0,c)]:=by
  rw [igetR,if_neg (by simp [Yq]),vread,if_neg (by simp [Zu Yq]),YN,if_pos rfl]
 simp only [hi4.1,hr4] at n7
 have hrd:RdOK [(nnm b0,c)]:=⟨by simp,by simp [hc],by intro p hp;simp at hp;subst hp;show o1.size≤_;omega⟩
 have n8:=fun b ps=>vwReads_ok b (some ⟨ps,0,none⟩) [(nnm b0,c)] ([⟨bnm b0 1,x,false⟩]++[⟨nnm b0,iencS (nd0 128),false⟩]) hrd (by simp)
 have hvl:(vrd [(nnm b0,c)]).length=1:=by rw [vrd_len];rfl
 have hla:(lastL ([⟨bnm b0 1,x,false⟩]++[⟨nnm b0,iencS (nd0 128),false⟩])).length=2:=by
  have hne:nnm b0≠bnm b0 1:=by simp [nnm,bnm]
  rw [Xb]
  show (mset (nnm b0) 1 [(bnm b0 1,0)]).length=2
  simp [mset,hne]
 have n9:=fun b ps=>UX b (some ⟨ps,0,none⟩) [(nnm b0,c)] ([⟨bnm b0 1,x,false⟩]++[⟨nnm b0,iencS (nd0 128),false⟩]) (by rw [hla];decide) (fun y hy=>by
  simp only [List.cons_append,List.nil_append,List.mem_cons,List.not_mem_nil,or_false] at hy
  rcases hy with rfl|rfl<;>(show o1.size≤_;omega))
 have hwl:(vwr ([⟨bnm b0 1,x,false⟩]++[⟨nnm b0,iencS (nd0 128),false⟩])).length=2:=by rw [WG,hla]
 unfold WrPost at n9
 simp only [hvl] at n8
 simp only [hwl] at n9
 refine ZV [] func15 ntmps15 fun G w hp=>?_
 repeat' (first|refine l_seq (b:=true) ?_ (he:=eqBi _)|refine ZH ?_|refine ZI ?_|refine ZK ?_|refine ZG ?_|refine ZM ?_|refine ZJ ?_|refine ZN ?_|refine ZP (fun b=>?_)|refine ZO (fun b=>?_)|refine ZA ?_|refine ZB ?_|refine ZL ?_|refine ZX ?_|refine ZY ?_|refine Zf ?_|refine Za ?_|refine Zb ?_|refine Zc (fun b=>?_)|refine Zd (fun b=>?_)|refine Ze ?_|refine ZZ ?_|refine ZE (YK) (fun _ _=>?_)|refine l_call0 (YK) (fun _ _=>?_)|refine ZS (YK) (fun _ _=>?_)|refine ZE (Zx _) (fun _ _=>?_)|refine l_call0 (Zx _) (fun _ _=>?_)|refine ZS (Zx _) (fun _ _=>?_)|refine ZE (n1 _ _) (fun _ _=>?_)|refine l_call0 (n1 _ _) (fun _ _=>?_)|refine ZS (n1 _ _) (fun _ _=>?_)|refine ZE (n2) (fun _ _=>?_)|refine l_call0 (n2) (fun _ _=>?_)|refine ZS (n2) (fun _ _=>?_)|refine ZE (n3 _ _ _) (fun _ _=>?_)|refine l_call0 (n3 _ _ _) (fun _ _=>?_)|refine ZS (n3 _ _ _) (fun _ _=>?_)|refine ZE (n4 _ _ _ _) (fun _ _=>?_)|refine l_call0 (n4 _ _ _ _) (fun _ _=>?_)|refine ZS (n4 _ _ _ _) (fun _ _=>?_)|refine ZE (n5) (fun _ _=>?_)|refine l_call0 (n5) (fun _ _=>?_)|refine ZS (n5) (fun _ _=>?_)|refine ZE (n6 _ _) (fun _ _=>?_)|refine l_call0 (n6 _ _) (fun _ _=>?_)|refine ZS (n6 _ _) (fun _ _=>?_)|refine ZE (n7 _ _) (fun _ _=>?_)|refine l_call0 (n7 _ _) (fun _ _=>?_)|refine ZS (n7 _ _) (fun _ _=>?_)|refine ZE (n8 _ _) (fun _ _=>?_)|refine l_call0 (n8 _ _) (fun _ _=>?_)|refine ZS (n8 _ _) (fun _ _=>?_)|refine ZE (n9 _ _) (fun _ _=>?_)|refine l_call0 (n9 _ _) (fun _ _=>?_)|refine ZS (n9 _ _) (fun _ _=>?_)|rw [hes]|(refine ZC (fun hc=>?_) (fun hc=>?_)<;>(try simp at hc)<;>(try omega))|(refine ZQ (fun hc=>?_) (fun hc=>?_)<;>(try simp at hc)<;>(try omega))|refine ZD 3 [Vw _ _ _ _] [(0,0),(1,0),(2,4),(3,4),(4,0),(5,0),(6,0),(7,0),(8,0)] [] ?_|refine ZD 6 [Vw _ _ _ _] [(0,0),(1,0),(2,4),(3,4),(4,0),(5,0),(6,0),(7,0),(8,0)] [] ?_|(refine ZF (fun hc=>?_) (fun hc=>?_)<;>(try simp at hc)<;>(try omega)))
 refine ZT () ?_ trivial
 simp [RetV,resV,nd0]
section
def mk2:ByteArray:=⟨#[50,46,51]⟩
def mk3:ByteArray:=⟨#[]⟩
def Zh (k:Nat):ByteArray:=if k=0 then o1 else if k=1 then mk2 else mk3
theorem YX (k:Nat):lvalid (Zh k).data.toList=true:=by
 unfold Zh
 split
 ·exact Vf
 ·split
  ·have h:=(W2 [50,46,51] 0 0 (by simp)).2.2.2
   rw [show ffirst (([50,46,51]:List UInt8).drop 0) 0 0=(⟨2,0,0⟩,1) from rfl] at h
   have h2:=(W2 [50,46,51] 2 1 (by simp)).2.2.2
   rw [show ffirst (([50,46,51]:List UInt8).drop 2) 2 1=(⟨3,2,0⟩,3) from rfl] at h2
   simp at h h2
   simp [mk2,lvalid,lparts,h,h2]
  ·simp [mk3,lvalid,lparts]
theorem XF (k:Nat):(Zh k).size≤3:=by
 unfold Zh
 split
 ·decide
 ·split<;>decide
theorem VW {j k:Nat} (hj:j<3) (hk:k<3) (h:Zh j=Zh k):j=k:=by
 have h12:o1≠mk2:=by decide
 have h13:o1≠mk3:=by decide
 have h23:mk2≠mk3:=by decide
 have e0:Zh 0=o1:=rfl
 have e1:Zh 1=mk2:=rfl
 have e2:Zh 2=mk3:=rfl
 match j,k,hj,hk with
 | 0,0,_,_=>rfl
 | 0,1,_,_=>exact absurd h h12
 | 0,2,_,_=>exact absurd h h13
 | 1,0,_,_=>exact absurd h.symm h12
 | 1,1,_,_=>rfl
 | 1,2,_,_=>exact absurd h h23
 | 2,0,_,_=>exact absurd h.symm h13
 | 2,1,_,_=>exact absurd h.symm h23
 | 2,2,_,_=>rfl
def ndF:Ino:=⟨1,0,0,0,0,0,⟨#[]⟩⟩
structure BI (i:Nat) (cs:List Ch) (ns:List Int) (m:List (Bi×Bool)):Prop where
 len:ns.length=3
 cl:cs.length≤2 * i
 g:∀(k:Nat) (z:Int),ns[k]? = some z→0≤z∧z≤(i:Int)∧vget [] cs (cnm (Zh k))=if z=0 then (⟨#[]⟩,false) else (cvs ⟨z,0,0⟩,true)
 s:∀(b:Bi) (u:Bool),mget b m=some u→∃(k:Nat) (z:Int),ns[k]? = some z∧b.mkr=Zh k∧b.nu<z
theorem BI.init:BI 0 [] [0,0,0] []:=by
 refine ⟨rfl,by simp,fun k z h=>?_,fun b u h=>by cases h⟩
 have hz:z=0:=by
  match k,h with
  | 0,h=>exact (Option.some.inj h).symm
  | 1,h=>exact (Option.some.inj h).symm
  | 2,h=>exact (Option.some.inj h).symm
  | k+3,h=>cases h
 subst hz
 refine ⟨by omega,by omega,?_⟩
 rw [if_pos rfl,XX]
variable {cs:List Ch} {ns:List Int} {m:List (Bi×Bool)} {k:Nat} {z:Int}
theorem ct_ok {z:Int} (h0:0≤z) (h1:z≤1048576):CtOK ⟨z,0,0⟩:=⟨h0,h1,Int.le_refl 0,by show (0:Int)≤1048576;decide,Int.le_refl 0,by show (0:Int)≤1048576;decide⟩
theorem BI.made (h:BI i cs ns m) (hi:i≤1000) (hk:ns[k]? = some z):(vget [] cs (cnm (Zh k))).1.size≤1099511627776∧madeE [] cs (Zh k)=(⟨z,0,0⟩,0):=by
 obtain ⟨h1,h2,h3⟩:=h.g k z hk
 have hc:=ct_ok h1 (by omega)
 rw [madeE,if_pos (YX k),h3]
 by_cases h0:z=0
 ·subst h0
  rw [if_pos rfl]
  exact ⟨Nat.zero_le _,rfl⟩
 ·rw [if_neg h0]
  refine ⟨Nat.le_trans (Wd hc) (by omega),?_⟩
  simp only [if_true,enc_cdec hc]
  rfl
theorem BI.step {nd:Ino} (hnd:ichk nd=0) (hns:nd.sz=0) (h:BI i cs ns m) (hi:i≤1000) (hk:ns[k]? = some z):mkE [] cs (Zh k) nd=(⟨Zh k,z⟩,0)∧mkC [] cs (Zh k) nd=cs++[⟨cnm (Zh k),cvs ⟨z+1,0,0⟩,false⟩]++[⟨nnm ⟨Zh k,z⟩,iencS nd,false⟩]:=by
 obtain ⟨h1,h2,h3⟩:=h.g k z hk
 have hm:=(h.made hi hk).2
 have hn:nbE [] cs (Zh k)=(⟨Zh k,z⟩,0):=by
  unfold nbE
  rw [hm,if_neg (by simp),if_neg (by dsimp only;omega)]
 have he:mkE [] cs (Zh k) nd=(⟨Zh k,z⟩,0):=by rw [mkE,if_neg (by simp [hnd]),if_neg (by simp [hns]),hn]
 refine ⟨he,?_⟩
 rw [mkC,he,if_pos rfl,nbC,hn,if_pos rfl,hm]
theorem BI.fresh (h:BI i cs ns m) (hk:ns[k]? = some z) (hk3:k<3):mget ⟨Zh k,z⟩ m=none:=by
 cases hg:mget (⟨Zh k,z⟩:Bi) m with
 | none=>rfl
 | some u=>
  obtain ⟨j,y,hj,h1,h2⟩:=h.s _ _ hg
  have hj3:j<3:=by rw [←h.len];exact (List.getElem?_eq_some_iff.1 hj).1
  obtain rfl:=VW hk3 hj3 h1
  obtain rfl:=Option.some.inj (hk.symm.trans hj)
  exact absurd h2 (Int.lt_irrefl _)
theorem BI.next {nd:Ino} (hnd:ichk nd=0) (hns:nd.sz=0) (h:BI i cs ns m) (hi:i≤1000) (hk:ns[k]? = some z) (hk3:k<3) (u:Bool):BI (i+1) (mkC [] cs (Zh k) nd) (ns.set k (z+1)) (mset ⟨Zh k,z⟩ u m):=by
 obtain ⟨h1,h2,h3⟩:=h.g k z hk
 have hkl:k<ns.length:=by rw [h.len];exact hk3
 refine ⟨by simp [h.len],?_,fun j y hj=>?_,fun b v hb=>?_⟩
 ·rw [(BI.step hnd hns h hi hk).2]
  have:=h.cl
  simp;omega
 ·rw [(BI.step hnd hns h hi hk).2]
  have hj3:j<3:=by
   have:=(List.getElem?_eq_some_iff.1 hj).1
   rw [List.length_set,h.len] at this;exact this
  have hne:nnm ⟨Zh k,z⟩≠cnm (Zh j):=by simp [nnm,cnm]
  have hv:vget [] (cs++[⟨cnm (Zh k),cvs ⟨z+1,0,0⟩,false⟩]++[⟨nnm ⟨Zh k,z⟩,iencS nd,false⟩]) (cnm (Zh j))=vget [] (cs++[⟨cnm (Zh k),cvs ⟨z+1,0,0⟩,false⟩]) (cnm (Zh j)):=by
   unfold vget
   rw [YN,if_neg hne]
  rw [hv]
  by_cases hjk:k=j
  ·subst hjk
   rw [List.getElem?_set_self hkl] at hj
   obtain rfl:=Option.some.inj hj
   refine ⟨by omega,by omega,?_⟩
   rw [YJ (W8 (YX k)),if_neg (by omega)]
  ·rw [List.getElem?_set_ne hjk] at hj
   obtain ⟨g1,g2,g3⟩:=h.g j y hj
   refine ⟨g1,by omega,?_⟩
   rw [←g3]
   have hne2:cnm (Zh k)≠cnm (Zh j):=fun e=>hjk (VW hk3 hj3 (by simpa [cnm] using e))
   unfold vget
   rw [YN,if_neg hne2]
 ·rw [UG] at hb
  split at hb
  ·rename_i e
   subst e
   exact ⟨k,z+1,List.getElem?_set_self hkl,rfl,by show z<z+1;omega⟩
  ·obtain ⟨j,y,hj,g1,g2⟩:=h.s b v hb
   by_cases hjk:k=j
   ·subst hjk
    obtain rfl:=Option.some.inj (hk.symm.trans hj)
    exact ⟨k,z+1,List.getElem?_set_self hkl,g1,by omega⟩
   ·exact ⟨j,y,by rw [List.getElem?_set_ne hjk];exact hj,g1,g2⟩
end
set_option maxHeartbeats 4000000 in
theorem VG (n:Ino):Enters 68∧Spec prog 68 #[n.v] [] [] (RetV (.int .i64 (ichk n))):=by
 have hsz:n.tg.data.toList.length=n.tg.size:=by simp
 generalize hr:ichk n=r
 unfold ichk ifit tchk at hr
 have h3i:(¬((n.kd≠1∧n.sz≠0)∨(n.kd≠3∧isE n.tg=false)))↔(n.kd=1∨n.sz=0)∧(n.kd=3∨isE n.tg=true):=by
  cases isE n.tg<;>simp<;>omega
 refine ZV [_] func68 ntmps68 fun G w hp=>?_
 repeat' (first|refine ZH ?_|refine ZI ?_|refine ZK ?_|refine ZG ?_|refine ZM ?_|refine ZJ ?_|refine ZN ?_|refine ZP (fun b=>?_)|refine ZO (fun b=>?_)|refine ZA ?_|refine ZB ?_|refine ZL ?_|(refine ZC (fun hc=>?_) (fun hc=>?_)<;>(try simp at hc)<;>(try omega))|(refine ZF (fun hc=>?_) (fun hc=>?_)<;>(try simp at hc)<;>(try omega)))
 all_goals try (
  refine ZT () ?_ trivial
  refine congrArg (Value.int .i64) ?_
  first
  | (rw [←hr,if_pos (by omega)];done)
  | (rw [←hr,if_neg (by omega),if_pos (by omega)];done)
  | (rw [←hr,if_neg (by omega),if_neg (by omega),if_pos (.inl ⟨by omega,by omega⟩)];done)
  | (rw [←hr,if_neg (by omega),if_neg (by omega),if_pos (.inr ⟨by omega,by simpa [isE] using hc⟩)];done)
  | (rw [←hr,if_neg (by omega),if_neg (by omega),if_neg (by rintro (⟨h1,h2⟩|⟨h1,h2⟩)<;>first|omega|(simp [isE] at h2;simp_all)),if_pos (by omega)];done)
  | (rw [←hr,if_neg (by omega),if_neg (by omega),if_neg (by rintro (⟨h1,h2⟩|⟨h1,h2⟩)<;>first|omega|(simp [isE] at h2;simp_all)),if_neg (by omega),if_pos (by simpa [isE] using hc)];done)
  | (rw [←hr,if_neg (by omega),if_neg (by omega),if_neg (by rintro (⟨h1,h2⟩|⟨h1,h2⟩)<;>first|omega|(simp [isE] at h2;simp_all)),if_neg (by omega),if_neg (by simp_all [isE]),if_pos (by omega)];done))
 rename_i h1 h2 h3 h4
 have h4:isE n.tg=false:=by simpa [isE] using h4
 rw [if_neg (by omega),if_neg (by omega),if_neg (by rintro (⟨h1,h2⟩|⟨h1,h2⟩)<;>omega),if_neg (by omega),if_neg (by simp [h4]),if_neg (by omega)] at hr
 refine YT (X:={i:Nat // i≤n.tg.size∧∀j,j<i→∀c,n.tg.data.toList[j]? = some c→badt c=false}) (fun i=>[(1,.pointer (some ⟨b,0,none⟩)),(3,.int .i64 (i.1:Int))]) (fun _=>[]) (fun _=>[Pt b (.cells (inf n).toArray 64)]) (fun i=>n.tg.size - i.1) ⟨0,by omega,fun j hj=>by omega⟩ ⟨rfl,rfl,trivial⟩ ?_
 rintro ⟨i,hi1,hi2⟩
 dsimp only
 by_cases hlt:i<n.tg.data.toList.length
 ·obtain ⟨c,hcc⟩:∃c,n.tg.data.toList[i]? = some c:=⟨_,List.getElem?_eq_getElem hlt⟩
  have bad:badt c=true→r=6:=fun hb=>by
   rw [←hr,if_pos]
   rw [List.any_eq_true]
   exact ⟨c,List.mem_of_getElem? hcc,hb⟩
  repeat' (first|refine ZH ?_|refine ZI ?_|refine ZK ?_|refine ZG ?_|refine ZM ?_|refine ZJ ?_|refine ZN ?_|refine ZP (fun b=>?_)|refine ZO (fun b=>?_)|refine ZA ?_|refine ZB ?_|refine l_six (s:=n.tg) i c hcc ?_|(refine ZC (fun hc=>?_) (fun hc=>?_)<;>(try simp at hc)<;>(try omega))|(refine ZF (fun hc=>?_) (fun hc=>?_)<;>(try simp at hc)<;>(try omega)))
  all_goals try (
   have e:=bad (by simp [badt];omega)
   exact XE (XR (w_rv (congrArg (Value.int .i64) e) (YZ () rfl trivial))))
  rw [wrapi (z:=(i:Int)+1) (by omega) (by omega)]
  refine Zi ⟨i+1,by omega,fun j hj c' hc'=>?_⟩ (by show n.tg.size - (i+1)<n.tg.size - i;omega) ⟨rfl,rfl,trivial⟩
  by_cases hij:j=i
  ·subst hij
   obtain rfl:=Option.some.inj (hcc.symm.trans hc')
   simp [badt];omega
  ·exact hi2 j (by omega) c' hc'
 ·have e:¬(n.tg.data.toList.any badt=true):=by
   rw [List.any_eq_true]
   rintro ⟨c,hc,hb⟩
   obtain ⟨j,hj,rfl⟩:=List.mem_iff_getElem.1 hc
   rw [hi2 j (by omega) _ (List.getElem?_eq_getElem hj)] at hb
   cases hb
  rw [if_neg e] at hr
  subst hr
  repeat' (first|refine ZH ?_|refine ZI ?_|refine ZK ?_|refine ZG ?_|refine ZM ?_|refine ZJ ?_|refine ZN ?_|refine ZP (fun b=>?_)|refine ZO (fun b=>?_)|refine ZA ?_|refine ZB ?_|refine ZL ?_|(refine ZC (fun hc=>?_) (fun hc=>?_)<;>(try simp at hc)<;>(try omega))|(refine ZF (fun hc=>?_) (fun hc=>?_)<;>(try simp at hc)<;>(try omega)))
  exact ZT () rfl trivial
def En.w (e:En):Value:=.agg #[.string e.who,.int .i64 e.nu,.int .i64 e.tk,.int .i64 e.o.ch,.string e.o.tg,.string e.o.tx,.int .i64 e.o.us]
structure Idn where
 who:ByteArray
 nu:Int
 tk:Int
 deriving DecidableEq
def Idn.v (i:Idn):Value:=.agg #[.string i.who,.int .i64 i.nu,.int .i64 i.tk]
def En.id (e:En):Idn:=⟨e.who,e.nu,e.tk⟩
theorem beqSw (a b:ByteArray):(a.toList == b.toList)=decide (a=b):=by
 rw [Zw,Zw,Bool.eq_iff_iff]
 simp only [beq_iff_eq,decide_eq_true_eq]
 exact ⟨fun h=>WH h,fun h=>by rw [h]⟩
theorem beqIw (a b:Int):(a == b)=decide (a=b):=by rw [Bool.eq_iff_iff];simp
def cmpT (a b:En):Int:=cmpI a.tk b.tk
section
variable {n:Nat} {C:Cx} {Q:Exit→Act→World→Prop} {E E':List (Nat×Value)} {F F' F1 Fs F0:List Pf} {R R' R0 Rs N N' A:List HP} {k k':List Fr} {ops l:List Oper} {L L':List (Nat×Nat)} {Tl:List Nat} {i d:Nat} {t ty0:TypeId} {x y z:Operand} {pos:String} {aft:Array Edge} {gd:Option (Nat×Bool)} {α β:Type} [DecidableEq α] {K:α→Value} {V:β→Value}
end
theorem eqBi2 (a b:Bi):eqC eqS 20 68 a.v b.v=some (decide (a=b)):=by
 rw [show eqC eqS 20 68 a.v b.v=some ((a.mkr.toList == b.mkr.toList) && ((a.nu == b.nu) && true)) from rfl]
 congr 1
 obtain ⟨a1,a2⟩:=a
 obtain ⟨b1,b2⟩:=b
 simp only [beqSw,beqIw,Bi.mk.injEq]
 rw [Bool.eq_iff_iff];simp
def blv (u:Bool):Value:=.bool u
def svf (s:ByteArray):List Value:=[.string s]
theorem YL:Enters 61∧Spec prog 61 #[] [] []
  ⟨Nat,fun b=>.slice (some ⟨b,0,none⟩) 3 3,fun _=>True,fun _=>[],fun b=>[Ax 23 svf b [o1,mk2,mk3] ([],(0,0))]⟩:=by
 refine ZV [] func61 ntmps61 fun G w hp=>?_
 repeat' (first|refine ZH ?_|refine ZI ?_|refine ZK ?_|refine ZG ?_|refine ZM ?_|refine ZJ ?_|refine ZN ?_|refine ZP (fun b=>?_)|refine ZO (fun b=>?_)|refine ZA ?_|refine ZB ?_|refine ZL ?_|(refine ZC (fun hc=>?_) (fun hc=>?_)<;>(try simp at hc))|(refine ZF (fun hc=>?_) (fun hc=>?_)<;>(try simp at hc)))
 exact ZT b rfl trivial
theorem VC {j:Nat} (h:j<3):([o1,mk2,mk3]:List ByteArray)[j]? = some (Zh j):=by
 match j,h with
 | 0,_=>rfl
 | 1,_=>rfl
 | 2,_=>rfl
section
variable {n:Nat} {C:Cx} {Q:Exit→Act→World→Prop} {E E':List (Nat×Value)} {F F' F1 Fs F0:List Pf} {R R' R0 Rs N N' A:List HP} {k k':List Fr} {ops l:List Oper} {L L':List (Nat×Nat)} {Tl:List Nat} {i d:Nat} {t ty0:TypeId} {x y z:Operand} {pos:String} {aft:Array Edge} {gd:Option (Nat×Bool)} {α β:Type} [DecidableEq α] {K:α→Value} {V:β→Value}
theorem r_mkm {kt et:Nat} {rs:TRow} (_hk:KeyOK kt K) (V:β→Value) (nx:∀r,Wr n C ops k Q Tl Fs R L ((d,.map (some r))::E) F (Mp K V r []::N)) (ho:nth ops i=some ⟨some d,.makeMap t none,ty0,pos,aft,gd⟩:=by rfl) (hw:wantL ops E ⟨some d,.makeMap t none,ty0,pos,aft,gd⟩=some true:=by rfl) (_hts:lookT tab t=some rs:=by rfl) (_hrs:rs.k = .map kt et:=by rfl) :
  Wr n C ops k Q Tl Fs R ((i,4)::L) E F N:=
 Ye ho fun hp hr w st hz sb=>by
  simp only [Zq hw]
  refine ⟨⟨Nat,fun r=>.map (some r),fun _=>True,fun _=>F,fun r=>Mp K V r []::N⟩,fun a G w hp' ha hsub hsat=>?_,fun r _=>nx r hp hr w st hz sb⟩
  have h1:=hsat.alloc (.map #[] 0)
  exact ⟨w.heap.size,rfl,trivial,Vr (K:=K) (V:=V) (m:=[]) h1 rfl ⟨by simp,by simp⟩⟩
theorem l_mgetQ {kt et r:Nat} {rs te:TRow} {m:List (α×β)} {zv:Value} (hk:KeyOK kt K) (a:α) (o:Option β) (ho:mget a m=o) (nx:Wl n C ops.toArray k Q l ((d,(o.map V).getD zv)::E) F R) (hw:wantL ops E ⟨some d,.lookup t x y false,ty0,pos,aft,gd⟩=some true:=by rfl) (hn:Nat.blt d n=true:=by rfl)
  (hx:ev E x=some (.map (some r)):=by rfl) (hy:ev E y=some (K a):=by rfl) (hts:lookT tab t=some rs:=by rfl) (hrs:rs.k = .map kt et:=by rfl) (hte:lookT tab et=some te:=by rfl) (hzv:zval te=some zv:=by rfl)
  (hs:Sel (Mp K V r m) R R0:=by (repeat (first|exact Sel.here|apply Sel.there));first|done|fail):Wl n C ops.toArray k Q (⟨some d,.lookup t x y false,ty0,pos,aft,gd⟩::l) E F R:=by
 rw [←ho] at nx
 exact l_mget hk a nx hw hn hx hy hts hrs hte hzv hs
end
def Y2 (s:ByteArray):Value:=.string s
theorem beqBA (a b:ByteArray):(a == b)=decide (a=b):=by
 have h:(a == b)=(a.toList == b.toList):=by simp [beq_toListBytes]
 rw [h,beqSv]
theorem key_ln:KeyOK 23 Y2 where
 eq a b w:=by
  show (Op.equalIn (9999+1) _ (.string a) (.string b)).run prog w = .ok (decide (a=b)) w
  rw [Op.equalIn]
  simp [run_underlying underlying23,beqBA]
 chk a em w:=by
  show (Instr.checkKey em (9999+1) _ (.string a)).run prog w=_
  rw [Instr.checkKey]
  simp [run_underlying underlying23]
 bits a:=by simp [Y2,Instr.sameBits,beqBA]
 now:=⟨_,underlying23,fun a b=>by simp [Y2,Instr.sameNow,beqBA]⟩
theorem beqIq (a b:Int):(a == b)=decide (a=b):=by rw [Bool.eq_iff_iff];simp
def ziv (z:Int):Value:=.int .i64 z
theorem key_zi:KeyOK 3 ziv where
 eq a b w:=by
  show (Op.equalIn (9999+1) _ (.int .i64 a) (.int .i64 b)).run prog w = .ok (decide (a=b)) w
  rw [Op.equalIn]
  simp [run_underlying underlying3,beqIq]
 chk a em w:=by
  show (Instr.checkKey em (9999+1) _ (.int .i64 a)).run prog w=_
  rw [Instr.checkKey]
  simp [run_underlying underlying3]
 bits a:=by simp [ziv,Instr.sameBits]
 now:=⟨_,underlying3,fun a b=>by simp [ziv,Instr.sameNow,beqIq]⟩
def bcf (b:Bi):List Value:=[.string b.mkr,.int .i64 b.nu]
structure Fl where
 nd:Ino
 ct:ByteArray
 mr:Nat
def flf (f:Fl):List Value:=[.int .i64 f.nd.kd,.int .i64 f.nd.ow,.int .i64 f.nd.gr,.int .i64 f.nd.md,.int .i64 f.nd.sz,.int .i64 f.nd.lk,.string f.nd.tg,.string f.ct,.map (some f.mr)]
abbrev MdL (bm:Nat) (ob of:Option Addr) (cb cf rm:Nat) (bs:List Bi) (fs:List Fl) (m:List (ByteArray×Int)):List HP:=
 [Pt bm (.cells #[.slice ob bs.length cb,.slice of fs.length cf,.map (some rm)] 62),Row 68 2 ob bs.length cb (bs.flatMap bcf),Row 73 9 of fs.length cf (fs.flatMap flf),Mp Y2 ziv rm m]
def Mdl (bm:Nat) (bs:List Bi) (m:List (ByteArray×Int)):HP:=fun h=>∃q:Option Addr×Option Addr×Nat×Nat×Nat×List Fl,q.2.2.2.2.2.length≤1000+bs.length∧Sep (MdL bm q.1 q.2.1 q.2.2.1 q.2.2.2.1 q.2.2.2.2.1 bs q.2.2.2.2.2 m) h
def nds27:List Ino:=[⟨1,0,0,511,0,1,⟨#[]⟩⟩,⟨1,5,0,0,0,0,⟨#[]⟩⟩,⟨2,0,0,0,0,0,⟨#[]⟩⟩,⟨3,0,0,0,0,0,⟨#[97,47,98]⟩⟩]
def nd27 (i:Nat):Ino:=nds27.getD i ndF
def Y3 (i:Nat):Bi:=⟨Zh (i % 2),((i / 2:Nat):Int)⟩
def YD (i:Nat):List Bi:=(List.range i).map Y3
def ns27 (i:Nat):List Int:=[(((i+1) / 2:Nat):Int),((i / 2:Nat):Int),0]
def cs27:Nat→List Ch
 | 0=>[]
 | i+1=>cs27 i++[⟨cnm (Zh (i % 2)),cvs ⟨((i / 2:Nat):Int)+1,0,0⟩,false⟩]++[⟨nnm (Y3 i),iencS (nd27 i),false⟩]
def ms27:Nat→List (ByteArray×Int)
 | 0=>[]
 | i+1=>mset (Zh (i % 2)) (((i / 2:Nat):Int)+1) (ms27 i)
theorem nd27_ok {i:Nat} (h:i<4):nds27[i]? = some (nd27 i)∧ichk (nd27 i)=0∧(nd27 i).sz=0:=by
 have h1:isE ⟨#[]⟩=true:=by simp [isE]
 have h2:isE ⟨#[97,47,98]⟩=false:=by simp [isE,Zw]
 match i,h with
 | 0,_=>refine ⟨rfl,?_,rfl⟩;show ichk ⟨1,0,0,511,0,1,⟨#[]⟩⟩=0;unfold ichk ifit;dsimp only;rw [if_neg (by omega),if_neg (by omega),if_neg (by simp [h1]),if_pos (by decide)]
 | 1,_=>refine ⟨rfl,?_,rfl⟩;show ichk ⟨1,5,0,0,0,0,⟨#[]⟩⟩=0;unfold ichk ifit;dsimp only;rw [if_neg (by omega),if_neg (by omega),if_neg (by simp [h1]),if_pos (by decide)]
 | 2,_=>refine ⟨rfl,?_,rfl⟩;show ichk ⟨2,0,0,0,0,0,⟨#[]⟩⟩=0;unfold ichk ifit;dsimp only;rw [if_neg (by omega),if_neg (by omega),if_neg (by simp [h1]),if_pos (by decide)]
 | 3,_=>
  refine ⟨rfl,?_,rfl⟩
  show ichk ⟨3,0,0,0,0,0,⟨#[97,47,98]⟩⟩=0
  have h3:tchk ⟨#[97,47,98]⟩=0:=by
   unfold tchk
   rw [if_neg (by simp [h2]),if_neg (by decide),if_neg (by simp [badt])]
  unfold ichk ifit
  dsimp only
  rw [if_neg (by omega),if_neg (by omega),if_neg (by simp),if_neg (by decide),h3]
theorem ns27_ok {i:Nat} (h:i<4):(ns27 i)[i % 2]? = some ((i / 2:Nat):Int)∧(ns27 i).set (i % 2) (((i / 2:Nat):Int)+1)=ns27 (i+1)∧(mget (Zh (i % 2)) (ms27 i)).getD 0=((i / 2:Nat):Int):=by
 match i,h with
 | 0,_=>exact ⟨rfl,rfl,rfl⟩
 | 1,_=>exact ⟨rfl,rfl,by decide +kernel⟩
 | 2,_=>exact ⟨rfl,rfl,by decide +kernel⟩
 | 3,_=>exact ⟨rfl,rfl,by decide +kernel⟩
theorem bi27:∀i,i≤4→BI i (cs27 i) (ns27 i) []
 | 0,_=>BI.init
 | i+1,h=>by
  have ih:=bi27 i (by omega)
  obtain ⟨n1,n2,_⟩:=ns27_ok (i:=i) (by omega)
  obtain ⟨d1,d2,d3⟩:=nd27_ok (i:=i) (by omega)
  have hn:=BI.next d2 d3 ih (by omega) n1 (by omega) true
  rw [n2,(BI.step d2 d3 ih (by omega) n1).2] at hn
  exact ⟨hn.len,hn.cl,hn.g,fun b u hb=>by cases hb⟩
theorem cs27_len:(lastL (cs27 4)).length≤12:=Nat.le_trans (W7 _) (by simp [cs27])
theorem V9 (i:Nat) (h:i≤4):bchk (Y3 i)=0:=by
 unfold bchk Y3
 rw [if_neg (by simp [YX]),if_pos (by dsimp only;omega)]
theorem cs27_fit:∀i,i≤4→∀c ∈ cs27 i,FitC c
 | 0,_,c,hc=>by cases hc
 | i+1,h,c,hc=>by
  have hs:=XF (i % 2)
  have h1:=Wd (ct_ok (z:=((i / 2:Nat):Int)+1) (by omega) (by omega))
  have h2:=Zs (nd27 i)
  simp only [cs27,List.mem_append,List.mem_singleton] at hc
  rcases hc with (hc|rfl)|rfl
  ·exact cs27_fit i (by omega) c hc
  ·exact WB (W8 (YX _)) (by dsimp only;omega) rfl (by show (Zh (i % 2)).size≤_;omega) (Nat.zero_le _)
  ·exact WB (Zu (V9 i (by omega))) (by dsimp only;omega) rfl (by show (Zh (i % 2)).size≤_;omega) (Nat.zero_le _)
def es27:Al:=applyE [] (vwr (cs27 4))
theorem vcall27_n {i:Nat} (h:i<4):vcall (cs27 4) (nnm (Y3 i))=some ⟨nnm (Y3 i),iencS (nd27 i),false⟩:=by
 have hc:∀(a b:Bi),nnm a=nnm b↔a=b:=fun a b=>⟨fun h=>by obtain ⟨a1,a2⟩:=a;obtain ⟨b1,b2⟩:=b;simp [nnm] at h;simp [h],fun h=>by rw [h]⟩
 have hk:∀(w:ByteArray) (b:Bi),¬cnm w=nnm b:=fun w b=>by simp [cnm,nnm]
 simp only [cs27,YN,hc,hk,if_false]
 match i,h with
 | 0,_=>rw [if_neg (by decide),if_neg (by decide),if_neg (by decide),if_pos rfl]
 | 1,_=>rw [if_neg (by decide),if_neg (by decide),if_pos rfl]
 | 2,_=>rw [if_neg (by decide),if_pos rfl]
 | 3,_=>rw [if_pos rfl]
theorem vcall27_b (b:Bi) (k:Int):vcall (cs27 4) (bnm b k)=none:=by
 have h1:∀a,¬nnm a=bnm b k:=fun a=>by simp [bnm,nnm]
 have h2:∀w,¬cnm w=bnm b k:=fun w=>by simp [bnm,cnm]
 simp only [cs27,YN,h1,h2,if_false]
 rfl
theorem es27_n {i:Nat} (h:i<4):vget es27 [] (nnm (Y3 i))=(iencS (nd27 i),true):=by
 have h1:getO (nnm (Y3 i)) es27=some (iencS (nd27 i)):=by rw [es27,X5,vcall27_n h]
 unfold vget
 rw [if_neg (by simp [Zu (V9 i (by omega))])]
 show ((getO (nnm (Y3 i)) es27).getD ⟨#[]⟩,(getO (nnm (Y3 i)) es27).isSome)=_
 rw [h1];rfl
theorem es27_b (b:Bi) (k:Int):vget es27 [] (bnm b k)=(⟨#[]⟩,false):=by
 have h1:getO (bnm b k) es27=none:=by rw [es27,X5,vcall27_b];rfl
 unfold vget
 split
 ·rfl
 ·show ((getO (bnm b k) es27).getD ⟨#[]⟩,(getO (bnm b k) es27).isSome)=_
  rw [h1];rfl
theorem mk2_get {i:Nat}:([o1,mk2,mk3]:List ByteArray)[i % 2]? = some (Zh (i % 2)):=VC (by omega)
def St27:Post:=⟨Nat×Nat×Option Addr×Nat×Value×Value,fun q=>.tuple #[.pointer (some ⟨q.1,0,none⟩),.pointer (some ⟨q.2.1,0,none⟩),.bool true],fun _=>True,
 fun q=>[St (some ⟨q.1,0,none⟩) es27,Blk q.2.1 (.cells #[.slice q.2.2.1 4 q.2.2.2.1,q.2.2.2.2.1,q.2.2.2.2.2] 62),Sl 68 bcf q.2.2.1 q.2.2.2.1 (YD 4)],fun _=>[]⟩
theorem bsz (a:Array UInt8):(ByteArray.mk a).size=a.size:=rfl
section
variable {t2:TypeId}
theorem run_cat {a b:ByteArray} {ac:Act} {w:World} (h:a.size+b.size≤9223372036854775807) (ha:Agree n C.ds (look E) ac) (hx:ev E x=some (.string a)) (hy:ev E y=some (.string b)) :
  (execOp ac.eval ⟨some d,.binOp .add t x y t2,ty0,pos,aft,gd⟩).run prog w = .ok (.value (.string (a++b))) w:=by
 have h1:¬(((a.size+b.size:Nat):Int) > IntKind.i64.max):=by
  have:IntKind.i64.max=9223372036854775807:=by decide
  omega
 have hg:(eqGuard .add t x y (.string a) (.string b)).run prog w = .ok () w:=by simp [eqGuard]
 have hb:(binOp .add t (.string a) (.string b)).run prog w = .ok (.string (a++b)) w:=by
  simp only [binOp,Op.stringOp]
  rw [if_neg h1];rfl
 simp only [execOp,ha.ev (x:=x) (by rw [ZU];exact hx),ha.ev (x:=y) (by rw [ZU];exact hy),Sem.run_bind,hg,Result.andThen,hb,Sem.run_pure]
theorem l_cat {a b:ByteArray} (nx:Wl n C ops.toArray k Q l ((d,.string (a++b))::E) F R) (hw:wantL ops E ⟨some d,.binOp .add t x y t2,ty0,pos,aft,gd⟩=some true:=by rfl) (hn:Nat.blt d n=true:=by rfl)
  (hx:ev E x=some (.string a):=by rfl) (hy:ev E y=some (.string b):=by rfl) (h:a.size+b.size≤9223372036854775807:=by simp only [ByteArray.size_append,bsz,List.size_toArray,List.length_cons,List.length_nil,List.length_append]<;>omega) :
  Wl n C ops.toArray k Q (⟨some d,.binOp .add t x y t2,ty0,pos,aft,gd⟩::l) E F R:=
 l_q (fun _ _ ha=>run_cat h ha hx hy) nx (by intro c h;cases h) hw hn
theorem r_cat {a b:ByteArray} (nx:Wr n C ops k Q Tl Fs R L ((d,.string (a++b))::E) F N) (ho:nth ops i=some ⟨some d,.binOp .add t x y t2,ty0,pos,aft,gd⟩:=by rfl) (hw:wantL ops E ⟨some d,.binOp .add t x y t2,ty0,pos,aft,gd⟩=some true:=by rfl)
  (hx:ev E x=some (.string a):=by rfl) (hy:ev E y=some (.string b):=by rfl) (h:a.size+b.size≤9223372036854775807:=by simp only [ByteArray.size_append,bsz,List.size_toArray,List.length_cons,List.length_nil,List.length_append]<;>omega) :
  Wr n C ops k Q Tl Fs R ((i,0)::L) E F N:=
 r_q (fun _ _ ha=>run_cat h ha hx hy) nx ho hw
end
section
variable {n:Nat} {C:Cx} {Q:Exit→Act→World→Prop} {E E':List (Nat×Value)} {F F' F1 Fs F0:List Pf} {R R' R0 Rs N N' A:List HP} {k k':List Fr} {ops l:List Oper} {i d:Nat} {t ty0:TypeId} {x y z:Operand} {pos:String} {aft:Array Edge} {gd:Option (Nat×Bool)} {α β:Type} [DecidableEq α] {K:α→Value} {V:β→Value}
end
def En.v (e:En):Value:=.agg #[.string e.who,.int .i64 e.nu,.int .i64 e.tk,.int .i64 e.o.ch,.string e.o.tg,.string e.o.tx,.int .i64 e.o.us]
abbrev Sd:=ByteArray×Int
def sdv (s:Sd):Value:=.agg #[.string s.1,.int .i64 s.2]
def En.sd (e:En):Sd:=(e.who,e.nu)
def bv (b:Bool):Value:=.bool b
theorem Va {α β:Type} [DecidableEq α] (a:α) (v:β):∀(m:List (α×β)) (b:α),mget b (mset a v m)=if a=b then some v else mget b m
 | [],b=>by
  by_cases h:a=b
  ·subst h;simp [mset,mget]
  ·have:b≠a:=fun e=>h e.symm
   simp [mset,mget,h,this]
 | (c,u)::m,b=>by
  have ih:=Va a v m b
  unfold mset
  by_cases hac:a=c
  ·subst hac
   rw [if_pos rfl,mget,mget]
   by_cases hab:a=b
   ·subst hab;simp
   ·have:b≠a:=fun e=>hab e.symm
    simp [hab,this]
  ·rw [if_neg hac,mget,mget,ih]
   by_cases hab:a=b
   ·subst hab;simp [hac]
   ·simp [hab]
structure Cq where
 kind:Int
 who:ByteArray
 nu:Int
 place:Int
 old:Ou
 oldAt:Int
 new:Ou
 newAt:Int
 deriving DecidableEq
def cqf (c:Cq):List Value:=[.int .i64 c.kind,.string c.who,.int .i64 c.nu,.int .i64 c.place,.int .i64 c.old.ch,.string c.old.tg,.string c.old.tx,.int .i64 c.old.us,.int .i64 c.oldAt,.int .i64 c.new.ch,.string c.new.tg,.string c.new.tx,.int .i64 c.new.us,.int .i64 c.newAt]
def con1 (all:List En) (x:Lf) (p:Nat):Cq:=
 if x.e ∈ all then ⟨1,x.e.who,x.e.nu,p,x.e.o,x.e.tk,x.e.o,x.e.tk⟩
 else match all.find? fun y=>y.sd=x.e.sd with
  | some y=>⟨3,x.e.who,x.e.nu,p,x.e.o,x.e.tk,y.o,y.tk⟩
  | none=>⟨2,x.e.who,x.e.nu,p,x.e.o,x.e.tk,Ou.z,0⟩
def knw (all:List En) (x:Lf):List En:=
 (if x.e ∈ all then [] else match all.find? fun y=>y.sd=x.e.sd with|some y=>[y]|none=>[])++[x.e]
def cons1 (all:List En) (ls:List Lf):List Cq:=ls.mapIdx fun p x=>con1 all x p
def con2 (y:En):Cq:=⟨4,y.who,y.nu,-1,Ou.z,0,y.o,y.tk⟩
def cons2 (known:List En) (ys:List En):List Cq:=(ys.filter fun y=>decide (y ∉ known)).map con2
def consE (all:List En) (ls:List Lf):List Cq:=cons1 all ls++cons2 (ls.flatMap (knw all)) all
structure C1 (all:List En) where
 i:Nat
 m1:List (En×Bool)
 m2:List (Sd×En)
 hi:i≤all.length
 h1:∀e,mget e m1=if e ∈ all.take i then some true else none
 h2:∀s,mget s m2=(all.take i).find? fun y=>y.sd=s
structure C2 (all:List En) (ls:List Lf) where
 j:Nat
 o:Option Addr
 cap:Nat
 m3:List (En×Bool)
 hj:j≤ls.length
 h3:∀e,mget e m3=if e ∈ (ls.take j).flatMap (knw all) then some true else none
structure C3 (all:List En) where
 i:Nat
 o:Option Addr
 cap:Nat
 hi:i≤all.length
section
variable {v:Value}
theorem run_sslice {s:ByteArray} {z:Int} {rs:TRow} {w:World} (hi:Nat) (hle:hi≤s.size) (hts:lookT tab t=some rs) (hrs:rs.k = .str) (hz:z=(hi:Int)):(Instr.sliceAt t (.string s) none (some (.int .i64 z)) none).run prog w = .ok (.string (s.extract 0 hi)) w:=by
 subst hz
 have hu:=Yr (w:=w) hts hrs
 have hb:(Instr.sliceBound (.int .i64 (hi:Int)) s.size .sliceAlen).run prog w = .ok hi w:=by
  simp only [Instr.sliceBound,asIntOf,Sem.run_bind,Sem.run_pure,Result.andThen]
  rw [if_pos ⟨by omega,by omega⟩]
  simp
 simp [Instr.sliceAt,Instr.slice,Instr.sliceBounds,Sem.run_bind,hu,Result.andThen,hb]
end
structure It where
 who:UInt8
 nu:UInt8
 tk:UInt8
 ch:UInt8
 tx:ByteArray
def itf (x:It):List Value:=[.int .u8 x.who.toNat,.int .u8 x.nu.toNat,.int .u8 x.tk.toNat,.int .u8 x.ch.toNat,.string x.tx]
def It.v (x:It):Value:=.agg #[.int .u8 x.who.toNat,.int .u8 x.nu.toNat,.int .u8 x.tk.toNat,.int .u8 x.ch.toNat,.string x.tx]
def nm0:ByteArray:=⟨#[49]⟩
def nm1:ByteArray:=⟨#[49,46,50]⟩
def nm2:ByteArray:=⟨#[51]⟩
def who3 (j:Nat):ByteArray:=if j=0 then nm0 else if j=1 then nm1 else nm2
def ito (x:It):Ou:=⟨1+(x.ch.toNat % 4:Nat),⟨#[116]⟩,x.tx.extract 0 (min x.tx.size 20),5⟩
def itn (x:It):Nm:=⟨18,who3 (x.who.toNat % 3),(x.nu.toNat % 4:Nat),(x.tk.toNat % 8:Nat),⟨#[]⟩⟩
def itl (x:It) (p:Nat):Lf:=⟨⟨who3 (x.who.toNat % 3),(x.nu.toNat % 4:Nat),(x.tk.toNat % 8:Nat),ito x⟩,(9+p:Nat),(p / 5:Nat)⟩
def stF (es:Al) (l:List It):Al:=l.foldl (fun es x=>insO (itn x) (oencS (ito x)) es) es
def ldF (l:List It):List Lf:=l.mapIdx fun p x=>itl x p
structure B1 (now:List It) where
 i:Nat
 q:Option Addr
 es:Al
 h1:i≤now.length∧i≤20
 h2:es=stF [] (now.take i)
 h3:es.length≤i
structure B2 (left:List It) where
 i:Nat
 h1:i≤left.length∧i≤20
section
variable {b off:Nat} {v:Value}
theorem XZ {T sz m cap:Nat} {z:Int} {rs tr:TRow} (j:Nat) (hlt:j<m) (nx:Wl n C ops.toArray k Q l ((d,.pointer (some ⟨b,j * sz,none⟩))::E) F R)
  (hw:wantL ops E ⟨some d,.indexAddr t x y,ty0,pos,aft,gd⟩=some true:=by rfl) (hn:Nat.blt d n=true:=by rfl) (hx:ev E x=some (.slice (some ⟨b,0,none⟩) m cap):=by rfl) (hy:ev E y=some (.int .i64 z):=by rfl)
  (hts:lookT tab t=some rs:=by rfl) (hrs:rs.k = .slice T:=by rfl) (hT:lookT tab T=some tr:=by rfl) (hsz:tr.size=sz:=by rfl) (hz:z=(j:Int):=by first|rfl|omega):Wl n C ops.toArray k Q (⟨some d,.indexAddr t x y,ty0,pos,aft,gd⟩::l) E F R:=
 l_q (fun a w ha=>by
  have hr1:=XN (o:=some ⟨b,0,none⟩) (m:=m) (cap:=cap) (w:=w) hts hrs hT hsz hz hlt (p:=⟨b,j * sz,none⟩) (by simp [Yw rfl])
  simp only [execOp,ha.ev (x:=x) (by rw [ZU];exact hx),ha.ev (x:=y) (by rw [ZU];exact hy),Sem.run_bind,Result.andThen,hr1,Sem.run_pure]) nx (by intro c h;cases h) hw hn
theorem l_sHi {s:ByteArray} {z:Int} {rs:TRow} (hi:Nat) (hle:hi≤s.size) (nx:Wl n C ops.toArray k Q l ((d,.string (s.extract 0 hi))::E) F R)
  (hw:wantL ops E ⟨some d,.slice t x none (some y) none,ty0,pos,aft,gd⟩=some true:=by rfl) (hn:Nat.blt d n=true:=by rfl) (hx:ev E x=some (.string s):=by rfl) (hy:ev E y=some (.int .i64 z):=by rfl)
  (hts:lookT tab t=some rs:=by rfl) (hrs:rs.k = .str:=by rfl) (hz:z=(hi:Int):=by first|rfl|omega):Wl n C ops.toArray k Q (⟨some d,.slice t x none (some y) none,ty0,pos,aft,gd⟩::l) E F R:=
 l_q (fun a w ha=>by
  simp only [execOp,Option.map_some,Option.map_none,ha.ev (x:=x) (by rw [ZU];exact hx),ha.ev (x:=y) (by rw [ZU];exact hy),Sem.run_bind,run_sslice (w:=w) hi hle hts hrs hz,Result.andThen,Sem.run_pure]) nx (by intro c h;cases h) hw hn
theorem r_sHi {s:ByteArray} {z:Int} {rs:TRow} (hi:Nat) (hle:hi≤s.size) (nx:Wr n C ops k Q Tl Fs R L ((d,.string (s.extract 0 hi))::E) F N)
  (ho:nth ops i=some ⟨some d,.slice t x none (some y) none,ty0,pos,aft,gd⟩:=by rfl) (hw:wantL ops E ⟨some d,.slice t x none (some y) none,ty0,pos,aft,gd⟩=some true:=by rfl) (hx:ev E x=some (.string s):=by rfl) (hy:ev E y=some (.int .i64 z):=by rfl)
  (hts:lookT tab t=some rs:=by rfl) (hrs:rs.k = .str:=by rfl) (hz:z=(hi:Int):=by first|rfl|omega):Wr n C ops k Q Tl Fs R ((i,0)::L) E F N:=
 r_q (fun a w ha=>by
  simp only [execOp,Option.map_some,Option.map_none,ha.ev (x:=x) (by rw [ZU];exact hx),ha.ev (x:=y) (by rw [ZU];exact hy),Sem.run_bind,run_sslice (w:=w) hi hle hts hrs hz,Result.andThen,Sem.run_pure]) nx ho hw
theorem l_sEn {s:ByteArray} {z:Int} {rs:TRow} (lo:Nat) (hle:lo≤s.size) (nx:Wl n C ops.toArray k Q l ((d,.string (s.extract lo s.size))::E) F R)
  (hw:wantL ops E ⟨some d,.slice t x (some y) none none,ty0,pos,aft,gd⟩=some true:=by rfl) (hn:Nat.blt d n=true:=by rfl) (hx:ev E x=some (.string s):=by rfl) (hy:ev E y=some (.int .i64 z):=by rfl)
  (hts:lookT tab t=some rs:=by rfl) (hrs:rs.k = .str:=by rfl) (hz:z=(lo:Int):=by first|rfl|omega):Wl n C ops.toArray k Q (⟨some d,.slice t x (some y) none none,ty0,pos,aft,gd⟩::l) E F R:=
 l_q (fun a w ha=>by
  simp only [execOp,Option.map_some,Option.map_none,ha.ev (x:=x) (by rw [ZU];exact hx),ha.ev (x:=y) (by rw [ZU];exact hy),Sem.run_bind,run_send (w:=w) lo hle hts hrs hz,Result.andThen,Sem.run_pure]) nx (by intro c h;cases h) hw hn
end
structure Fq where
 nd:Ino
 ct:ByteArray
 mr:Nat
 bl:List (Int×Bool)
def flq (f:Fq):List Value:=[.int .i64 f.nd.kd,.int .i64 f.nd.ow,.int .i64 f.nd.gr,.int .i64 f.nd.md,.int .i64 f.nd.sz,.int .i64 f.nd.lk,.string f.nd.tg,.string f.ct,.map (some f.mr)]
def BlF (f:Fq):HP:=Mp ziv blv f.mr f.bl
def CM (rm:Nat) (m:List (ByteArray×Int)) (fs:List Fq):HP:=fun h=>Sep (Mp Y2 ziv rm m::fs.map BlF) h
theorem cm_mid {rm:Nat} {m:List (ByteArray×Int)} {pre post:List Fq} {e:Fq} {h:H}:CM rm m (pre++e::post) h↔Sep [Mp Y2 ziv rm m,BlF e,fun h=>Sep ((pre++post).map BlF) h] h:=by
 have hp:(Mp Y2 ziv rm m::(pre++e::post).map BlF).Perm ([Mp Y2 ziv rm m,BlF e]++(pre++post).map BlF):=by
  refine List.Perm.cons _ ?_
  rw [List.map_append,List.map_cons,List.map_append]
  exact List.perm_middle
 constructor
 ·intro hh
  obtain ⟨h1,h2,d,s1,s2,ha,hb⟩:=YO (Sep.perm hp hh)
  exact YH (A:=[Mp Y2 ziv rm m,BlF e]) (R:=[fun h=>Sep ((pre++post).map BlF) h]) d s1 s2 ha ⟨h2,emp,(fun _=>.inr rfl),Sub.refl _,(fun _ _ e=>by cases e),hb,trivial⟩
 ·intro hh
  obtain ⟨h1,h2,d,s1,s2,ha,k1,k2,_,t1,_,hb,_⟩:=YO (A:=[Mp Y2 ziv rm m,BlF e]) hh
  exact Sep.perm hp.symm (YH d s1 s2 ha (Sep.sub hb t1))
theorem cm_two {rm:Nat} {m:List (ByteArray×Int)} {fs:List Fq} {h:H}:CM rm m fs h↔Sep [Mp Y2 ziv rm m,fun h=>Sep (fs.map BlF) h] h:=by
 constructor
 ·intro hh
  obtain ⟨h1,h2,d,s1,s2,ha,hb⟩:=YO (A:=[Mp Y2 ziv rm m]) (R:=fs.map BlF) hh
  exact YH (A:=[Mp Y2 ziv rm m]) (R:=[fun h=>Sep (fs.map BlF) h]) d s1 s2 ha ⟨h2,emp,(fun _=>.inr rfl),Sub.refl _,(fun _ _ e=>by cases e),hb,trivial⟩
 ·intro hh
  obtain ⟨h1,h2,d,s1,s2,ha,k1,k2,_,t1,_,hb,_⟩:=YO (A:=[Mp Y2 ziv rm m]) hh
  exact YH (A:=[Mp Y2 ziv rm m]) (R:=fs.map BlF) d s1 s2 ha (Sep.sub hb t1)
theorem split_at {α:Type} {fs:List α} {i:Nat} {f:α} (hf:fs[i]? = some f):fs=fs.take i++f::fs.drop (i+1)∧∀g,fs.set i g=fs.take i++g::fs.drop (i+1):=by
 obtain ⟨hi,hf⟩:=List.getElem?_eq_some_iff.1 hf
 refine ⟨?_,fun g=>?_⟩
 ·rw [←hf,←List.drop_eq_getElem_cons hi,List.take_append_drop]
 ·rw [List.set_eq_take_append_cons_drop,if_pos hi]
abbrev CMr (fs:List Fq) (i:Nat):HP:=fun h=>Sep ((fs.take i++fs.drop (i+1)).map BlF) h
theorem cm_open {rm:Nat} {m:List (ByteArray×Int)} {fs:List Fq} {i:Nat} {f:Fq} (hf:fs[i]? = some f) {h:H} (hh:CM rm m fs h):Sep [Mp Y2 ziv rm m,BlF f,CMr fs i] h:=by
 rw [(split_at hf).1] at hh
 exact cm_mid.1 hh
theorem cm_shut {rm:Nat} {m:List (ByteArray×Int)} {fs:List Fq} {i:Nat} {f g:Fq} (hf:fs[i]? = some f) {h:H} (hh:Sep [Mp Y2 ziv rm m,BlF g,CMr fs i] h):CM rm m (fs.set i g) h:=by
 rw [(split_at hf).2 g]
 exact cm_mid.2 hh
structure Mq where
 bb:Nat
 cb:Nat
 bq:List Value×(Nat×Nat)
 bf:Nat
 cf:Nat
 fq:List Value×(Nat×Nat)
 rm:Nat
structure Mq.OK (q:Mq) (nb nf:Nat):Prop where
 b1:nb * 2+q.bq.1.length=q.cb * 2
 b3:AxOK (nb * 2) q.bq
 f1:nf * 9+q.fq.1.length=q.cf * 9
 f3:AxOK (nf * 9) q.fq
abbrev MdP (bm:Nat) (q:Mq) (nb nf:Nat):HP:=Pt bm (.cells #[.slice (some ⟨q.bb,0,none⟩) nb q.cb,.slice (some ⟨q.bf,0,none⟩) nf q.cf,.map (some q.rm)] 62)
abbrev BiX (q:Mq) (bs:List Bi):HP:=Ax 68 bcf q.bb bs q.bq
abbrev FlX (q:Mq) (fs:List Fq):HP:=Ax 73 flq q.bf fs q.fq
def fndI (bs:List Bi) (b:Bi):Option Nat:=bs.findIdx? fun x=>decide (x=b)
theorem fnd_none {bs:List Bi} {b:Bi} (h:fndI bs b=none) {j:Nat} {x:Bi} (hx:bs[j]? = some x):x≠b:=fun e=>by
 have:=(List.findIdx?_eq_none_iff.1 h) x (List.mem_of_getElem? hx)
 simp [e] at this
theorem Wj {bs:List Bi} {b:Bi} {k:Nat} (h:fndI bs b=some k):bs[k]? = some b∧∀{j:Nat} {x:Bi},j<k→bs[j]? = some x→x≠b:=by
 obtain ⟨hk,h1,h2⟩:=List.findIdx?_eq_some_iff_getElem.1 h
 simp only [decide_eq_true_eq] at h1
 refine ⟨by rw [List.getElem?_eq_getElem hk,h1],fun hj hx e=>?_⟩
 have h3:=h2 _ hj
 obtain ⟨hjl,hx⟩:=List.getElem?_eq_some_iff.1 hx
 rw [hx,e] at h3
 simp at h3
abbrev fndV (x:Option Nat):Value:=match x with
 | some i=>.int .i64 (i:Int)
 | none=>.int .i64 (-1)
section
variable (bm:Nat) (q:Mq) (bs:List Bi) (fs:List Fq) (bi:Bi)
set_option maxHeartbeats 2000000 in
theorem find27_ok (nf:Nat) (hl:bs.length≤1000):Enters 71∧Spec prog 71 #[.pointer (some ⟨bm,0,none⟩),bi.v] [] [MdP bm q bs.length nf,BiX q bs]
  ⟨Unit,fun _=>fndV (fndI bs bi),fun _=>True,fun _=>[],fun _=>[MdP bm q bs.length nf,BiX q bs]⟩:=by
 cases hf:fndI bs bi with
 | none=>
  refine ZV [_,_] func71 ntmps71 fun G w hp=>?_
  repeat' (first|refine ZH ?_|refine ZI ?_|refine ZK ?_|refine ZG ?_|refine ZM ?_|refine ZJ ?_|refine ZN ?_|refine ZP (fun b=>?_)|refine ZO (fun b=>?_)|refine ZA ?_|refine ZB ?_|refine ZX ?_|refine ZY ?_|refine Zf ?_|refine Za ?_|refine Zb ?_|refine Zc (fun b=>?_)|refine Zd (fun b=>?_)|refine Ze ?_|refine ZZ ?_|(refine ZC (fun hc=>?_) (fun hc=>?_)<;>(try simp at hc)<;>(try omega))|(refine ZQ (fun hc=>?_) (fun hc=>?_)<;>(try simp at hc)<;>(try omega))|refine ZD 4 [] [(0,0),(1,0),(2,0),(3,0),(4,0),(5,0),(6,0),(7,0),(8,0)] [] ?_|(refine ZF (fun hc=>?_) (fun hc=>?_)<;>(try simp at hc)<;>(try omega)))
  generalize b=bb2 at *
  refine YT (X:={i:Nat // i≤bs.length}) (fun i=>[(0,.pointer (some ⟨bm,0,none⟩)),(3,.pointer (some ⟨bb2,0,none⟩)),(5,.int .i64 (i.1:Int))]) (fun _=>[]) (fun _=>[MdP bm q bs.length nf,BiX q bs,Pt bb2 (.cells #[.string bi.mkr,.int .i64 bi.nu] 68)]) (fun i=>bs.length - i.1) ⟨0,Nat.zero_le _⟩ ⟨rfl,rfl,rfl,trivial⟩ ?_
  rintro ⟨i,hi⟩
  dsimp only
  by_cases hlt:i<bs.length
  ·obtain ⟨x,hx⟩:∃x,bs[i]? = some x:=⟨_,List.getElem?_eq_getElem hlt⟩
   have he:=eqBi2 x bi
   rw [decide_eq_false (fnd_none hf hx)] at he
   simp only [Bi.v] at he
   repeat' (first|refine ZH ?_|refine ZI ?_|refine ZK ?_|refine ZG ?_|refine ZM ?_|refine ZJ ?_|refine ZN ?_|refine ZP (fun b=>?_)|refine ZO (fun b=>?_)|refine ZA ?_|refine ZB ?_|refine ZX ?_|refine ZY ?_|refine Zf ?_|refine Za ?_|refine Zb ?_|refine Zc (fun b=>?_)|refine Zd (fun b=>?_)|refine Ze ?_|refine ZZ ?_|refine XL (m:=bs.length) i hlt ?_|refine Zl 2 i 0 hx ?_|refine r_seq (b:=false) ?_ (he:=he)|(refine ZC (fun hc=>?_) (fun hc=>?_)<;>(try simp at hc)<;>(try omega))|(refine ZQ (fun hc=>?_) (fun hc=>?_)<;>(try simp at hc)<;>(try omega))|refine ZD 4 [] [(0,0),(1,0),(2,0),(3,0),(4,0),(5,0),(6,0),(7,0),(8,0)] [] ?_|(refine ZF (fun hc=>?_) (fun hc=>?_)<;>(try simp at hc)<;>(try omega)))
   rw [wrapi (z:=(i:Int)+1) (by omega) (by omega)]
   exact Zi ⟨i+1,by omega⟩ (by show bs.length - (i+1)<bs.length - i;omega) ⟨rfl,rfl,rfl,trivial⟩
  ·obtain rfl:i=bs.length:=by omega
   repeat' (first|refine ZH ?_|refine ZI ?_|refine ZK ?_|refine ZG ?_|refine ZM ?_|refine ZJ ?_|refine ZN ?_|refine ZP (fun b=>?_)|refine ZO (fun b=>?_)|refine ZA ?_|refine ZB ?_|refine ZL ?_|refine ZX ?_|refine ZY ?_|refine Zf ?_|refine Za ?_|refine Zb ?_|refine Zc (fun b=>?_)|refine Zd (fun b=>?_)|refine Ze ?_|refine ZZ ?_|(refine ZC (fun hc=>?_) (fun hc=>?_)<;>(try simp at hc)<;>(try omega))|(refine ZQ (fun hc=>?_) (fun hc=>?_)<;>(try simp at hc)<;>(try omega))|refine ZD 4 [] [(0,0),(1,0),(2,0),(3,0),(4,0),(5,0),(6,0),(7,0),(8,0)] [] ?_|(refine ZF (fun hc=>?_) (fun hc=>?_)<;>(try simp at hc)<;>(try omega)))
   exact ZT () rfl trivial
 | some k=>
  obtain ⟨hk,hj⟩:=Wj hf
  have hkl:=(List.getElem?_eq_some_iff.1 hk).1
  refine ZV [_,_] func71 ntmps71 fun G w hp=>?_
  repeat' (first|refine ZH ?_|refine ZI ?_|refine ZK ?_|refine ZG ?_|refine ZM ?_|refine ZJ ?_|refine ZN ?_|refine ZP (fun b=>?_)|refine ZO (fun b=>?_)|refine ZA ?_|refine ZB ?_|refine ZX ?_|refine ZY ?_|refine Zf ?_|refine Za ?_|refine Zb ?_|refine Zc (fun b=>?_)|refine Zd (fun b=>?_)|refine Ze ?_|refine ZZ ?_|(refine ZC (fun hc=>?_) (fun hc=>?_)<;>(try simp at hc)<;>(try omega))|(refine ZQ (fun hc=>?_) (fun hc=>?_)<;>(try simp at hc)<;>(try omega))|refine ZD 4 [] [(0,0),(1,0),(2,0),(3,0),(4,0),(5,0),(6,0),(7,0),(8,0)] [] ?_|(refine ZF (fun hc=>?_) (fun hc=>?_)<;>(try simp at hc)<;>(try omega)))
  generalize b=bb2 at *
  refine YT (X:={i:Nat // i≤k}) (fun i=>[(0,.pointer (some ⟨bm,0,none⟩)),(3,.pointer (some ⟨bb2,0,none⟩)),(5,.int .i64 (i.1:Int))]) (fun _=>[]) (fun _=>[MdP bm q bs.length nf,BiX q bs,Pt bb2 (.cells #[.string bi.mkr,.int .i64 bi.nu] 68)]) (fun i=>bs.length - i.1) ⟨0,Nat.zero_le _⟩ ⟨rfl,rfl,rfl,trivial⟩ ?_
  rintro ⟨i,hi⟩
  dsimp only
  by_cases hlt:i<k
  ·obtain ⟨x,hx⟩:∃x,bs[i]? = some x:=⟨_,List.getElem?_eq_getElem (show i<bs.length by omega)⟩
   have hil:i<bs.length:=by omega
   have he:=eqBi2 x bi
   rw [decide_eq_false (hj hlt hx)] at he
   simp only [Bi.v] at he
   repeat' (first|refine ZH ?_|refine ZI ?_|refine ZK ?_|refine ZG ?_|refine ZM ?_|refine ZJ ?_|refine ZN ?_|refine ZP (fun b=>?_)|refine ZO (fun b=>?_)|refine ZA ?_|refine ZB ?_|refine ZX ?_|refine ZY ?_|refine Zf ?_|refine Za ?_|refine Zb ?_|refine Zc (fun b=>?_)|refine Zd (fun b=>?_)|refine Ze ?_|refine ZZ ?_|refine XL (m:=bs.length) i hil ?_|refine Zl 2 i 0 hx ?_|refine r_seq (b:=false) ?_ (he:=he)|(refine ZC (fun hc=>?_) (fun hc=>?_)<;>(try simp at hc)<;>(try omega))|(refine ZQ (fun hc=>?_) (fun hc=>?_)<;>(try simp at hc)<;>(try omega))|refine ZD 4 [] [(0,0),(1,0),(2,0),(3,0),(4,0),(5,0),(6,0),(7,0),(8,0)] [] ?_|(refine ZF (fun hc=>?_) (fun hc=>?_)<;>(try simp at hc)<;>(try omega)))
   rw [wrapi (z:=(i:Int)+1) (by omega) (by omega)]
   exact Zi ⟨i+1,by omega⟩ (by show bs.length - (i+1)<bs.length - i;omega) ⟨rfl,rfl,rfl,trivial⟩
  ·obtain rfl:i=k:=by omega
   have he:=eqBi2 bi bi
   rw [decide_eq_true rfl] at he
   simp only [Bi.v] at he
   repeat' (first|refine ZH ?_|refine ZI ?_|refine ZK ?_|refine ZG ?_|refine ZM ?_|refine ZJ ?_|refine ZN ?_|refine ZP (fun b=>?_)|refine ZO (fun b=>?_)|refine ZA ?_|refine ZB ?_|refine ZX ?_|refine ZY ?_|refine Zf ?_|refine Za ?_|refine Zb ?_|refine Zc (fun b=>?_)|refine Zd (fun b=>?_)|refine Ze ?_|refine ZZ ?_|refine XL (m:=bs.length) i hkl ?_|refine Zl 2 i 0 hk ?_|refine r_seq (b:=true) ?_ (he:=he)|(refine ZC (fun hc=>?_) (fun hc=>?_)<;>(try simp at hc)<;>(try omega))|(refine ZQ (fun hc=>?_) (fun hc=>?_)<;>(try simp at hc)<;>(try omega))|refine ZD 4 [] [(0,0),(1,0),(2,0),(3,0),(4,0),(5,0),(6,0),(7,0),(8,0)] [] ?_|(refine ZF (fun hc=>?_) (fun hc=>?_)<;>(try simp at hc)<;>(try omega)))
   exact XE (XR (YZ () rfl trivial))
def mGet (bs:List Bi) (fs:List Fq) (bi:Bi):Nat×Int:=if bchk bi≠0 then (0,bchk bi) else match fndI bs bi with
 | none=>(0,8)
 | some i=>match fs[i]? with
  | none=>(0,8)
  | some f=>if f.nd.kd=2 then (0,15) else if f.nd.kd=3 then (0,11) else (i,0)
theorem mGet_ok {bs:List Bi} {fs:List Fq} {bi:Bi} (h:(mGet bs fs bi).2=0):bchk bi=0∧fndI bs bi=some (mGet bs fs bi).1∧∃f,fs[(mGet bs fs bi).1]? = some f∧f.nd.kd≠2∧f.nd.kd≠3:=by
 unfold mGet at h ⊢
 by_cases h0:bchk bi≠0
 ·rw [if_pos h0] at h;exact absurd h h0
 ·rw [if_neg h0] at h ⊢
  refine ⟨by omega,?_⟩
  cases hf:fndI bs bi with
  | none=>rw [hf] at h;cases h
  | some i=>
   rw [hf] at h
   dsimp only at h ⊢
   cases hg:fs[i]? with
   | none=>rw [hg] at h;cases h
   | some f=>
    rw [hg] at h
    dsimp only at h ⊢
    by_cases h2:f.nd.kd=2
    ·rw [if_pos h2] at h;cases h
    ·rw [if_neg h2] at h ⊢
     by_cases h3:f.nd.kd=3
     ·rw [if_pos h3] at h;cases h
     ·rw [if_neg h3]
      exact ⟨rfl,f,hg,h2,h3⟩
set_option maxHeartbeats 2000000 in
theorem get27_ok (hl:bs.length≤1000) (hlf:fs.length=bs.length) (hw:bi.mkr.size≤1000):Enters 72∧Spec prog 72 #[.pointer (some ⟨bm,0,none⟩),bi.v] [] [MdP bm q bs.length fs.length,BiX q bs,FlX q fs]
  ⟨Unit,fun _=>.tuple #[.int .i64 ((mGet bs fs bi).1:Int),.int .i64 (mGet bs fs bi).2],fun _=>True,fun _=>[],fun _=>[MdP bm q bs.length fs.length,BiX q bs,FlX q fs]⟩:=by
 have n1:=Xr bi (by omega)
 have n2:=find27_ok bm q bs bi fs.length hl
 obtain ⟨G,hG⟩:∃G,mGet bs fs bi=G:=⟨_,rfl⟩
 rw [hG]
 unfold mGet at hG
 by_cases h0:bchk bi≠0
 ·rw [if_pos h0] at hG
  subst hG
  generalize bchk bi=e at *
  refine ZV [_,_] func72 ntmps72 fun G w hp=>?_
  repeat' (first|refine ZH ?_|refine ZI ?_|refine ZK ?_|refine ZG ?_|refine ZM ?_|refine ZJ ?_|refine ZN ?_|refine ZP (fun b=>?_)|refine ZO (fun b=>?_)|refine ZA ?_|refine ZB ?_|refine ZL ?_|refine ZE (n1) (fun _ _=>?_)|refine l_call0 (n1) (fun _ _=>?_)|(refine ZC (fun hc=>?_) (fun hc=>?_)<;>(try simp at hc)<;>(try omega))|(refine ZF (fun hc=>?_) (fun hc=>?_)<;>(try simp at hc)<;>(try omega)))
  exact ZT () rfl trivial
 ·rw [if_neg h0] at hG
  rw [show bchk bi=0 by omega] at n1
  cases hf:fndI bs bi with
  | none=>
   rw [hf] at hG n2
   have hG:((0:Nat),(8:Int))=G:=hG
   subst hG
   refine ZV [_,_] func72 ntmps72 fun G w hp=>?_
   repeat' (first|refine ZH ?_|refine ZI ?_|refine ZK ?_|refine ZG ?_|refine ZM ?_|refine ZJ ?_|refine ZN ?_|refine ZP (fun b=>?_)|refine ZO (fun b=>?_)|refine ZA ?_|refine ZB ?_|refine ZL ?_|refine ZE (n1) (fun _ _=>?_)|refine l_call0 (n1) (fun _ _=>?_)|refine ZE (n2) (fun _ _=>?_)|refine l_call0 (n2) (fun _ _=>?_)|(refine ZC (fun hc=>?_) (fun hc=>?_)<;>(try simp at hc)<;>(try omega))|(refine ZF (fun hc=>?_) (fun hc=>?_)<;>(try simp at hc)<;>(try omega)))
   exact ZT () rfl trivial
  | some i=>
   rw [hf] at hG n2
   have hi:=(List.getElem?_eq_some_iff.1 (Wj hf).1).1
   have hif:i<fs.length:=by omega
   obtain ⟨f,hg⟩:∃f,fs[i]? = some f:=⟨_,List.getElem?_eq_getElem hif⟩
   dsimp only at hG
   rw [hg] at hG
   dsimp only at hG
   by_cases h2:f.nd.kd=2
   ·rw [if_pos h2] at hG
    subst hG
    refine ZV [_,_] func72 ntmps72 fun G w hp=>?_
    repeat' (first|refine ZH ?_|refine ZI ?_|refine ZK ?_|refine ZG ?_|refine ZM ?_|refine ZJ ?_|refine ZN ?_|refine ZP (fun b=>?_)|refine ZO (fun b=>?_)|refine ZA ?_|refine ZB ?_|refine ZL ?_|refine ZE (n1) (fun _ _=>?_)|refine l_call0 (n1) (fun _ _=>?_)|refine ZE (n2) (fun _ _=>?_)|refine l_call0 (n2) (fun _ _=>?_)|refine XZ (m:=fs.length) (sz:=9) i hif ?_|refine Zn 9 i 0 hg ?_|(refine ZC (fun hc=>?_) (fun hc=>?_)<;>(try simp at hc)<;>(try omega))|(refine ZF (fun hc=>?_) (fun hc=>?_)<;>(try simp at hc)<;>(try omega)))
    exact ZT () rfl trivial
   ·rw [if_neg h2] at hG
    by_cases h3:f.nd.kd=3
    ·rw [if_pos h3] at hG
     subst hG
     refine ZV [_,_] func72 ntmps72 fun G w hp=>?_
     repeat' (first|refine ZH ?_|refine ZI ?_|refine ZK ?_|refine ZG ?_|refine ZM ?_|refine ZJ ?_|refine ZN ?_|refine ZP (fun b=>?_)|refine ZO (fun b=>?_)|refine ZA ?_|refine ZB ?_|refine ZL ?_|refine ZE (n1) (fun _ _=>?_)|refine l_call0 (n1) (fun _ _=>?_)|refine ZE (n2) (fun _ _=>?_)|refine l_call0 (n2) (fun _ _=>?_)|refine XZ (m:=fs.length) (sz:=9) i hif ?_|refine Zn 9 i 0 hg ?_|(refine ZC (fun hc=>?_) (fun hc=>?_)<;>(try simp at hc)<;>(try omega))|(refine ZF (fun hc=>?_) (fun hc=>?_)<;>(try simp at hc)<;>(try omega)))
     exact ZT () rfl trivial
    ·rw [if_neg h3] at hG
     subst hG
     refine ZV [_,_] func72 ntmps72 fun G w hp=>?_
     repeat' (first|refine ZH ?_|refine ZI ?_|refine ZK ?_|refine ZG ?_|refine ZM ?_|refine ZJ ?_|refine ZN ?_|refine ZP (fun b=>?_)|refine ZO (fun b=>?_)|refine ZA ?_|refine ZB ?_|refine ZL ?_|refine ZE (n1) (fun _ _=>?_)|refine l_call0 (n1) (fun _ _=>?_)|refine ZE (n2) (fun _ _=>?_)|refine l_call0 (n2) (fun _ _=>?_)|refine XZ (m:=fs.length) (sz:=9) i hif ?_|refine Zn 9 i 0 hg ?_|(refine ZC (fun hc=>?_) (fun hc=>?_)<;>(try simp at hc)<;>(try omega))|(refine ZF (fun hc=>?_) (fun hc=>?_)<;>(try simp at hc)<;>(try omega)))
     exact ZT () rfl trivial
end
theorem ba_zero {s:ByteArray} (h:s.size=0):s=⟨#[]⟩:=by
 obtain ⟨d⟩:=s
 have h:d.size=0:=h
 rw [Array.size_eq_zero_iff.1 h]
section
theorem k_say {P P':HP} (h:P=P') (t:Wk n C k Q E F (P'::R0)) (hs:Sel P R R0:=by (repeat (first|exact Sel.here|apply Sel.there));first|done|fail):Wk n C k Q E F R:=by
 subst h
 exact fun a w ha hsat=>t a w ha (hsat.sel hs)
end
theorem fm_set {α β:Type} {f:α→List β} {A B:α} (h:f A=f B):∀(l:List α) (i:Nat),(l.set i A).flatMap f=(l.set i B).flatMap f
 | [],_=>rfl
 | x::l,0=>by simp [h]
 | x::l,i+1=>by simp [fm_set h l i]
theorem flx_bl {q:Mq} {fs:List Fq} {i:Nat} {A B:Fq} (h:flq A=flq B):FlX q (fs.set i A)=FlX q (fs.set i B):=by
 unfold FlX Ax
 rw [fm_set h]
theorem flx_bl2 {q:Mq} {fs:List Fq} {i:Nat} {A A2 B:Fq} (h:flq A2=flq B):FlX q ((fs.set i A).set i A2)=FlX q (fs.set i B):=by
 rw [List.set_set]
 exact flx_bl h
theorem zerosI_ok (z:Int) (hz:z≤100000):Enters 52∧Spec prog 52 #[.int .i64 z] [] [] (RetV (.string (zer z.toNat))):=by
 have hm:(if z<0 then (0:Int) else z)=((z.toNat:Nat):Int):=by split<;>omega
 have hn:z.toNat≤100000:=by omega
 generalize z.toNat=n at *
 refine ZV [_] func52 ntmps52 fun G w hp=>?_
 repeat' (first|refine ZH ?_|refine ZI ?_|refine ZK ?_|refine ZG ?_|refine ZM ?_|refine ZJ ?_|refine ZN ?_|refine ZP (fun b=>?_)|refine ZO (fun b=>?_)|refine ZA ?_|refine ZB ?_|refine ZL ?_|rw [hm]|refine l_mks bf (0:UInt8) n 1 (by omega) (by omega) (fun b6=>?_)|(refine ZC (fun hc=>?_) (fun hc=>?_)<;>(try simp at hc))|(refine ZF (fun hc=>?_) (fun hc=>?_)<;>(try simp at hc)))
 refine l_by (T:=5) (b:=b6) (cs:=((List.replicate n (0:UInt8)).flatMap bf).toArray) (Lb:=List.replicate n 0) (by rw [Xd]) ?_
 refine l_b2sB (m:=n) (Lb:=List.replicate n 0) ?_ (by simp)
 repeat' (first|refine ZH ?_|refine ZI ?_|refine ZK ?_|refine ZG ?_|refine ZM ?_|refine ZJ ?_|refine ZN ?_|refine ZP (fun b=>?_)|refine ZO (fun b=>?_)|refine ZA ?_|refine ZB ?_|refine ZL ?_|(refine ZC (fun hc=>?_) (fun hc=>?_)<;>(try simp at hc))|(refine ZF (fun hc=>?_) (fun hc=>?_)<;>(try simp at hc)))
 exact ZT () rfl trivial
section
variable (bm:Nat) (q:Mq) (bs:List Bi) (fs:List Fq) (bi:Bi)
def mRead (bs:List Bi) (fs:List Fq) (bi:Bi) (f c:Int):ByteArray×Int:=if (mGet bs fs bi).2≠0 then (⟨#[]⟩,(mGet bs fs bi).2) else if f<0∨c<0 then (⟨#[]⟩,2) else match fs[(mGet bs fs bi).1]? with
 | none=>(⟨#[]⟩,0)
 | some x=>if (x.ct.size:Int)≤f then (⟨#[]⟩,0) else ((x.ct.extract f.toNat x.ct.size).extract 0 (min c.toNat (x.ct.size - f.toNat)),0)
set_option maxHeartbeats 2000000 in
theorem read27_ok (f c:Int) (hl:bs.length≤1000) (hlf:fs.length=bs.length) (hct:∀x ∈ fs,x.ct.size≤4096) (hw:bi.mkr.size≤1000) :
  Enters 98∧Spec prog 98 #[.pointer (some ⟨bm,0,none⟩),bi.v,.int .i64 f,.int .i64 c] [] [MdP bm q bs.length fs.length,BiX q bs,FlX q fs]
  ⟨Unit,fun _=>.tuple #[.string (mRead bs fs bi f c).1,.int .i64 (mRead bs fs bi f c).2],fun _=>True,fun _=>[],fun _=>[MdP bm q bs.length fs.length,BiX q bs,FlX q fs]⟩:=by
 have n1:=get27_ok bm q bs fs bi hl hlf hw
 unfold mRead
 have hgo:=mGet_ok (bs:=bs) (fs:=fs) (bi:=bi)
 generalize mGet bs fs bi=g at *
 obtain ⟨i,e⟩:=g
 dsimp only at *
 by_cases he:e≠0
 ·rw [if_pos he]
  refine ZV [_,_,_,_] func98 ntmps98 fun G w hp=>?_
  repeat' (first|refine ZH ?_|refine ZI ?_|refine ZK ?_|refine ZG ?_|refine ZM ?_|refine ZJ ?_|refine ZN ?_|refine ZP (fun b=>?_)|refine ZO (fun b=>?_)|refine ZA ?_|refine ZB ?_|refine ZL ?_|refine ZE (n1) (fun _ _=>?_)|refine l_call0 (n1) (fun _ _=>?_)|(refine ZC (fun hc=>?_) (fun hc=>?_)<;>(try simp at hc)<;>(try omega))|(refine ZF (fun hc=>?_) (fun hc=>?_)<;>(try simp at hc)<;>(try omega)))
  exact ZT () rfl trivial
 ·obtain rfl:e=0:=by omega
  rw [if_neg he]
  obtain ⟨-,-,x,hx,-,-⟩:=hgo rfl
  have hil:=(List.getElem?_eq_some_iff.1 hx).1
  have hxs:=hct x (List.mem_of_getElem? hx)
  by_cases hn:f<0∨c<0
  ·rw [if_pos hn]
   refine ZV [_,_,_,_] func98 ntmps98 fun G w hp=>?_
   repeat' (first|refine ZH ?_|refine ZI ?_|refine ZK ?_|refine ZG ?_|refine ZM ?_|refine ZJ ?_|refine ZN ?_|refine ZP (fun b=>?_)|refine ZO (fun b=>?_)|refine ZA ?_|refine ZB ?_|refine ZL ?_|refine ZE (n1) (fun _ _=>?_)|refine l_call0 (n1) (fun _ _=>?_)|(refine ZC (fun hc=>?_) (fun hc=>?_)<;>(try simp at hc)<;>(try omega))|(refine ZF (fun hc=>?_) (fun hc=>?_)<;>(try simp at hc)<;>(try omega)))
   all_goals exact ZT () rfl trivial
  ·rw [if_neg hn,hx]
   dsimp only
   by_cases hb:(x.ct.size:Int)≤f
   ·rw [if_pos hb]
    refine ZV [_,_,_,_] func98 ntmps98 fun G w hp=>?_
    repeat' (first|refine ZH ?_|refine ZI ?_|refine ZK ?_|refine ZG ?_|refine ZM ?_|refine ZJ ?_|refine ZN ?_|refine ZP (fun b=>?_)|refine ZO (fun b=>?_)|refine ZA ?_|refine ZB ?_|refine ZL ?_|refine ZE (n1) (fun _ _=>?_)|refine l_call0 (n1) (fun _ _=>?_)|refine XZ (m:=fs.length) (sz:=9) i hil ?_|refine Zn 9 i 7 hx ?_|(refine ZC (fun hc=>?_) (fun hc=>?_)<;>(try simp at hc)<;>(try omega))|(refine ZF (fun hc=>?_) (fun hc=>?_)<;>(try simp at hc)<;>(try omega)))
    exact ZT () rfl trivial
   ·rw [if_neg hb]
    obtain ⟨f',rfl⟩:∃k:Nat,f=(k:Int):=⟨f.toNat,by omega⟩
    obtain ⟨c',rfl⟩:∃k:Nat,c=(k:Int):=⟨c.toNat,by omega⟩
    simp only [Int.toNat_natCast]
    have hes:(x.ct.extract f' x.ct.size).size=x.ct.size - f':=by rw [ByteArray.size_extract];omega
    have w1:IntKind.i64.wrap ((x.ct.size:Int) - (f':Int))=((x.ct.size - f':Nat):Int):=by rw [wrapi (by omega) (by omega)];omega
    have w2:(if ((x.ct.size - f':Nat):Int)<(c':Int) then ((x.ct.size - f':Nat):Int) else (c':Int))=((min c' (x.ct.size - f'):Nat):Int):=by split<;>omega
    refine ZV [_,_,_,_] func98 ntmps98 fun G w hp=>?_
    repeat' (first|refine ZH ?_|refine ZI ?_|refine ZK ?_|refine ZG ?_|refine ZM ?_|refine ZJ ?_|refine ZN ?_|refine ZP (fun b=>?_)|refine ZO (fun b=>?_)|refine ZA ?_|refine ZB ?_|refine ZL ?_|refine ZE (n1) (fun _ _=>?_)|refine l_call0 (n1) (fun _ _=>?_)|rw [w1]|rw [w2]|refine XZ (m:=fs.length) (sz:=9) i hil ?_|refine Zn 9 i 7 hx ?_|refine l_sEn (s:=x.ct) f' (by omega) ?_|refine l_sHi (s:=x.ct.extract f' x.ct.size) (min c' (x.ct.size - f')) (by omega) ?_|(refine ZC (fun hc=>?_) (fun hc=>?_)<;>(try simp at hc)<;>(try omega))|(refine ZF (fun hc=>?_) (fun hc=>?_)<;>(try simp at hc)<;>(try omega)))
    exact ZT () rfl trivial
def wrC (c:ByteArray) (f:Nat) (s:ByteArray):ByteArray:=((if c.size<f then c++zer (f - c.size) else c).extract 0 f++s)++(if f+s.size<max c.size f then (if c.size<f then c++zer (f - c.size) else c).extract (f+s.size) (max c.size f) else ⟨#[]⟩)
theorem wrC_size {c:ByteArray} {f:Nat} {s:ByteArray}:(wrC c f s).size=max c.size (f+s.size):=by
 unfold wrC
 have hz:=Ya (f - c.size)
 by_cases h:c.size<f
 ·simp only [if_pos h]
  split
  ·simp only [ByteArray.size_append,ByteArray.size_extract,hz];omega
  ·simp only [ByteArray.size_append,ByteArray.size_extract,hz]
   have:(⟨#[]⟩:ByteArray).size=0:=rfl
   omega
 ·simp only [if_neg h]
  split
  ·simp only [ByteArray.size_append,ByteArray.size_extract];omega
  ·simp only [ByteArray.size_append,ByteArray.size_extract]
   have:(⟨#[]⟩:ByteArray).size=0:=rfl
   omega
def blW (bl:List (Int×Bool)) (a:Nat):Nat→List (Int×Bool)
 | 0=>bl
 | k+1=>mset ((a+k:Nat):Int) true (blW bl a k)
def mWrS (s:ByteArray) (f:Nat):ByteArray:=s.extract 0 (min s.size (4096 - f))
def mWrF (x:Fq) (f:Nat) (s:ByteArray):Fq:={x with nd:={x.nd with sz:=((wrC x.ct f s).size:Int)},ct:=wrC x.ct f s,bl:=blW x.bl (f / 64) ((f+s.size - 1) / 64+1 - f / 64)}
def mWrite (bs:List Bi) (fs:List Fq) (bi:Bi) (f:Int) (s:ByteArray):(Int×Int)×List Fq:=if (mGet bs fs bi).2≠0 then ((0,(mGet bs fs bi).2),fs) else if f<0∨4096<f then ((0,2),fs) else if f=4096∧isE s=false then ((0,26),fs) else
 if isE (mWrS s f.toNat)=true then ((0,0),fs) else match fs[(mGet bs fs bi).1]? with
 | none=>((0,0),fs)
 | some x=>((((mWrS s f.toNat).size:Int),0),fs.set (mGet bs fs bi).1 (mWrF x f.toNat (mWrS s f.toNat)))
set_option maxHeartbeats 8000000 in
theorem write27_ok (m:List (ByteArray×Int)) (f:Int) (s:ByteArray) (hs:s.size≤1000000) (hl:bs.length≤1000) (hlf:fs.length=bs.length) (hct:∀x ∈ fs,x.ct.size≤4096) (hw:bi.mkr.size≤1000) (hq:q.OK bs.length fs.length) :
  Enters 99∧Spec prog 99 #[.pointer (some ⟨bm,0,none⟩),bi.v,.int .i64 f,.string s] [] [MdP bm q bs.length fs.length,BiX q bs,FlX q fs,CM q.rm m fs]
  ⟨Unit,fun _=>.tuple #[.int .i64 (mWrite bs fs bi f s).1.1,.int .i64 (mWrite bs fs bi f s).1.2],fun _=>True,fun _=>[],fun _=>[MdP bm q bs.length fs.length,BiX q bs,FlX q (mWrite bs fs bi f s).2,CM q.rm m (mWrite bs fs bi f s).2]⟩:=by
 have n1:=get27_ok bm q bs fs bi hl hlf hw
 unfold mWrite
 have hgo:=mGet_ok (bs:=bs) (fs:=fs) (bi:=bi)
 generalize mGet bs fs bi=g at *
 obtain ⟨i,e⟩:=g
 dsimp only at *
 by_cases he:e≠0
 ·simp only [if_pos he]
  refine ZV [_,_,_,_] func99 ntmps99 fun G w hp=>?_
  repeat' (first|refine ZH ?_|refine ZI ?_|refine ZK ?_|refine ZG ?_|refine ZM ?_|refine ZJ ?_|refine ZN ?_|refine ZP (fun b=>?_)|refine ZO (fun b=>?_)|refine ZA ?_|refine ZB ?_|refine ZL ?_|refine ZX ?_|refine ZY ?_|refine Zf ?_|refine Za ?_|refine Zb ?_|refine Zc (fun b=>?_)|refine Zd (fun b=>?_)|refine Ze ?_|refine ZZ ?_|refine ZE (n1) (fun _ _=>?_)|refine l_call0 (n1) (fun _ _=>?_)|refine ZS (n1) (fun _ _=>?_)|(refine ZC (fun hc=>?_) (fun hc=>?_)<;>(try simp at hc)<;>(try omega))|(refine ZQ (fun hc=>?_) (fun hc=>?_)<;>(try simp at hc)<;>(try omega))|refine ZD 17 [] [(0,0),(1,0),(2,0),(3,0),(4,0),(5,0),(6,0),(7,0),(8,0),(9,0),(10,0),(11,0),(12,0),(13,0)] [14] ?_|refine ZD 22 [] [(0,0),(1,0),(2,0),(3,0),(4,0),(5,0),(6,0),(7,0),(8,0),(9,0),(10,0),(11,0),(12,0),(13,0),(14,0),(15,0),(16,0)] [17] ?_|(refine ZF (fun hc=>?_) (fun hc=>?_)<;>(try simp at hc)<;>(try omega)))
  exact ZT () rfl trivial
 ·obtain rfl:e=0:=by omega
  simp only [if_neg he]
  obtain ⟨-,-,x,hx,-,-⟩:=hgo rfl
  have hil:=(List.getElem?_eq_some_iff.1 hx).1
  have hxs:=hct x (List.mem_of_getElem? hx)
  by_cases hn:f<0∨4096<f
  ·simp only [if_pos hn]
   refine ZV [_,_,_,_] func99 ntmps99 fun G w hp=>?_
   repeat' (first|refine ZH ?_|refine ZI ?_|refine ZK ?_|refine ZG ?_|refine ZM ?_|refine ZJ ?_|refine ZN ?_|refine ZP (fun b=>?_)|refine ZO (fun b=>?_)|refine ZA ?_|refine ZB ?_|refine ZL ?_|refine ZX ?_|refine ZY ?_|refine Zf ?_|refine Za ?_|refine Zb ?_|refine Zc (fun b=>?_)|refine Zd (fun b=>?_)|refine Ze ?_|refine ZZ ?_|refine ZE (n1) (fun _ _=>?_)|refine l_call0 (n1) (fun _ _=>?_)|refine ZS (n1) (fun _ _=>?_)|(refine ZC (fun hc=>?_) (fun hc=>?_)<;>(try simp at hc)<;>(try omega))|(refine ZQ (fun hc=>?_) (fun hc=>?_)<;>(try simp at hc)<;>(try omega))|refine ZD 17 [] [(0,0),(1,0),(2,0),(3,0),(4,0),(5,0),(6,0),(7,0),(8,0),(9,0),(10,0),(11,0),(12,0),(13,0)] [14] ?_|refine ZD 22 [] [(0,0),(1,0),(2,0),(3,0),(4,0),(5,0),(6,0),(7,0),(8,0),(9,0),(10,0),(11,0),(12,0),(13,0),(14,0),(15,0),(16,0)] [17] ?_|(refine ZF (fun hc=>?_) (fun hc=>?_)<;>(try simp at hc)<;>(try omega)))
   all_goals exact ZT () rfl trivial
  ·simp only [if_neg hn]
   by_cases h4:f=4096∧isE s=false
   ·simp only [if_pos h4]
    obtain ⟨rfl,hE⟩:=h4
    have hE2:(s.toList == ByteArray.toList ⟨#[]⟩)=false:=hE
    refine ZV [_,_,_,_] func99 ntmps99 fun G w hp=>?_
    repeat' (first|refine ZH ?_|refine ZI ?_|refine ZK ?_|refine ZG ?_|refine ZM ?_|refine ZJ ?_|refine ZN ?_|refine ZP (fun b=>?_)|refine ZO (fun b=>?_)|refine ZA ?_|refine ZB ?_|refine ZL ?_|refine ZX ?_|refine ZY ?_|refine Zf ?_|refine Za ?_|refine Zb ?_|refine Zc (fun b=>?_)|refine Zd (fun b=>?_)|refine Ze ?_|refine ZZ ?_|refine ZE (n1) (fun _ _=>?_)|refine l_call0 (n1) (fun _ _=>?_)|refine ZS (n1) (fun _ _=>?_)|rw [hE2]|(refine ZC (fun hc=>?_) (fun hc=>?_)<;>(try simp at hc)<;>(try omega))|(refine ZQ (fun hc=>?_) (fun hc=>?_)<;>(try simp at hc)<;>(try omega))|refine ZD 17 [] [(0,0),(1,0),(2,0),(3,0),(4,0),(5,0),(6,0),(7,0),(8,0),(9,0),(10,0),(11,0),(12,0),(13,0)] [14] ?_|refine ZD 22 [] [(0,0),(1,0),(2,0),(3,0),(4,0),(5,0),(6,0),(7,0),(8,0),(9,0),(10,0),(11,0),(12,0),(13,0),(14,0),(15,0),(16,0)] [17] ?_|(refine ZF (fun hc=>?_) (fun hc=>?_)<;>(try simp at hc)<;>(try omega)))
    all_goals exact ZT () rfl trivial
   ·simp only [if_neg h4]
    obtain ⟨f',rfl⟩:∃k:Nat,f=(k:Int):=⟨f.toNat,by omega⟩
    simp only [Int.toNat_natCast]
    have w1:IntKind.i64.wrap (4096 - (f':Int))=((4096 - f':Nat):Int):=by rw [wrapi (by omega) (by omega)];omega
    have w2:(if ((4096 - f':Nat):Int)<(s.size:Int) then ((4096 - f':Nat):Int) else (s.size:Int))=((min s.size (4096 - f'):Nat):Int):=by split<;>omega
    have hus:(mWrS s f').size=min s.size (4096 - f'):=by unfold mWrS;rw [ByteArray.size_extract];omega
    have hE4:(f':Int)=4096→(s.toList == ByteArray.toList ⟨#[]⟩)=true:=fun h=>by
     cases hE:isE s with
     | true=>exact hE
     | false=>exact absurd ⟨h,hE⟩ h4
    have hue:s.extract 0 (min s.size (4096 - f'))=mWrS s f':=rfl
    generalize mWrS s f'=u at *
    by_cases hE:isE u=true
    ·simp only [if_pos hE]
     have hE3:(u.toList == ByteArray.toList ⟨#[]⟩)=true:=hE
     refine ZV [_,_,_,_] func99 ntmps99 fun G w hp=>?_
     repeat' (first|refine ZH ?_|refine ZI ?_|refine ZK ?_|refine ZG ?_|refine ZM ?_|refine ZJ ?_|refine ZN ?_|refine ZP (fun b=>?_)|refine ZO (fun b=>?_)|refine ZA ?_|refine ZB ?_|refine ZL ?_|refine ZX ?_|refine ZY ?_|refine Zf ?_|refine Za ?_|refine Zb ?_|refine Zc (fun b=>?_)|refine Zd (fun b=>?_)|refine Ze ?_|refine ZZ ?_|refine ZE (n1) (fun _ _=>?_)|refine l_call0 (n1) (fun _ _=>?_)|refine ZS (n1) (fun _ _=>?_)|rw [w1]|rw [w2]|rw [hE4 (by omega)]|refine l_sHi (s:=s) (min s.size (4096 - f')) (by omega) ?_|rw [hue]|rw [hE3]|(refine ZC (fun hc=>?_) (fun hc=>?_)<;>(try simp at hc)<;>(try omega))|(refine ZQ (fun hc=>?_) (fun hc=>?_)<;>(try simp at hc)<;>(try omega))|refine ZD 17 [] [(0,0),(1,0),(2,0),(3,0),(4,0),(5,0),(6,0),(7,0),(8,0),(9,0),(10,0),(11,0),(12,0),(13,0)] [14] ?_|refine ZD 22 [] [(0,0),(1,0),(2,0),(3,0),(4,0),(5,0),(6,0),(7,0),(8,0),(9,0),(10,0),(11,0),(12,0),(13,0),(14,0),(15,0),(16,0)] [17] ?_|(refine ZF (fun hc=>?_) (fun hc=>?_)<;>(try simp at hc)<;>(try omega)))
     all_goals exact ZT () rfl trivial
    ·simp only [if_neg hE]
     rw [hx]
     dsimp only
     have hE3:(u.toList == ByteArray.toList ⟨#[]⟩)=false:=by
      show isE u=false
      simpa using hE
     have hu1:1≤u.size:=by
      have:u.size≠0:=fun h=>hE (by rw [isE_eq];exact decide_eq_true (ba_zero h))
      omega
     have hf5:¬(f':Int)=4096:=by omega
     have hzr:=Ya (f' - x.ct.size)
     obtain ⟨c2,hc2⟩:∃c2,(if x.ct.size<f' then x.ct++zer (f' - x.ct.size) else x.ct)=c2:=⟨_,rfl⟩
     have hc2s:c2.size=max x.ct.size f':=by
      rw [←hc2]
      split
      ·rw [ByteArray.size_append,hzr];omega
      ·omega
     obtain ⟨r2,hr2⟩:∃r2,(if f'+u.size<c2.size then c2.extract (f'+u.size) c2.size else ⟨#[]⟩)=r2:=⟨_,rfl⟩
     have hr2s:r2.size≤4096:=by
      rw [←hr2]
      split
      ·rw [ByteArray.size_extract];omega
      ·exact Nat.zero_le _
     have hes:(c2.extract 0 f').size=f':=by rw [ByteArray.size_extract];omega
     have hwc:wrC x.ct f' u=(c2.extract 0 f'++u)++r2:=by
      unfold wrC
      rw [hc2,←hc2s,hr2]
     have hws:=wrC_size (c:=x.ct) (f:=f') (s:=u)
     have w3:IntKind.i64.wrap ((f':Int) - (x.ct.size:Int))=(f':Int) - (x.ct.size:Int):=wrapi (by omega) (by omega)
     have w4:IntKind.i64.wrap ((f':Int)+(u.size:Int))=((f'+u.size:Nat):Int):=by rw [wrapi (by omega) (by omega)];omega
     have w5:IntKind.i64.wrap (((f'+u.size:Nat):Int) - 1)=((f'+u.size - 1:Nat):Int):=by rw [wrapi (by omega) (by omega)];omega
     have w6:((f'+u.size - 1:Nat):Int).tdiv 64=(((f'+u.size - 1) / 64:Nat):Int):=by rw [Int.tdiv_eq_ediv_of_nonneg (Int.natCast_nonneg _)];exact (Int.natCast_ediv _ 64).symm
     have w7:IntKind.i64.wrap ((((f'+u.size - 1) / 64:Nat):Int))=(((f'+u.size - 1) / 64:Nat):Int):=wrapi (by omega) (by omega)
     have w8:(f':Int).tdiv 64=((f' / 64:Nat):Int):=by rw [Int.tdiv_eq_ediv_of_nonneg (Int.natCast_nonneg _)];exact (Int.natCast_ediv _ 64).symm
     have w9:IntKind.i64.wrap (((f' / 64:Nat):Int))=((f' / 64:Nat):Int):=wrapi (by omega) (by omega)
     have nz:=zerosI_ok ((f':Int) - (x.ct.size:Int)) (by omega)
     have hzn:((f':Int) - (x.ct.size:Int)).toNat=f' - x.ct.size:=by omega
     rw [hzn] at nz
     have hx1:∀g,(fs.set i g)[i]? = some g:=fun g=>by rw [List.getElem?_set_self hil]
     have hls:∀g,(fs.set i g).length=fs.length:=fun g=>List.length_set
     have hfin:mWrF x f' u={({x with ct:=(c2.extract 0 f'++u)++r2}:Fq) with nd:={x.nd with sz:=((((c2.extract 0 f'++u)++r2).size:Nat):Int)},bl:=blW x.bl (f' / 64) ((f'+u.size - 1) / 64+1 - f' / 64)}:=by unfold mWrF;rw [hwc]
     rw [hfin]
     rw [hwc] at hws
     generalize hW:(c2.extract 0 f'++u)++r2=W at *
     have hf3:=hq.f3
     have hf4:∀g,AxOK ((fs.set i g).length * 9) q.fq:=fun g=>by rw [hls];exact hf3
     refine ZV [_,_,_,_] func99 ntmps99 fun G w hp=>?_
     refine k_cutd 11 (Y:=Unit) (fun _=>[(0,.pointer (some ⟨bm,0,none⟩)),(2,.int .i64 (f':Int)),(3,.string u),(10,.int .i64 (i:Int)),(12,.string c2),(13,.string r2)]) (fun _=>[]) (fun _=>[MdP bm q bs.length fs.length,BiX q bs,FlX q fs,CM q.rm m fs]) ?_ ?_
     ·rintro ⟨⟩
      dsimp only
      repeat' (first|refine ZH ?_|refine ZI ?_|refine ZK ?_|refine ZG ?_|refine ZM ?_|refine ZJ ?_|refine ZN ?_|refine ZP (fun b=>?_)|refine ZO (fun b=>?_)|refine ZA ?_|refine ZB ?_|refine ZX ?_|refine ZY ?_|refine Zf ?_|refine Za ?_|refine Zb ?_|refine Zc (fun b=>?_)|refine Zd (fun b=>?_)|refine Ze ?_|refine ZZ ?_|rw [w8]|rw [w9]|refine r_sHi (s:=c2) f' (by omega) ?_|refine r_cat (a:=c2.extract 0 f') (b:=u) ?_ (h:=by omega)|refine r_cat (a:=c2.extract 0 f'++u) (b:=r2) ?_ (h:=by rw [ByteArray.size_append];omega)|rw [hW]|refine XL (m:=fs.length) (sz:=9) i hil ?_|refine Yp 9 i 7 {x with ct:=W} hx hf3 ?_|(refine ZC (fun hc=>?_) (fun hc=>?_)<;>(try simp at hc)<;>(try omega))|(refine ZQ (fun hc=>?_) (fun hc=>?_)<;>(try simp at hc)<;>(try omega))|refine ZD 17 [FlX _ _] [(0,0),(1,0),(2,0),(3,0),(4,0),(5,0),(6,0),(7,0),(8,0),(9,0),(10,0),(11,0),(12,0),(13,0),(14,4)] [] ?_|refine ZD 22 [] [(0,0),(1,0),(2,0),(3,0),(4,0),(5,0),(6,0),(7,0),(8,0),(9,0),(10,0),(11,0),(12,0),(13,0),(14,0),(15,0),(16,0)] [17] ?_|(refine ZF (fun hc=>?_) (fun hc=>?_)<;>(try simp at hc)<;>(try omega)))
      refine Z4 (X:=Unit) (Lx:=fun _=>[Mp Y2 ziv q.rm m,BlF x,CMr fs i]) (p:=fun _=>True) (r:=CM q.rm m fs) (by repeat (first|exact Sel.here|apply Sel.there)) (fun h hh=>⟨(),trivial,cm_open hx hh⟩) (fun _ _=>?_)
      refine YT (X:={k:Nat // k≤(f'+u.size - 1) / 64+1 - f' / 64}) (fun k=>[(0,.pointer (some ⟨bm,0,none⟩)),(2,.int .i64 (f':Int)),(3,.string u),(10,.int .i64 (i:Int)),(14,.int .i64 ((f' / 64+k.1:Nat):Int))]) (fun _=>[]) (fun k=>[MdP bm q bs.length fs.length,BiX q bs,FlX q (fs.set i {x with ct:=W}),Mp Y2 ziv q.rm m,Mp ziv blv x.mr (blW x.bl (f' / 64) k.1),CMr fs i]) (fun k=>(f'+u.size - 1) / 64+1 - f' / 64 - k.1) ⟨0,Nat.zero_le _⟩ ⟨rfl,rfl,rfl,rfl,rfl,trivial⟩ ?_
      rintro ⟨k,hk⟩
      dsimp only
      by_cases hlt:k<(f'+u.size - 1) / 64+1 - f' / 64
      ·have v1:IntKind.i64.wrap (((f' / 64+k:Nat):Int)+1)=((f' / 64+(k+1):Nat):Int):=by rw [wrapi (by omega) (by omega)];omega
       repeat' (first|refine ZH ?_|refine ZI ?_|refine ZK ?_|refine ZG ?_|refine ZM ?_|refine ZJ ?_|refine ZN ?_|refine ZP (fun b=>?_)|refine ZO (fun b=>?_)|refine ZA ?_|refine ZB ?_|refine ZX ?_|refine ZY ?_|refine Zf ?_|refine Za ?_|refine Zb ?_|refine Zc (fun b=>?_)|refine Zd (fun b=>?_)|refine Ze ?_|refine ZZ ?_|rw [w4]|rw [w5]|rw [w6]|rw [w7]|rw [v1]|refine XZ (m:=fs.length) (sz:=9) i hil ?_|refine Zn 9 i 8 (hx1 _) ?_|refine l_mset (V:=blv) key_zi ((f' / 64+k:Nat):Int) true ?_|(refine ZC (fun hc=>?_) (fun hc=>?_)<;>(try simp at hc)<;>(try omega))|(refine ZQ (fun hc=>?_) (fun hc=>?_)<;>(try simp at hc)<;>(try omega))|refine ZD 17 [] [(0,0),(1,0),(2,0),(3,0),(4,0),(5,0),(6,0),(7,0),(8,0),(9,0),(10,0),(11,0),(12,0),(13,0)] [14] ?_|refine ZD 22 [] [(0,0),(1,0),(2,0),(3,0),(4,0),(5,0),(6,0),(7,0),(8,0),(9,0),(10,0),(11,0),(12,0),(13,0),(14,0),(15,0),(16,0)] [17] ?_|(refine ZF (fun hc=>?_) (fun hc=>?_)<;>(try simp at hc)<;>(try omega)))
       exact Zi ⟨k+1,by omega⟩ (by show (f'+u.size - 1) / 64+1 - f' / 64 - (k+1)<(f'+u.size - 1) / 64+1 - f' / 64 - k;omega) ⟨rfl,rfl,rfl,rfl,rfl,trivial⟩
      ·obtain rfl:k=(f'+u.size - 1) / 64+1 - f' / 64:=by omega
       generalize blW x.bl (f' / 64) ((f'+u.size - 1) / 64+1 - f' / 64)=bl2 at *
       repeat' (first|refine ZH ?_|refine ZI ?_|refine ZK ?_|refine ZG ?_|refine ZM ?_|refine ZJ ?_|refine ZN ?_|refine ZP (fun b=>?_)|refine ZO (fun b=>?_)|refine ZA ?_|refine ZB ?_|refine ZL ?_|refine ZX ?_|refine ZY ?_|refine Zf ?_|refine Za ?_|refine Zb ?_|refine Zc (fun b=>?_)|refine Zd (fun b=>?_)|refine Ze ?_|refine ZZ ?_|rw [w4]|rw [w5]|rw [w6]|rw [w7]|refine XL (m:=fs.length) (sz:=9) i hil ?_|refine Zp 9 i 7 (hx1 _) ?_|refine Yp 9 i 4 {({x with ct:=W}:Fq) with nd:={x.nd with sz:=(W.size:Int)}} (hx1 _) (hf4 _) ?_|(refine ZC (fun hc=>?_) (fun hc=>?_)<;>(try simp at hc)<;>(try omega))|(refine ZQ (fun hc=>?_) (fun hc=>?_)<;>(try simp at hc)<;>(try omega))|refine ZD 17 [] [(0,0),(1,0),(2,0),(3,0),(4,0),(5,0),(6,0),(7,0),(8,0),(9,0),(10,0),(11,0),(12,0),(13,0)] [14] ?_|refine ZD 22 [FlX _ _] [(0,0),(1,0),(2,0),(3,0),(4,0),(5,0),(6,0),(7,0),(8,0),(9,0),(10,0),(11,0),(12,3),(13,0),(14,0),(15,0),(16,0),(17,4)] [] ?_|(refine ZF (fun hc=>?_) (fun hc=>?_)<;>(try simp at hc)<;>(try omega)))
       refine Zr (r:=CM q.rm m (fs.set i {({x with ct:=W}:Fq) with nd:={x.nd with sz:=(W.size:Int)},bl:=bl2})) (Lx:=[Mp Y2 ziv q.rm m,Mp ziv blv x.mr bl2,CMr fs i]) (fun h hh=>cm_shut hx hh) ?_
       refine k_say (P:=FlX q ((fs.set i {x with ct:=W}).set i {({x with ct:=W}:Fq) with nd:={x.nd with sz:=(W.size:Int)}})) (flx_bl2 (B:={({x with ct:=W}:Fq) with nd:={x.nd with sz:=(W.size:Int)},bl:=bl2}) rfl) ?_
       exact ZT () rfl trivial
     ·intro hx9
      by_cases hfc:x.ct.size<f'
      ·rw [if_pos hfc] at hc2
       subst hc2
       rw [if_neg (by omega)] at hr2
       subst hr2
       have hsz:(x.ct++zer (f' - x.ct.size)).size=f':=by omega
       have w10:(((x.ct++zer (f' - x.ct.size)).size:Nat):Int)=(f':Int):=by rw [hsz]
       repeat' (first|refine WN ?_|refine k_to hx9 () ⟨rfl,rfl,rfl,rfl,rfl,rfl,trivial⟩|refine ZH ?_|refine ZI ?_|refine ZK ?_|refine ZG ?_|refine ZM ?_|refine ZJ ?_|refine ZN ?_|refine ZP (fun b=>?_)|refine ZO (fun b=>?_)|refine ZA ?_|refine ZB ?_|refine ZX ?_|refine ZY ?_|refine Zf ?_|refine Za ?_|refine Zb ?_|refine Zc (fun b=>?_)|refine Zd (fun b=>?_)|refine Ze ?_|refine ZZ ?_|refine ZE (n1) (fun _ _=>?_)|refine l_call0 (n1) (fun _ _=>?_)|refine ZS (n1) (fun _ _=>?_)|refine ZE (nz) (fun _ _=>?_)|refine l_call0 (nz) (fun _ _=>?_)|refine ZS (nz) (fun _ _=>?_)|refine l_cat (a:=x.ct) (b:=zer (f' - x.ct.size)) ?_ (h:=by omega)|rw [w1]|rw [w2]|rw [hE4 (by omega)]|refine l_sHi (s:=s) (min s.size (4096 - f')) (by omega) ?_|rw [hue]|rw [hE3]|refine XZ (m:=fs.length) (sz:=9) i hil ?_|refine Zn 9 i 7 hx ?_|rw [w3]|rw [w4]|rw [w10]|(refine ZC (fun hc=>?_) (fun hc=>?_)<;>(try simp at hc)<;>(try omega))|(refine ZQ (fun hc=>?_) (fun hc=>?_)<;>(try simp at hc)<;>(try omega))|refine ZD 17 [] [(0,0),(1,0),(2,0),(3,0),(4,0),(5,0),(6,0),(7,0),(8,0),(9,0),(10,0),(11,0),(12,0),(13,0)] [14] ?_|refine ZD 22 [] [(0,0),(1,0),(2,0),(3,0),(4,0),(5,0),(6,0),(7,0),(8,0),(9,0),(10,0),(11,0),(12,0),(13,0),(14,0),(15,0),(16,0)] [17] ?_|(refine ZF (fun hc=>?_) (fun hc=>?_)<;>(try simp at hc)<;>(try omega)))
      ·rw [if_neg hfc] at hc2
       subst hc2
       by_cases hfr:f'+u.size<x.ct.size
       ·rw [if_pos hfr] at hr2
        subst hr2
        repeat' (first|refine WN ?_|refine k_to hx9 () ⟨rfl,rfl,rfl,rfl,rfl,rfl,trivial⟩|refine ZH ?_|refine ZI ?_|refine ZK ?_|refine ZG ?_|refine ZM ?_|refine ZJ ?_|refine ZN ?_|refine ZP (fun b=>?_)|refine ZO (fun b=>?_)|refine ZA ?_|refine ZB ?_|refine ZX ?_|refine ZY ?_|refine Zf ?_|refine Za ?_|refine Zb ?_|refine Zc (fun b=>?_)|refine Zd (fun b=>?_)|refine Ze ?_|refine ZZ ?_|refine ZE (n1) (fun _ _=>?_)|refine l_call0 (n1) (fun _ _=>?_)|refine ZS (n1) (fun _ _=>?_)|refine ZE (nz) (fun _ _=>?_)|refine l_call0 (nz) (fun _ _=>?_)|refine ZS (nz) (fun _ _=>?_)|refine l_cat (a:=x.ct) (b:=zer (f' - x.ct.size)) ?_ (h:=by omega)|rw [w1]|rw [w2]|rw [hE4 (by omega)]|refine l_sHi (s:=s) (min s.size (4096 - f')) (by omega) ?_|rw [hue]|rw [hE3]|refine XZ (m:=fs.length) (sz:=9) i hil ?_|refine Zn 9 i 7 hx ?_|rw [w3]|rw [w4]|refine l_sEn (s:=x.ct) (f'+u.size) (by omega) ?_|(refine ZC (fun hc=>?_) (fun hc=>?_)<;>(try simp at hc)<;>(try omega))|(refine ZQ (fun hc=>?_) (fun hc=>?_)<;>(try simp at hc)<;>(try omega))|refine ZD 17 [] [(0,0),(1,0),(2,0),(3,0),(4,0),(5,0),(6,0),(7,0),(8,0),(9,0),(10,0),(11,0),(12,0),(13,0)] [14] ?_|refine ZD 22 [] [(0,0),(1,0),(2,0),(3,0),(4,0),(5,0),(6,0),(7,0),(8,0),(9,0),(10,0),(11,0),(12,0),(13,0),(14,0),(15,0),(16,0)] [17] ?_|(refine ZF (fun hc=>?_) (fun hc=>?_)<;>(try simp at hc)<;>(try omega)))
       ·rw [if_neg hfr] at hr2
        subst hr2
        repeat' (first|refine WN ?_|refine k_to hx9 () ⟨rfl,rfl,rfl,rfl,rfl,rfl,trivial⟩|refine ZH ?_|refine ZI ?_|refine ZK ?_|refine ZG ?_|refine ZM ?_|refine ZJ ?_|refine ZN ?_|refine ZP (fun b=>?_)|refine ZO (fun b=>?_)|refine ZA ?_|refine ZB ?_|refine ZX ?_|refine ZY ?_|refine Zf ?_|refine Za ?_|refine Zb ?_|refine Zc (fun b=>?_)|refine Zd (fun b=>?_)|refine Ze ?_|refine ZZ ?_|refine ZE (n1) (fun _ _=>?_)|refine l_call0 (n1) (fun _ _=>?_)|refine ZS (n1) (fun _ _=>?_)|refine ZE (nz) (fun _ _=>?_)|refine l_call0 (nz) (fun _ _=>?_)|refine ZS (nz) (fun _ _=>?_)|refine l_cat (a:=x.ct) (b:=zer (f' - x.ct.size)) ?_ (h:=by omega)|rw [w1]|rw [w2]|rw [hE4 (by omega)]|refine l_sHi (s:=s) (min s.size (4096 - f')) (by omega) ?_|rw [hue]|rw [hE3]|refine XZ (m:=fs.length) (sz:=9) i hil ?_|refine Zn 9 i 7 hx ?_|rw [w3]|rw [w4]|(refine ZC (fun hc=>?_) (fun hc=>?_)<;>(try simp at hc)<;>(try omega))|(refine ZQ (fun hc=>?_) (fun hc=>?_)<;>(try simp at hc)<;>(try omega))|refine ZD 17 [] [(0,0),(1,0),(2,0),(3,0),(4,0),(5,0),(6,0),(7,0),(8,0),(9,0),(10,0),(11,0),(12,0),(13,0)] [14] ?_|refine ZD 22 [] [(0,0),(1,0),(2,0),(3,0),(4,0),(5,0),(6,0),(7,0),(8,0),(9,0),(10,0),(11,0),(12,0),(13,0),(14,0),(15,0),(16,0)] [17] ?_|(refine ZF (fun hc=>?_) (fun hc=>?_)<;>(try simp at hc)<;>(try omega)))
end
section
variable (bm:Nat) (q:Mq) (bs:List Bi) (fs:List Fq) (bi:Bi)
def rzC (c:ByteArray) (n:Nat):ByteArray:=c.extract 0 (min n c.size)++zer (n - c.size)
def blZ (bl:List (Int×Bool)) (n:Nat):Nat→List (Int×Bool)
 | 0=>bl
 | k+1=>if n≤64 * k then mset (k:Int) false (blZ bl n k) else blZ bl n k
def mRzF (x:Fq) (n:Nat):Fq:={x with nd:={x.nd with sz:=(n:Int)},ct:=rzC x.ct n,bl:=blZ x.bl n 64}
def mResize (bs:List Bi) (fs:List Fq) (bi:Bi) (n:Int):Int×List Fq:=if (mGet bs fs bi).2≠0 then ((mGet bs fs bi).2,fs) else if n<0∨4096<n then (2,fs) else match fs[(mGet bs fs bi).1]? with
 | none=>(0,fs)
 | some x=>(0,fs.set (mGet bs fs bi).1 (mRzF x n.toNat))
set_option maxHeartbeats 8000000 in
theorem resize27_ok (m:List (ByteArray×Int)) (n:Int) (hl:bs.length≤1000) (hlf:fs.length=bs.length) (hct:∀x ∈ fs,x.ct.size≤4096) (hw:bi.mkr.size≤1000) (hq:q.OK bs.length fs.length) :
  Enters 100∧Spec prog 100 #[.pointer (some ⟨bm,0,none⟩),bi.v,.int .i64 n] [] [MdP bm q bs.length fs.length,BiX q bs,FlX q fs,CM q.rm m fs]
  ⟨Unit,fun _=>.int .i64 (mResize bs fs bi n).1,fun _=>True,fun _=>[],fun _=>[MdP bm q bs.length fs.length,BiX q bs,FlX q (mResize bs fs bi n).2,CM q.rm m (mResize bs fs bi n).2]⟩:=by
 have n1:=get27_ok bm q bs fs bi hl hlf hw
 unfold mResize
 have hgo:=mGet_ok (bs:=bs) (fs:=fs) (bi:=bi)
 generalize mGet bs fs bi=g at *
 obtain ⟨i,e⟩:=g
 dsimp only at *
 by_cases he:e≠0
 ·simp only [if_pos he]
  refine ZV [_,_,_] func100 ntmps100 fun G w hp=>?_
  repeat' (first|refine ZH ?_|refine ZI ?_|refine ZK ?_|refine ZG ?_|refine ZM ?_|refine ZJ ?_|refine ZN ?_|refine ZP (fun b=>?_)|refine ZO (fun b=>?_)|refine ZA ?_|refine ZB ?_|refine ZL ?_|refine ZX ?_|refine ZY ?_|refine Zf ?_|refine Za ?_|refine Zb ?_|refine Zc (fun b=>?_)|refine Zd (fun b=>?_)|refine Ze ?_|refine ZZ ?_|refine ZE (n1) (fun _ _=>?_)|refine l_call0 (n1) (fun _ _=>?_)|refine ZS (n1) (fun _ _=>?_)|(refine ZC (fun hc=>?_) (fun hc=>?_)<;>(try simp at hc)<;>(try omega))|(refine ZQ (fun hc=>?_) (fun hc=>?_)<;>(try simp at hc)<;>(try omega))|refine ZD 7 [] [(0,0),(1,0),(2,0),(3,0),(4,0),(5,0),(6,0),(7,0),(8,0),(9,0),(10,0),(11,0),(12,0),(13,0),(14,0),(15,4),(16,0),(17,0),(18,0)] [19] ?_|(refine ZF (fun hc=>?_) (fun hc=>?_)<;>(try simp at hc)<;>(try omega)))
  exact ZT () rfl trivial
 ·obtain rfl:e=0:=by omega
  simp only [if_neg he]
  obtain ⟨-,-,x,hx,-,-⟩:=hgo rfl
  have hil:=(List.getElem?_eq_some_iff.1 hx).1
  have hxs:=hct x (List.mem_of_getElem? hx)
  by_cases hn:n<0∨4096<n
  ·simp only [if_pos hn]
   refine ZV [_,_,_] func100 ntmps100 fun G w hp=>?_
   repeat' (first|refine ZH ?_|refine ZI ?_|refine ZK ?_|refine ZG ?_|refine ZM ?_|refine ZJ ?_|refine ZN ?_|refine ZP (fun b=>?_)|refine ZO (fun b=>?_)|refine ZA ?_|refine ZB ?_|refine ZL ?_|refine ZX ?_|refine ZY ?_|refine Zf ?_|refine Za ?_|refine Zb ?_|refine Zc (fun b=>?_)|refine Zd (fun b=>?_)|refine Ze ?_|refine ZZ ?_|refine ZE (n1) (fun _ _=>?_)|refine l_call0 (n1) (fun _ _=>?_)|refine ZS (n1) (fun _ _=>?_)|(refine ZC (fun hc=>?_) (fun hc=>?_)<;>(try simp at hc)<;>(try omega))|(refine ZQ (fun hc=>?_) (fun hc=>?_)<;>(try simp at hc)<;>(try omega))|refine ZD 7 [] [(0,0),(1,0),(2,0),(3,0),(4,0),(5,0),(6,0),(7,0),(8,0),(9,0),(10,0),(11,0),(12,0),(13,0),(14,0),(15,4),(16,0),(17,0),(18,0)] [19] ?_|(refine ZF (fun hc=>?_) (fun hc=>?_)<;>(try simp at hc)<;>(try omega)))
   all_goals exact ZT () rfl trivial
  ·simp only [if_neg hn]
   rw [hx]
   dsimp only
   obtain ⟨n',rfl⟩:∃k:Nat,n=(k:Int):=⟨n.toNat,by omega⟩
   simp only [Int.toNat_natCast]
   have w1:IntKind.i64.wrap ((n':Int) - (x.ct.size:Int))=(n':Int) - (x.ct.size:Int):=wrapi (by omega) (by omega)
   have w2:(if (x.ct.size:Int)<(n':Int) then (x.ct.size:Int) else (n':Int))=((min n' x.ct.size:Nat):Int):=by split<;>omega
   have nz:=zerosI_ok ((n':Int) - (x.ct.size:Int)) (by omega)
   have hzn:((n':Int) - (x.ct.size:Int)).toNat=n' - x.ct.size:=by omega
   rw [hzn] at nz
   have hzr:=Ya (n' - x.ct.size)
   have hes:(x.ct.extract 0 (min n' x.ct.size)).size=min n' x.ct.size:=by rw [ByteArray.size_extract];omega
   have hx1:∀g,(fs.set i g)[i]? = some g:=fun g=>by rw [List.getElem?_set_self hil]
   have hls:∀g,(fs.set i g).length=fs.length:=fun g=>List.length_set
   unfold mRzF
   have hW:x.ct.extract 0 (min n' x.ct.size)++zer (n' - x.ct.size)=rzC x.ct n':=rfl
   generalize rzC x.ct n'=W at *
   have hf3:=hq.f3
   have hf4:∀g,AxOK ((fs.set i g).length * 9) q.fq:=fun g=>by rw [hls];exact hf3
   refine ZV [_,_,_] func100 ntmps100 fun G w hp=>?_
   repeat' (first|refine ZH ?_|refine ZI ?_|refine ZK ?_|refine ZG ?_|refine ZM ?_|refine ZJ ?_|refine ZN ?_|refine ZP (fun b=>?_)|refine ZO (fun b=>?_)|refine ZA ?_|refine ZB ?_|refine ZX ?_|refine ZY ?_|refine Zf ?_|refine Za ?_|refine Zb ?_|refine Zc (fun b=>?_)|refine Zd (fun b=>?_)|refine Ze ?_|refine ZZ ?_|refine ZE (n1) (fun _ _=>?_)|refine l_call0 (n1) (fun _ _=>?_)|refine ZS (n1) (fun _ _=>?_)|refine ZE (nz) (fun _ _=>?_)|refine l_call0 (nz) (fun _ _=>?_)|refine ZS (nz) (fun _ _=>?_)|rw [w1]|rw [w2]|refine XZ (m:=fs.length) (sz:=9) i hil ?_|refine Zn 9 i 7 hx ?_|refine r_sHi (s:=x.ct) (min n' x.ct.size) (by omega) ?_|refine r_cat (a:=x.ct.extract 0 (min n' x.ct.size)) (b:=zer (n' - x.ct.size)) ?_ (h:=by omega)|rw [hW]|refine XL (m:=fs.length) (sz:=9) i hil ?_|refine Yp 9 i 7 {x with ct:=W} hx hf3 ?_|(refine ZC (fun hc=>?_) (fun hc=>?_)<;>(try simp at hc)<;>(try omega))|(refine ZQ (fun hc=>?_) (fun hc=>?_)<;>(try simp at hc)<;>(try omega))|refine ZD 7 [FlX _ _] [(0,0),(1,0),(2,0),(3,0),(4,0),(5,0),(6,0),(7,0),(8,0),(9,0),(10,0),(11,0),(12,0),(13,0),(14,0),(15,4),(16,0),(17,0),(18,0),(19,4)] [] ?_|(refine ZF (fun hc=>?_) (fun hc=>?_)<;>(try simp at hc)<;>(try omega)))
   refine Z4 (X:=Unit) (Lx:=fun _=>[Mp Y2 ziv q.rm m,BlF x,CMr fs i]) (p:=fun _=>True) (r:=CM q.rm m fs) (by repeat (first|exact Sel.here|apply Sel.there)) (fun h hh=>⟨(),trivial,cm_open hx hh⟩) (fun _ _=>?_)
   refine YT (X:={k:Nat // k≤64}) (fun k=>[(0,.pointer (some ⟨bm,0,none⟩)),(2,.int .i64 (n':Int)),(7,.int .i64 (i:Int)),(10,.int .i64 (k.1:Int))]) (fun _=>[]) (fun k=>[MdP bm q bs.length fs.length,BiX q bs,FlX q (fs.set i {x with ct:=W}),Mp Y2 ziv q.rm m,Mp ziv blv x.mr (blZ x.bl n' k.1),CMr fs i]) (fun k=>64 - k.1) ⟨0,Nat.zero_le _⟩ ⟨rfl,rfl,rfl,rfl,trivial⟩ ?_
   rintro ⟨k,hk⟩
   dsimp only
   by_cases hlt:k<64
   ·have v1:IntKind.i64.wrap ((k:Int)+1)=((k+1:Nat):Int):=by rw [wrapi (by omega) (by omega)];omega
    have v2:IntKind.i64.wrap (64 * (k:Int))=((64 * k:Nat):Int):=by rw [wrapi (by omega) (by omega)];omega
    by_cases hg:n'≤64 * k
    ·have hb:blZ x.bl n' (k+1)=mset (k:Int) false (blZ x.bl n' k):=by rw [blZ,if_pos hg]
     repeat' (first|refine ZH ?_|refine ZI ?_|refine ZK ?_|refine ZG ?_|refine ZM ?_|refine ZJ ?_|refine ZN ?_|refine ZP (fun b=>?_)|refine ZO (fun b=>?_)|refine ZA ?_|refine ZB ?_|refine ZX ?_|refine ZY ?_|refine Zf ?_|refine Za ?_|refine Zb ?_|refine Zc (fun b=>?_)|refine Zd (fun b=>?_)|refine Ze ?_|refine ZZ ?_|rw [v1]|rw [v2]|refine XZ (m:=fs.length) (sz:=9) i hil ?_|refine Zn 9 i 8 (hx1 _) ?_|refine l_mset (V:=blv) key_zi (k:Int) false ?_|(refine ZC (fun hc=>?_) (fun hc=>?_)<;>(try simp at hc)<;>(try omega))|(refine ZQ (fun hc=>?_) (fun hc=>?_)<;>(try simp at hc)<;>(try omega))|refine ZD 7 [] [(0,0),(1,0),(2,0),(3,0),(4,0),(5,0),(6,0),(7,0),(8,0),(9,0),(10,0),(11,0),(12,0),(13,0),(14,0),(15,4),(16,0),(17,0),(18,0)] [19] ?_|(refine ZF (fun hc=>?_) (fun hc=>?_)<;>(try simp at hc)<;>(try omega)))
     rw [←hb]
     exact Zi ⟨k+1,by omega⟩ (by show 64 - (k+1)<64 - k;omega) ⟨rfl,rfl,rfl,rfl,trivial⟩
    ·have hb:blZ x.bl n' (k+1)=blZ x.bl n' k:=by rw [blZ,if_neg hg]
     repeat' (first|refine ZH ?_|refine ZI ?_|refine ZK ?_|refine ZG ?_|refine ZM ?_|refine ZJ ?_|refine ZN ?_|refine ZP (fun b=>?_)|refine ZO (fun b=>?_)|refine ZA ?_|refine ZB ?_|refine ZX ?_|refine ZY ?_|refine Zf ?_|refine Za ?_|refine Zb ?_|refine Zc (fun b=>?_)|refine Zd (fun b=>?_)|refine Ze ?_|refine ZZ ?_|rw [v1]|rw [v2]|(refine ZC (fun hc=>?_) (fun hc=>?_)<;>(try simp at hc)<;>(try omega))|(refine ZQ (fun hc=>?_) (fun hc=>?_)<;>(try simp at hc)<;>(try omega))|refine ZD 7 [] [(0,0),(1,0),(2,0),(3,0),(4,0),(5,0),(6,0),(7,0),(8,0),(9,0),(10,0),(11,0),(12,0),(13,0),(14,0),(15,4),(16,0),(17,0),(18,0)] [19] ?_|(refine ZF (fun hc=>?_) (fun hc=>?_)<;>(try simp at hc)<;>(try omega)))
     rw [←hb]
     exact Zi ⟨k+1,by omega⟩ (by show 64 - (k+1)<64 - k;omega) ⟨rfl,rfl,rfl,rfl,trivial⟩
   ·obtain rfl:k=64:=by omega
    generalize blZ x.bl n' 64=bl2 at *
    repeat' (first|refine ZH ?_|refine ZI ?_|refine ZK ?_|refine ZG ?_|refine ZM ?_|refine ZJ ?_|refine ZN ?_|refine ZP (fun b=>?_)|refine ZO (fun b=>?_)|refine ZA ?_|refine ZB ?_|refine ZL ?_|refine ZX ?_|refine ZY ?_|refine Zf ?_|refine Za ?_|refine Zb ?_|refine Zc (fun b=>?_)|refine Zd (fun b=>?_)|refine Ze ?_|refine ZZ ?_|refine XZ (m:=fs.length) (sz:=9) i hil ?_|refine Z3 9 i 4 {({x with ct:=W}:Fq) with nd:={x.nd with sz:=(n':Int)}} (hx1 _) (hf4 _) ?_|(refine ZC (fun hc=>?_) (fun hc=>?_)<;>(try simp at hc)<;>(try omega))|(refine ZQ (fun hc=>?_) (fun hc=>?_)<;>(try simp at hc)<;>(try omega))|refine ZD 7 [] [(0,0),(1,0),(2,0),(3,0),(4,0),(5,0),(6,0),(7,0),(8,0),(9,0),(10,0),(11,0),(12,0),(13,0),(14,0),(15,4),(16,0),(17,0),(18,0)] [19] ?_|(refine ZF (fun hc=>?_) (fun hc=>?_)<;>(try simp at hc)<;>(try omega)))
    refine Zr (r:=CM q.rm m (fs.set i {({x with ct:=W}:Fq) with nd:={x.nd with sz:=(n':Int)},bl:=bl2})) (Lx:=[Mp Y2 ziv q.rm m,Mp ziv blv x.mr bl2,CMr fs i]) (fun h hh=>cm_shut hx hh) ?_
    refine k_say (P:=FlX q ((fs.set i {x with ct:=W}).set i {({x with ct:=W}:Fq) with nd:={x.nd with sz:=(n':Int)}})) (flx_bl2 (B:={({x with ct:=W}:Fq) with nd:={x.nd with sz:=(n':Int)},bl:=bl2}) rfl) ?_
    exact ZT () rfl trivial
def mSet (bs:List Bi) (fs:List Fq) (bi:Bi) (nd:Ino):Int×List Fq:=if ichk nd≠0 then (ichk nd,fs) else if bchk bi≠0 then (bchk bi,fs) else match fndI bs bi with
 | none=>(8,fs)
 | some i=>match fs[i]? with
  | none=>(8,fs)
  | some x=>if x.nd.kd≠nd.kd then (11,fs) else (0,fs.set i {x with nd:={nd with sz:=x.nd.sz}})
set_option maxHeartbeats 8000000 in
theorem set27_ok (nd:Ino) (hl:bs.length≤1000) (hlf:fs.length=bs.length) (hw:bi.mkr.size≤1000) (hq:q.OK bs.length fs.length) :
  Enters 101∧Spec prog 101 #[.pointer (some ⟨bm,0,none⟩),bi.v,nd.v] [] [MdP bm q bs.length fs.length,BiX q bs,FlX q fs]
  ⟨Unit,fun _=>.int .i64 (mSet bs fs bi nd).1,fun _=>True,fun _=>[],fun _=>[MdP bm q bs.length fs.length,BiX q bs,FlX q (mSet bs fs bi nd).2]⟩:=by
 have n0:=VG nd
 have n1:=Xr bi (by omega)
 have n2:=find27_ok bm q bs bi fs.length hl
 unfold mSet
 by_cases h0:ichk nd≠0
 ·simp only [if_pos h0]
  generalize ichk nd=e at *
  refine ZV [_,_,_] func101 ntmps101 fun G w hp=>?_
  repeat' (first|refine ZH ?_|refine ZI ?_|refine ZK ?_|refine ZG ?_|refine ZM ?_|refine ZJ ?_|refine ZN ?_|refine ZP (fun b=>?_)|refine ZO (fun b=>?_)|refine ZA ?_|refine ZB ?_|refine ZL ?_|refine ZX ?_|refine ZY ?_|refine Zf ?_|refine Za ?_|refine Zb ?_|refine Zc (fun b=>?_)|refine Zd (fun b=>?_)|refine Ze ?_|refine ZZ ?_|refine ZE (n0) (fun _ _=>?_)|refine l_call0 (n0) (fun _ _=>?_)|refine ZS (n0) (fun _ _=>?_)|(refine ZC (fun hc=>?_) (fun hc=>?_)<;>(try simp at hc)<;>(try omega))|(refine ZQ (fun hc=>?_) (fun hc=>?_)<;>(try simp at hc)<;>(try omega))|refine ZD 10 [] [(0,0),(1,0),(2,0),(3,0),(4,0),(5,0),(6,0),(7,0),(8,0),(9,0),(10,0),(11,0)] [] ?_|refine ZD 13 [] [(0,0),(1,0),(2,0),(3,0),(4,0),(5,0),(6,0),(7,0)] [8] ?_|(refine ZF (fun hc=>?_) (fun hc=>?_)<;>(try simp at hc)<;>(try omega)))
  exact ZT () rfl trivial
 ·simp only [if_neg h0]
  rw [show ichk nd=0 by omega] at n0
  by_cases h1:bchk bi≠0
  ·simp only [if_pos h1]
   generalize bchk bi=e at *
   obtain ⟨c1,c2,c3,c4,c5,c6,c7⟩:=nd
   simp only [Ino.v] at *
   refine ZV [_,_,_] func101 ntmps101 fun G w hp=>?_
   repeat' (first|refine ZH ?_|refine ZI ?_|refine ZK ?_|refine ZG ?_|refine ZM ?_|refine ZJ ?_|refine ZN ?_|refine ZP (fun b=>?_)|refine ZO (fun b=>?_)|refine ZA ?_|refine ZB ?_|refine ZL ?_|refine ZX ?_|refine ZY ?_|refine Zf ?_|refine Za ?_|refine Zb ?_|refine Zc (fun b=>?_)|refine Zd (fun b=>?_)|refine Ze ?_|refine ZZ ?_|refine ZE (n0) (fun _ _=>?_)|refine l_call0 (n0) (fun _ _=>?_)|refine ZS (n0) (fun _ _=>?_)|refine ZE (n1) (fun _ _=>?_)|refine l_call0 (n1) (fun _ _=>?_)|refine ZS (n1) (fun _ _=>?_)|(refine ZC (fun hc=>?_) (fun hc=>?_)<;>(try simp at hc)<;>(try omega))|(refine ZQ (fun hc=>?_) (fun hc=>?_)<;>(try simp at hc)<;>(try omega))|refine ZD 10 [] [(0,0),(1,0),(2,0),(3,0),(4,0),(5,0),(6,0),(7,0),(8,0),(9,0),(10,0),(11,0)] [] ?_|refine ZD 13 [] [(0,0),(1,0),(2,0),(3,0),(4,0),(5,0),(6,0),(7,0)] [8] ?_|(refine ZF (fun hc=>?_) (fun hc=>?_)<;>(try simp at hc)<;>(try omega)))
   exact ZT () rfl trivial
  ·simp only [if_neg h1]
   rw [show bchk bi=0 by omega] at n1
   cases hf:fndI bs bi with
   | none=>
    rw [hf] at n2
    obtain ⟨c1,c2,c3,c4,c5,c6,c7⟩:=nd
    simp only [Ino.v] at *
    refine ZV [_,_,_] func101 ntmps101 fun G w hp=>?_
    repeat' (first|refine ZH ?_|refine ZI ?_|refine ZK ?_|refine ZG ?_|refine ZM ?_|refine ZJ ?_|refine ZN ?_|refine ZP (fun b=>?_)|refine ZO (fun b=>?_)|refine ZA ?_|refine ZB ?_|refine ZL ?_|refine ZX ?_|refine ZY ?_|refine Zf ?_|refine Za ?_|refine Zb ?_|refine Zc (fun b=>?_)|refine Zd (fun b=>?_)|refine Ze ?_|refine ZZ ?_|refine ZE (n0) (fun _ _=>?_)|refine l_call0 (n0) (fun _ _=>?_)|refine ZS (n0) (fun _ _=>?_)|refine ZE (n1) (fun _ _=>?_)|refine l_call0 (n1) (fun _ _=>?_)|refine ZS (n1) (fun _ _=>?_)|refine ZE (n2) (fun _ _=>?_)|refine l_call0 (n2) (fun _ _=>?_)|refine ZS (n2) (fun _ _=>?_)|(refine ZC (fun hc=>?_) (fun hc=>?_)<;>(try simp at hc)<;>(try omega))|(refine ZQ (fun hc=>?_) (fun hc=>?_)<;>(try simp at hc)<;>(try omega))|refine ZD 10 [] [(0,0),(1,0),(2,0),(3,0),(4,0),(5,0),(6,0),(7,0),(8,0),(9,0),(10,0),(11,0)] [] ?_|refine ZD 13 [] [(0,0),(1,0),(2,0),(3,0),(4,0),(5,0),(6,0),(7,0)] [8] ?_|(refine ZF (fun hc=>?_) (fun hc=>?_)<;>(try simp at hc)<;>(try omega)))
    exact ZT () rfl trivial
   | some i=>
    rw [hf] at n2
    have hib:=(List.getElem?_eq_some_iff.1 (Wj hf).1).1
    have hil:i<fs.length:=by omega
    obtain ⟨x,hx⟩:∃x,fs[i]? = some x:=⟨_,List.getElem?_eq_getElem hil⟩
    dsimp only
    rw [hx]
    dsimp only
    have hf3:=hq.f3
    obtain ⟨c1,c2,c3,c4,c5,c6,c7⟩:=nd
    simp only [Ino.v] at *
    by_cases h2:x.nd.kd≠c1
    ·simp only [if_pos h2]
     have hb:(x.nd.kd != c1)=true:=by simpa using h2
     refine ZV [_,_,_] func101 ntmps101 fun G w hp=>?_
     repeat' (first|refine ZH ?_|refine ZI ?_|refine ZK ?_|refine ZG ?_|refine ZM ?_|refine ZJ ?_|refine ZN ?_|refine ZP (fun b=>?_)|refine ZO (fun b=>?_)|refine ZA ?_|refine ZB ?_|refine ZL ?_|refine ZX ?_|refine ZY ?_|refine Zf ?_|refine Za ?_|refine Zb ?_|refine Zc (fun b=>?_)|refine Zd (fun b=>?_)|refine Ze ?_|refine ZZ ?_|refine ZE (n0) (fun _ _=>?_)|refine l_call0 (n0) (fun _ _=>?_)|refine ZS (n0) (fun _ _=>?_)|refine ZE (n1) (fun _ _=>?_)|refine l_call0 (n1) (fun _ _=>?_)|refine ZS (n1) (fun _ _=>?_)|refine ZE (n2) (fun _ _=>?_)|refine l_call0 (n2) (fun _ _=>?_)|refine ZS (n2) (fun _ _=>?_)|refine XL (m:=fs.length) (sz:=9) i hil ?_|refine Zl 9 i 0 hx ?_|rw [hb]|(refine ZC (fun hc=>?_) (fun hc=>?_)<;>(try simp at hc)<;>(try omega))|(refine ZQ (fun hc=>?_) (fun hc=>?_)<;>(try simp at hc)<;>(try omega))|refine ZD 10 [] [(0,0),(1,0),(2,0),(3,0),(4,0),(5,0),(6,0),(7,0),(8,0),(9,0),(10,0),(11,0)] [] ?_|refine ZD 13 [] [(0,0),(1,0),(2,0),(3,0),(4,0),(5,0),(6,0),(7,0)] [8] ?_|(refine ZF (fun hc=>?_) (fun hc=>?_)<;>(try simp at hc)<;>(try omega)))
     exact ZT () rfl trivial
    ·simp only [if_neg h2]
     have hb:(x.nd.kd != c1)=false:=by simpa using h2
     refine ZV [_,_,_] func101 ntmps101 fun G w hp=>?_
     repeat' (first|refine ZH ?_|refine ZI ?_|refine ZK ?_|refine ZG ?_|refine ZM ?_|refine ZJ ?_|refine ZN ?_|refine ZP (fun b=>?_)|refine ZO (fun b=>?_)|refine ZA ?_|refine ZB ?_|refine ZL ?_|refine ZX ?_|refine ZY ?_|refine Zf ?_|refine Za ?_|refine Zb ?_|refine Zc (fun b=>?_)|refine Zd (fun b=>?_)|refine Ze ?_|refine ZZ ?_|refine ZE (n0) (fun _ _=>?_)|refine l_call0 (n0) (fun _ _=>?_)|refine ZS (n0) (fun _ _=>?_)|refine ZE (n1) (fun _ _=>?_)|refine l_call0 (n1) (fun _ _=>?_)|refine ZS (n1) (fun _ _=>?_)|refine ZE (n2) (fun _ _=>?_)|refine l_call0 (n2) (fun _ _=>?_)|refine ZS (n2) (fun _ _=>?_)|refine XL (m:=fs.length) (sz:=9) i hil ?_|refine Zl 9 i 0 hx ?_|rw [hb]|refine XZ (m:=fs.length) (sz:=9) i hil ?_|refine Zn 9 i 4 hx ?_|refine Yp 9 i 0 {x with nd:=⟨c1,c2,c3,c4,x.nd.sz,c6,c7⟩} hx hf3 ?_|(refine ZC (fun hc=>?_) (fun hc=>?_)<;>(try simp at hc)<;>(try omega))|(refine ZQ (fun hc=>?_) (fun hc=>?_)<;>(try simp at hc)<;>(try omega))|refine ZD 10 [] [(0,0),(1,0),(2,0),(3,0),(4,0),(5,0),(6,0),(7,0),(8,0),(9,0),(10,0),(11,0)] [] ?_|refine ZD 13 [FlX _ _] [(0,0),(1,0),(2,0),(3,0),(4,0),(5,0),(6,0),(7,0),(8,4)] [] ?_|(refine ZF (fun hc=>?_) (fun hc=>?_)<;>(try simp at hc)<;>(try omega)))
     exact ZT () rfl trivial
end
section
variable {b off:Nat} {cs:Array Value} {ty:TypeId} {fzn:Nat×Nat} {v:Value}
theorem VZ {T sz:Nat} {o:Option Addr} {m cap i:Nat} {w:World} {rs tr:TRow} (hts:lookT tab t=some rs) (hrs:rs.k = .slice T) (hT:lookT tab T=some tr) (hsz:tr.size=sz) {z:Int} {kd:IntKind} (hz:z=(i:Int)) (hi:i<m) {p:Addr} (ho:o.map (·.add (i * sz))=some p) :
  (Instr.indexAt t (.slice o m cap) (.int kd z)).run prog w = .ok (.pointer (some p)) w:=by
 obtain ⟨d1,hd1,hk1⟩:=Zo.und hts
 rw [hrs] at hk1
 have hu1:(underlying t).run prog w = .ok (.slice T) w:=by
  cases d1<;>simp [chkKind] at hk1
  subst hk1
  simp [underlying,hd1,go_sem]
 have hs1:=Zo.sizeOf hT w
 rw [hsz] at hs1
 cases o with
 | none=>cases ho
 | some a=>
  subst hz
  simp only [Option.map_some,Option.some.injEq] at ho
  unfold Instr.indexAt
  simp only [asIntOf,Sem.run_bind,Sem.run_pure,Result.andThen,hu1]
  have hc:(0:Int)≤(i:Int)∧(i:Int)<((m:Nat):Int):=⟨by omega,by omega⟩
  rw [if_pos hc]
  simp only [Sem.run_bind,hs1,Result.andThen,Sem.run_pure,Int.toNat_natCast,ho]
theorem r_ixK7 {T sz m cap:Nat} {z:Int} {kd:IntKind} {rs tr:TRow} (j:Nat) (hlt:j<m) (nx:Wr n C ops k Q Tl Fs R L ((d,.pointer (some ⟨b,j * sz,none⟩))::E) F N)
  (ho:nth ops i=some ⟨some d,.indexAddr t x y,ty0,pos,aft,gd⟩:=by rfl) (hw:wantL ops E ⟨some d,.indexAddr t x y,ty0,pos,aft,gd⟩=some true:=by rfl) (hx:ev E x=some (.slice (some ⟨b,0,none⟩) m cap):=by rfl) (hy:ev E y=some (.int kd z):=by rfl)
  (hts:lookT tab t=some rs:=by rfl) (hrs:rs.k = .slice T:=by rfl) (hT:lookT tab T=some tr:=by rfl) (hsz:tr.size=sz:=by rfl) (hz:z=(j:Int):=by first|rfl|omega):Wr n C ops k Q Tl Fs R ((i,0)::L) E F N:=
 r_q (fun a w ha=>by
  have hr1:=VZ (kd:=kd) (o:=some ⟨b,0,none⟩) (m:=m) (cap:=cap) (w:=w) hts hrs hT hsz hz hlt (p:=⟨b,j * sz,none⟩) (by simp [Yw rfl])
  simp only [execOp,ha.ev (x:=x) (by rw [ZU];exact hx),ha.ev (x:=y) (by rw [ZU];exact hy),Sem.run_bind,Result.andThen,hr1,Sem.run_pure]) nx ho hw
theorem l_ixK7 {T sz m cap:Nat} {z:Int} {kd:IntKind} {rs tr:TRow} (j:Nat) (hlt:j<m) (nx:Wl n C ops.toArray k Q l ((d,.pointer (some ⟨b,j * sz,none⟩))::E) F R)
  (hw:wantL ops E ⟨some d,.indexAddr t x y,ty0,pos,aft,gd⟩=some true:=by rfl) (hn:Nat.blt d n=true:=by rfl) (hx:ev E x=some (.slice (some ⟨b,0,none⟩) m cap):=by rfl) (hy:ev E y=some (.int kd z):=by rfl)
  (hts:lookT tab t=some rs:=by rfl) (hrs:rs.k = .slice T:=by rfl) (hT:lookT tab T=some tr:=by rfl) (hsz:tr.size=sz:=by rfl) (hz:z=(j:Int):=by first|rfl|omega):Wl n C ops.toArray k Q (⟨some d,.indexAddr t x y,ty0,pos,aft,gd⟩::l) E F R:=
 l_q (fun a w ha=>by
  have hr1:=VZ (kd:=kd) (o:=some ⟨b,0,none⟩) (m:=m) (cap:=cap) (w:=w) hts hrs hT hsz hz hlt (p:=⟨b,j * sz,none⟩) (by simp [Yw rfl])
  simp only [execOp,ha.ev (x:=x) (by rw [ZU];exact hx),ha.ev (x:=y) (by rw [ZU];exact hy),Sem.run_bind,Result.andThen,hr1,Sem.run_pure]) nx (by intro c h;cases h) hw hn
end
structure Op7 where
 k:UInt8
 w:UInt8
 f:Int
 c:Int
 t:ByteArray
 n:Ino
def op7f (o:Op7):List Value:=[.int .u8 o.k.toNat,.int .u8 o.w.toNat,.int .i64 o.f,.int .i64 o.c,.string o.t,.int .i64 o.n.kd,.int .i64 o.n.ow,.int .i64 o.n.gr,.int .i64 o.n.md,.int .i64 o.n.sz,.int .i64 o.n.lk,.string o.n.tg]
def Op7.v (o:Op7):Value:=.agg #[.int .u8 o.k.toNat,.int .u8 o.w.toNat,.int .i64 o.f,.int .i64 o.c,.string o.t,.int .i64 o.n.kd,.int .i64 o.n.ow,.int .i64 o.n.gr,.int .i64 o.n.md,.int .i64 o.n.sz,.int .i64 o.n.lk,.string o.n.tg]
structure Rz7 where
 tx:ByteArray
 n:Int
 b:Bi
 e:Int
 deriving DecidableEq
def Rz7.v (r:Rz7):Value:=.agg #[.string r.tx,.int .i64 r.n,.string r.b.mkr,.int .i64 r.b.nu,.int .i64 r.e]
def bthF (bs:List Bi) (w:UInt8):Bi:=match bs[w.toNat]? with
 | some b=>b
 | none=>⟨⟨#[57]⟩,(w.toNat:Int)⟩
section
variable (bm:Nat) (q:Mq) (bs:List Bi) (fs:List Fq)
set_option maxHeartbeats 1000000 in
theorem YB (wd:UInt8):Enters 58∧Spec prog 58 #[.slice (some ⟨q.bb,0,none⟩) bs.length q.cb,.int .u8 wd.toNat] [] [BiX q bs]
  ⟨Unit,fun _=>(bthF bs wd).v,fun _=>True,fun _=>[],fun _=>[BiX q bs]⟩:=by
 have hw:=wd.toNat_lt
 have w1:IntKind.i64.wrap (wd.toNat:Int)=(wd.toNat:Int):=wrapi (by omega) (by omega)
 unfold bthF
 by_cases h:wd.toNat<bs.length
 ·obtain ⟨x,hx⟩:∃x,bs[wd.toNat]? = some x:=⟨_,List.getElem?_eq_getElem h⟩
  rw [hx]
  refine ZV [_,_] func58 ntmps58 fun G w hp=>?_
  repeat' (first|refine ZH ?_|refine ZI ?_|refine ZK ?_|refine ZG ?_|refine ZM ?_|refine ZJ ?_|refine ZN ?_|refine ZP (fun b=>?_)|refine ZO (fun b=>?_)|refine ZA ?_|refine ZB ?_|refine ZL ?_|rw [w1]|refine l_ixK7 (m:=bs.length) (sz:=2) wd.toNat h ?_|refine Zn 2 wd.toNat 0 hx ?_|(refine ZC (fun hc=>?_) (fun hc=>?_)<;>(try simp at hc)<;>(try omega))|(refine ZF (fun hc=>?_) (fun hc=>?_)<;>(try simp at hc)<;>(try omega)))
  exact ZT () rfl trivial
 ·rw [List.getElem?_eq_none (by omega)]
  refine ZV [_,_] func58 ntmps58 fun G w hp=>?_
  repeat' (first|refine ZH ?_|refine ZI ?_|refine ZK ?_|refine ZG ?_|refine ZM ?_|refine ZJ ?_|refine ZN ?_|refine ZP (fun b=>?_)|refine ZO (fun b=>?_)|refine ZA ?_|refine ZB ?_|refine ZL ?_|rw [w1]|(refine ZC (fun hc=>?_) (fun hc=>?_)<;>(try simp at hc)<;>(try omega))|(refine ZF (fun hc=>?_) (fun hc=>?_)<;>(try simp at hc)<;>(try omega)))
  exact ZT () rfl trivial
theorem row_ax {α:Type} {T sz cap:Nat} {f:α→List Value} {o:Option Addr} {es:List α} {h:H} (hf:∀e,(f e).length=sz) (hm:0<es.length) (hh:Row T sz o es.length cap (es.flatMap f) h) :
  ∃x:Nat×(List Value×(Nat×Nat)),(o=some ⟨x.1,0,none⟩∧es.length * sz+x.2.1.length=cap * sz∧AxOK (es.length * sz) x.2)∧Sep [Ax T f x.1 es x.2] h:=by
 rcases hh with ⟨_,h3,_,_⟩|⟨bb,rest,fz,h1,hb,hxl,hcl,hmc,hfz⟩
 ·omega
 ·have e:=Z1 (f:=f) (sz:=sz) hf es
  rw [List.length_append,e] at hcl hfz
  exact ⟨(bb,rest,fz),⟨h1,hcl,hfz⟩,h,emp,(fun _=>.inr rfl),Sub.refl _,(fun _ _ e=>by cases e),hb,trivial⟩
theorem ax_row {α:Type} {T sz cap b:Nat} {f:α→List Value} {es:List α} {x:List Value×(Nat×Nat)} (hf:∀e,(f e).length=sz) (hz:0<sz) (hc:es.length * sz+x.1.length=cap * sz) (hx:AxOK (es.length * sz) x) (h:H) (hh:Sep [Ax T f b es x] h):Row T sz (some ⟨b,0,none⟩) es.length cap (es.flatMap f) h:=
 Wm (q:=(b,x)) ⟨rfl,Z1 (f:=f) (sz:=sz) hf es,by rw [List.length_append,Z1 (f:=f) (sz:=sz) hf];exact hc,by
  have:es.length * sz≤cap * sz:=by omega
  exact Nat.le_of_mul_le_mul_right this hz,by rw [List.length_append,Z1 (f:=f) (sz:=sz) hf];exact hx⟩ h hh
structure Mk7 where
 b:Bi
 e:Int
 bs:List Bi
 m:List (ByteArray×Int)
def mMake (bs:List Bi) (m:List (ByteArray×Int)) (who:ByteArray) (nd:Ino):Mk7:=if ichk nd≠0 then ⟨Bi.z,ichk nd,bs,m⟩ else if nd.sz≠0 then ⟨Bi.z,2,bs,m⟩ else ⟨⟨who,(mget who m).getD 0⟩,0,bs++[⟨who,(mget who m).getD 0⟩],mset who ((mget who m).getD 0+1) m⟩
def mMakeF (fs:List Fq) (nd:Ino) (r:Nat):List Fq:=if ichk nd≠0 then fs else if nd.sz≠0 then fs else fs++[⟨nd,⟨#[]⟩,r,[]⟩]
abbrev MoL (bm:Nat) (q:Mq) (bs:List Bi) (fs:List Fq) (m:List (ByteArray×Int)):List HP:=[MdP bm q bs.length fs.length,BiX q bs,FlX q fs,CM q.rm m fs]
set_option maxHeartbeats 4000000 in
theorem make27_ok (m:List (ByteArray×Int)) (who:ByteArray) (nd:Ino) (hv0:0≤(mget who m).getD 0) (hv1:(mget who m).getD 0≤1000000) (hl:bs.length≤1000) (hlf:fs.length=bs.length) (hq:q.OK bs.length fs.length) (hb0:0<bs.length) :
  Enters 97∧Spec prog 97 #[.pointer (some ⟨bm,0,none⟩),.string who,nd.v] [] (MoL bm q bs fs m)
   ⟨Mq×Nat,fun _=>.tuple #[(mMake bs m who nd).b.v,.int .i64 (mMake bs m who nd).e],fun x=>x.1.OK (mMake bs m who nd).bs.length (mMakeF fs nd x.2).length,fun _=>[],fun x=>MoL bm x.1 (mMake bs m who nd).bs (mMakeF fs nd x.2) (mMake bs m who nd).m⟩:=by
 have n1:=VG nd
 unfold mMake mMakeF
 by_cases h1:ichk nd≠0
 ·simp only [if_pos h1]
  generalize ichk nd=e at *
  refine ZV [_,_,_] func97 ntmps97 fun G w hp=>?_
  repeat' (first|refine ZH ?_|refine ZI ?_|refine ZK ?_|refine ZG ?_|refine ZM ?_|refine ZJ ?_|refine ZN ?_|refine ZP (fun b=>?_)|refine ZO (fun b=>?_)|refine ZA ?_|refine ZB ?_|refine ZL ?_|refine ZE (n1) (fun _ _=>?_)|refine l_call0 (n1) (fun _ _=>?_)|(refine ZC (fun hc=>?_) (fun hc=>?_)<;>(try simp at hc)<;>(try omega))|(refine ZF (fun hc=>?_) (fun hc=>?_)<;>(try simp at hc)<;>(try omega)))
  exact ZT (q,0) rfl hq
 ·simp only [if_neg h1]
  rw [show ichk nd=0 by omega] at n1
  obtain ⟨a1,a2,a3,a4,a5,a6,a7⟩:=nd
  simp only [Ino.v] at n1 ⊢
  by_cases h2:a5≠0
  ·simp only [if_pos h2]
   refine ZV [_,_,_] func97 ntmps97 fun G w hp=>?_
   repeat' (first|refine ZH ?_|refine ZI ?_|refine ZK ?_|refine ZG ?_|refine ZM ?_|refine ZJ ?_|refine ZN ?_|refine ZP (fun b=>?_)|refine ZO (fun b=>?_)|refine ZA ?_|refine ZB ?_|refine ZL ?_|refine ZE (n1) (fun _ _=>?_)|refine l_call0 (n1) (fun _ _=>?_)|(refine ZC (fun hc=>?_) (fun hc=>?_)<;>(try simp at hc)<;>(try omega))|(refine ZF (fun hc=>?_) (fun hc=>?_)<;>(try simp at hc)<;>(try omega)))
   exact ZT (q,0) rfl hq
  ·obtain rfl:a5=0:=by omega
   simp only [if_neg h2]
   obtain ⟨v,hv⟩:∃v,(mget who m).getD 0=v:=⟨_,rfl⟩
   rw [hv] at hv0 hv1 ⊢
   have hg:∀o,mget who m=o→(o.map ziv).getD (.int .i64 0) = .int .i64 v:=fun o ho=>by
    rw [ho] at hv
    cases o with
    | none=>rw [←hv];rfl
    | some x=>rw [←hv];rfl
   have hg':=hg _ rfl
   have w1:IntKind.i64.wrap (v+1)=v+1:=wrapi (by omega) (by omega)
   refine ZV [_,_,_] func97 ntmps97 fun G w hp=>?_
   refine Z4 (X:=Unit) (Lx:=fun _=>[Mp Y2 ziv q.rm m,fun h=>Sep (fs.map BlF) h]) (p:=fun _=>True) (r:=CM q.rm m fs) (by repeat (first|exact Sel.here|apply Sel.there)) (fun h hh=>⟨(),trivial,cm_two.1 hh⟩) (fun _ _=>?_)
   refine Zr (r:=Row 68 2 (some ⟨q.bb,0,none⟩) bs.length q.cb (bs.flatMap bcf)) (Lx:=[BiX q bs]) (fun h hh=>ax_row (f:=bcf) (es:=bs) (x:=q.bq) (fun _=>rfl) (by decide) hq.b1 hq.b3 h hh) ?_
   refine Zr (r:=Row 73 9 (some ⟨q.bf,0,none⟩) fs.length q.cf (fs.flatMap flq)) (Lx:=[FlX q fs]) (fun h hh=>ax_row (f:=flq) (es:=fs) (x:=q.fq) (fun _=>rfl) (by decide) hq.f1 hq.f3 h hh) ?_
   repeat' (first|refine ZH ?_|refine ZI ?_|refine ZK ?_|refine ZG ?_|refine ZM ?_|refine ZJ ?_|refine ZN ?_|refine ZP (fun b=>?_)|refine ZO (fun b=>?_)|refine ZA ?_|refine ZB ?_|refine ZL ?_|refine ZX ?_|refine ZY ?_|refine Zf ?_|refine Za ?_|refine Zb ?_|refine Zc (fun b=>?_)|refine Zd (fun b=>?_)|refine Ze ?_|refine ZZ ?_|refine ZE (n1) (fun _ _=>?_)|refine l_call0 (n1) (fun _ _=>?_)|refine ZS (n1) (fun _ _=>?_)|refine l_mgetQ key_ln who _ rfl ?_|rw [hg']|rw [w1]|refine l_mset (V:=ziv) key_ln who (v+1) ?_|refine r_app1 (fun o' cap'=>?_)|refine r_mkm (K:=ziv) (kt:=3) (et:=4) key_zi blv (fun r=>?_)|(refine ZC (fun hc=>?_) (fun hc=>?_)<;>(try simp at hc)<;>(try omega))|(refine ZQ (fun hc=>?_) (fun hc=>?_)<;>(try simp at hc)<;>(try omega))|refine ZD 8 [Row 68 _ _ _ _ _] [(0,0),(1,0),(2,0),(3,0),(4,0),(5,0),(6,1),(7,4),(8,0),(9,0)] [10] ?_|refine ZD 9 [Row 73 _ _ _ _ _] [(0,0),(1,0),(2,0),(3,0),(4,0),(5,0),(6,4),(7,0),(8,1),(9,4),(10,0),(11,0)] [12] ?_|(refine ZF (fun hc=>?_) (fun hc=>?_)<;>(try simp at hc)<;>(try omega)))
   rename_i o1 c1
   obtain ⟨nb,hnb⟩:∃nb,(⟨who,v⟩:Bi)=nb:=⟨_,rfl⟩
   obtain ⟨nf,hnf⟩:∃nf,(⟨⟨a1,a2,a3,a4,0,a6,a7⟩,⟨#[]⟩,r,[]⟩:Fq)=nf:=⟨_,rfl⟩
   have l1:(bs++[nb]).length=bs.length+1:=by simp
   have l2:(fs++[nf]).length=fs.length+1:=by simp
   refine k_say (P:=Row 68 2 o1 (bs.length+1) c1 (bs.flatMap bcf++bcf (⟨who,v⟩:Bi))) (P':=Row 68 2 o1 (bs++[nb]).length c1 ((bs++[nb]).flatMap bcf)) (by rw [l1,hnb,List.flatMap_append];simp) ?_
   refine k_say (P:=Row 73 9 o' (fs.length+1) cap' (fs.flatMap flq++flq (⟨⟨a1,a2,a3,a4,0,a6,a7⟩,⟨#[]⟩,r,[]⟩:Fq))) (P':=Row 73 9 o' (fs++[nf]).length cap' ((fs++[nf]).flatMap flq)) (by rw [l2,hnf,List.flatMap_append];simp) ?_
   refine Z4 (X:=Nat×(List Value×(Nat×Nat))) (Lx:=fun x=>[Ax 68 bcf x.1 (bs++[nb]) x.2]) (p:=fun x=>o1=some ⟨x.1,0,none⟩∧(bs++[nb]).length * 2+x.2.1.length=c1 * 2∧AxOK ((bs++[nb]).length * 2) x.2) (r:=Row 68 2 o1 (bs++[nb]).length c1 ((bs++[nb]).flatMap bcf)) (by repeat (first|exact Sel.here|apply Sel.there)) (fun h hh=>row_ax (f:=bcf) (fun _=>rfl) (by omega) hh) (fun x hx=>?_)
   obtain ⟨rfl,x2,x3⟩:=hx
   refine Z4 (X:=Nat×(List Value×(Nat×Nat))) (Lx:=fun y=>[Ax 73 flq y.1 (fs++[nf]) y.2]) (p:=fun y=>o'=some ⟨y.1,0,none⟩∧(fs++[nf]).length * 9+y.2.1.length=cap' * 9∧AxOK ((fs++[nf]).length * 9) y.2) (r:=Row 73 9 o' (fs++[nf]).length cap' ((fs++[nf]).flatMap flq)) (by repeat (first|exact Sel.here|apply Sel.there)) (fun h hh=>row_ax (f:=flq) (fun _=>rfl) (by omega) hh) (fun y hy=>?_)
   obtain ⟨rfl,y2,y3⟩:=hy
   refine Zr (r:=CM q.rm (mset who (v+1) m) (fs++[nf])) (Lx:=[Mp Y2 ziv q.rm (mset who (v+1) m),Mp ziv blv r [],fun h=>Sep (fs.map BlF) h]) (fun h hh=>(cm_mid (pre:=fs) (post:=[]) (e:=nf)).2 (by rw [←hnf,List.append_nil];exact hh)) ?_
   refine k_say (P:=MdP bm ⟨x.1,c1,x.2,y.1,cap',y.2,q.rm⟩ (bs.length+1) (fs.length+1)) (P':=MdP bm ⟨x.1,c1,x.2,y.1,cap',y.2,q.rm⟩ (bs++[nb]).length (fs++[nf]).length) (by rw [l1,l2]) ?_
   subst hnb
   subst hnf
   exact ZT (⟨x.1,c1,x.2,y.1,cap',y.2,q.rm⟩,r) rfl ⟨x2,x3,y2,y3⟩
end
namespace Tr
def mn:Tr→Nm→ByteArray→Nm×ByteArray
 | nil,a,v=>(a,v)
 | node l b u _,_,_=>mn l b u
def hd:Tr→Option (Nm×ByteArray)
 | nil=>none
 | node l b u _=>some (mn l b u)
def del:Tr→Nm→Tr
 | nil,_=>nil
 | node l b u r,a=>if cmpO a b<0 then bal (del l a) b u r else if 0<cmpO a b then bal l b u (del r a) else match hd r with
  | none=>l
  | some x=>bal l x.1 x.2 (del r x.1)
theorem mn_els:∀(l:Tr) (a:Nm) (v:ByteArray) (ys:Al),∃zs,l.els++(a,v)::ys=mn l a v::zs
 | nil,a,v,ys=>⟨ys,rfl⟩
 | node l b u r,a,v,ys=>by
  obtain ⟨zs,h⟩:=mn_els l b u (r.els++(a,v)::ys)
  exact ⟨zs,by show (l.els++(b,u)::r.els)++(a,v)::ys=_;rw [List.append_assoc];exact h⟩
theorem hd_none:∀{r:Tr},hd r=none→r=nil
 | nil,_=>rfl
theorem hd_some:∀{r:Tr} {x:Nm×ByteArray},hd r=some x→∃zs,r.els=x::zs
 | node l b u r,x,h=>by
  cases h
  exact mn_els l b u r.els
end Tr
def delO (a:Nm):Al→Al
 | []=>[]
 | (b,u)::l=>if cmpO a b=0 then l else (b,u)::delO a l
theorem delO_none {a:Nm}:∀{xs:Al},(∀x ∈ xs,cmpO a x.1≠0)→delO a xs=xs
 | [],_=>rfl
 | (b,u)::xs,h=>by
  rw [delO,if_neg (h (b,u) (by simp)),delO_none fun x hx=>h x (by simp [hx])]
theorem delO_no {a:Nm}:∀{xs:Al},getO a xs=none→delO a xs=xs
 | [],_=>rfl
 | (b,u)::xs,h=>by
  rw [getO] at h
  split at h
  ·cases h
  ·rename_i hc
   rw [delO,if_neg hc,delO_no h]
theorem delO_app {a:Nm} {ys:Al}:∀{xs:Al},(∀x ∈ xs,cmpO a x.1≠0)→delO a (xs++ys)=xs++delO a ys
 | [],_=>rfl
 | (b,u)::xs,h=>by
  show delO a ((b,u)::(xs++ys))=_
  rw [delO,if_neg (h (b,u) (by simp)),delO_app fun x hx=>h x (by simp [hx])]
  rfl
theorem delO_left {a:Nm} {ys:Al} (hy:∀y ∈ ys,cmpO a y.1≠0):∀{xs:Al},delO a (xs++ys)=delO a xs++ys
 | []=>delO_none hy
 | (b,u)::xs=>by
  show delO a ((b,u)::(xs++ys))=_
  rw [delO,delO,delO_left hy]
  split<;>rfl
theorem X3 (a:Nm):∀xs:Al,(delO a xs).Sublist xs
 | []=>.slnil
 | (b,u)::xs=>by
  rw [delO]
  split
  ·exact .cons _ (List.Sublist.refl _)
  ·exact .cons_cons _ (X3 a xs)
theorem srt_del {a:Nm} {l:Al} (h:Srt l):Srt (delO a l):=List.Pairwise.sublist (X3 a l) h
theorem delO_len (a:Nm) (l:Al):(delO a l).length≤l.length:=(X3 a l).length_le
theorem ab_sub:∀{xs ys:Al},xs.Sublist ys→Tr.ab xs≤Tr.ab ys:=by
 intro xs ys h
 induction h with
 | slnil=>exact Nat.le_refl _
 | cons a _ ih=>
  simp only [Tr.ab,List.map_cons,List.sum_cons] at ih ⊢;omega
 | cons_cons a _ ih=>
  simp only [Tr.ab,List.map_cons,List.sum_cons] at ih ⊢;omega
theorem Wv:∀(t:Tr) (a:Nm),Srt t.els→(Tr.del t a).els=delO a t.els
 | .nil,_,_=>rfl
 | .node l b u r,a,h=>by
  obtain ⟨h1,h2,h3,h4⟩:=XW h
  have il:=Wv l a h1
  have ir:=fun a=>Wv r a h2
  unfold Tr.del
  show _=delO a (l.els++(b,u)::r.els)
  by_cases hl:cmpO a b<0
  ·rw [if_pos hl,Tr.els_bal,il]
   refine (delO_left fun y hy=>?_).symm
   rcases List.mem_cons.1 hy with rfl|hy
   ·exact fun e=>by dsimp only at e;omega
   ·have:=YI hl (h4 y hy);omega
  ·rw [if_neg hl]
   by_cases hg:0<cmpO a b
   ·rw [if_pos hg,Tr.els_bal,ir]
    rw [delO_app fun x hx=>?_]
    ·rw [delO,if_neg (by omega)]
    ·have h5:cmpO b a<0:=(Z2 b a).2 hg
     have h6:=YI (h3 x hx) h5
     have:=(Z2 _ _).1 h6
     omega
   ·rw [if_neg hg]
    obtain rfl:=(Z8 a b).1 (by omega)
    rw [delO_app fun x hx=>?_]
    ·rw [delO,if_pos (by omega)]
     cases hh:Tr.hd r with
     | none=>
      rw [Tr.hd_none hh]
      show l.els=l.els++[]
      rw [List.append_nil]
     | some x=>
      obtain ⟨zs,hz⟩:=Tr.hd_some hh
      dsimp only
      rw [Tr.els_bal,ir,hz,delO,if_pos (by exact (Z8 _ _).2 rfl)]
    ·have:=(Z2 _ _).1 (h3 x hx)
     omega
theorem getO_del {a n:Nm}:∀{l:Al},Srt l→getO n (delO a l)=if n=a then none else getO n l
 | [],_=>by split<;>rfl
 | (b,u)::l,h=>by
  have hp:=List.pairwise_cons.1 h
  rw [delO]
  by_cases h0:cmpO a b=0
  ·rw [if_pos h0]
   obtain rfl:=(Z8 a b).1 h0
   by_cases hn:n=a
   ·subst hn
    rw [if_pos rfl,Y1 fun x hx=>?_]
    have:=hp.1 x hx
    dsimp only at this
    omega
   ·rw [if_neg hn,getO,if_neg fun e=>hn ((Z8 n a).1 e)]
  ·rw [if_neg h0,getO,getO,getO_del hp.2]
   by_cases hn:n=a
   ·subst hn
    rw [if_pos rfl,if_pos rfl,if_neg h0]
   ·rw [if_neg hn,if_neg hn]
theorem sz_del {t:Tr} (a:Nm) (hs:Srt t.els):(Tr.del t a).sz≤t.sz:=by
 rw [Tr.sz_els,Tr.sz_els t,Wv t a hs];exact delO_len _ _
theorem by_del {t:Tr} (a:Nm) (hs:Srt t.els):(Tr.del t a).by_≤t.by_:=by
 rw [Tr.by_els,Tr.by_els t,Wv t a hs];exact ab_sub (X3 _ _)
theorem hd_by {r:Tr} {x:Nm×ByteArray} (h:Tr.hd r=some x) (hs:Srt r.els):x.2.size+(Tr.del r x.1).by_=r.by_∧1+(Tr.del r x.1).sz=r.sz:=by
 obtain ⟨zs,hz⟩:=Tr.hd_some h
 have e:(Tr.del r x.1).els=zs:=by rw [Wv r _ hs,hz,delO,if_pos ((Z8 _ _).2 rfl)]
 refine ⟨?_,?_⟩
 ·rw [Tr.by_els,Tr.by_els r,e,hz];simp [Tr.ab]
 ·rw [Tr.sz_els,Tr.sz_els r,e,hz];simp;omega
theorem get_left {l r:Tr} {a b:Nm} {u:ByteArray} (h:Srt (Tr.node l b u r).els) (hl:cmpO a b<0) (hg:getO a (Tr.node l b u r).els≠none):getO a l.els≠none:=fun e=>hg (by
 obtain ⟨_,_,h3,h4⟩:=XW h
 show getO a (l.els++(b,u)::r.els)=none
 rw [Xk,e,getO,if_neg (by omega),Y1 fun y hy=>by have:=YI hl (h4 y hy);omega]
 rfl)
theorem get_right {l r:Tr} {a b:Nm} {u:ByteArray} (h:Srt (Tr.node l b u r).els) (hl:0<cmpO a b) (hg:getO a (Tr.node l b u r).els≠none):getO a r.els≠none:=fun e=>hg (by
 obtain ⟨_,_,h3,h4⟩:=XW h
 show getO a (l.els++(b,u)::r.els)=none
 rw [Xk,Y1 fun x hx=>by
  have h5:cmpO b a<0:=(Z2 b a).2 (by omega)
  have h6:=YI (h3 x hx) h5
  have:=(Z2 _ _).1 h6
  omega,getO,if_neg (by omega),e]
 rfl)
theorem get_hd {r:Tr} {x:Nm×ByteArray} (h:Tr.hd r=some x):getO x.1 r.els≠none:=by
 obtain ⟨zs,hz⟩:=Tr.hd_some h
 rw [hz]
 obtain ⟨b,u⟩:=x
 rw [getO,if_pos ((Z8 _ _).2 rfl)]
 exact fun e=>by cases e
structure MX (x:Nm×ByteArray) where
 q:Option Addr
 l:Tr
 b:Nm
 u:ByteArray
 r:Tr
 h:Tr.mn l b u=x
abbrev WoPost (t:Tr):Post:=⟨Option Addr,fun q=>.pointer q,fun _=>True,fun q=>[TrF q t],fun _=>[]⟩
set_option maxHeartbeats 4000000 in
theorem without_ok:∀(t:Tr) (a:Nm) (p:Option Addr),a.owner.size≤1099511627770→Okt t→Srt t.els→getO a t.els≠none→
  Enters 125∧Spec prog 125 #[.pointer p,a.v] [TrF p t] [] (WoPost (Tr.del t a)):=by
 intro t
 induction t with
 | nil=>intro a p _ _ _ hg;exact absurd rfl hg
 | node l nm u r ihl ihr=>
  intro a p ha hok hs hg
  have h1:=hok.s
  have h2:=hok.b
  simp only [Tr.sz] at h1
  simp only [Tr.by_] at h2
  obtain ⟨sl,sr,_,_⟩:=XW hs
  have s1:=sz_del a sl
  have s2:=sz_del a sr
  have b1:=by_del a sl
  have b2:=by_del a sr
  have c1:=YW a nm ha hok.m
  refine ZV [_,_] func125 ntmps125 fun G w hp=>?_
  refine k_tr (p:=p) (l:=l) (r:=r) (a:=nm) (v:=u) (fun bb pl pr hp=>?_)
  subst hp
  generalize hput:Tr.del (.node l nm u r) a=T
  unfold Tr.del at hput
  by_cases hl:cmpO a nm<0
  ·rw [if_pos hl] at hput
   subst hput
   have n1:=ihl a pl ha hok.l sl (get_left hs hl hg)
   repeat' (first|refine ZH ?_|refine ZI ?_|refine ZK ?_|refine ZG ?_|refine ZM ?_|refine ZJ ?_|refine ZN ?_|refine ZP (fun b=>?_)|refine ZO (fun b=>?_)|refine ZA ?_|refine ZB ?_|refine ZX ?_|refine ZY ?_|refine Zf ?_|refine Za ?_|refine Zb ?_|refine Zc (fun b=>?_)|refine Zd (fun b=>?_)|refine Ze ?_|refine ZZ ?_|refine ZE (c1) (fun _ _=>?_)|refine l_call0 (c1) (fun _ _=>?_)|refine ZS (c1) (fun _ _=>?_)|refine ZE (n1) (fun _ _=>?_)|refine l_call0 (n1) (fun _ _=>?_)|refine ZS (n1) (fun _ _=>?_)|refine ZE (Zy _ _ pr (Tr.del l a) r nm u (by omega) (by omega)) (fun _ _=>?_)|refine l_call0 (Zy _ _ pr (Tr.del l a) r nm u (by omega) (by omega)) (fun _ _=>?_)|refine ZS (Zy _ _ pr (Tr.del l a) r nm u (by omega) (by omega)) (fun _ _=>?_)|(refine ZC (fun hc=>?_) (fun hc=>?_)<;>(try simp at hc)<;>(try omega))|(refine ZQ (fun hc=>?_) (fun hc=>?_)<;>(try simp at hc)<;>(try omega))|refine ZD 1 [] [(0,0),(1,0),(2,0),(3,0),(4,0),(5,4),(6,0)] [] ?_|refine ZD 3 [] [(0,0),(1,0),(2,0),(3,0),(4,0),(6,0),(7,0),(8,0),(9,0),(10,0),(5,4),(11,4),(12,0)] [] ?_|refine ZD 5 [] [(0,0),(1,0),(2,0),(3,0),(4,0),(5,0),(6,0),(7,0),(8,0),(9,0),(10,4),(11,4),(12,0)] [] ?_|refine ZD 11 [] [(0,0),(1,0),(2,0),(3,0),(4,0),(5,0),(6,0),(7,0),(8,0),(9,0),(10,0),(11,0),(12,0),(13,4),(14,4),(15,0)] [] ?_|(refine ZF (fun hc=>?_) (fun hc=>?_)<;>(try simp at hc)<;>(try omega)))
   rename_i q _
   exact ZT (post:=WoPost _) (some ⟨q,0,none⟩) rfl trivial
  ·rw [if_neg hl] at hput
   by_cases hgt:0<cmpO a nm
   ·rw [if_pos hgt] at hput
    subst hput
    have n1:=ihr a pr ha hok.r sr (get_right hs hgt hg)
    repeat' (first|refine ZH ?_|refine ZI ?_|refine ZK ?_|refine ZG ?_|refine ZM ?_|refine ZJ ?_|refine ZN ?_|refine ZP (fun b=>?_)|refine ZO (fun b=>?_)|refine ZA ?_|refine ZB ?_|refine ZX ?_|refine ZY ?_|refine Zf ?_|refine Za ?_|refine Zb ?_|refine Zc (fun b=>?_)|refine Zd (fun b=>?_)|refine Ze ?_|refine ZZ ?_|refine ZE (c1) (fun _ _=>?_)|refine l_call0 (c1) (fun _ _=>?_)|refine ZS (c1) (fun _ _=>?_)|refine ZE (n1) (fun _ _=>?_)|refine l_call0 (n1) (fun _ _=>?_)|refine ZS (n1) (fun _ _=>?_)|refine ZE (Zy pl _ _ l (Tr.del r a) nm u (by omega) (by omega)) (fun _ _=>?_)|refine l_call0 (Zy pl _ _ l (Tr.del r a) nm u (by omega) (by omega)) (fun _ _=>?_)|refine ZS (Zy pl _ _ l (Tr.del r a) nm u (by omega) (by omega)) (fun _ _=>?_)|(refine ZC (fun hc=>?_) (fun hc=>?_)<;>(try simp at hc)<;>(try omega))|(refine ZQ (fun hc=>?_) (fun hc=>?_)<;>(try simp at hc)<;>(try omega))|refine ZD 1 [] [(0,0),(1,0),(2,0),(3,0),(4,0),(5,4),(6,0)] [] ?_|refine ZD 3 [] [(0,0),(1,0),(2,0),(3,0),(4,0),(6,0),(7,0),(8,0),(9,0),(10,0),(5,4),(11,4),(12,0)] [] ?_|refine ZD 5 [] [(0,0),(1,0),(2,0),(3,0),(4,0),(5,0),(6,0),(7,0),(8,0),(9,0),(10,4),(11,4),(12,0)] [] ?_|refine ZD 11 [] [(0,0),(1,0),(2,0),(3,0),(4,0),(5,0),(6,0),(7,0),(8,0),(9,0),(10,0),(11,0),(12,0),(13,4),(14,4),(15,0)] [] ?_|(refine ZF (fun hc=>?_) (fun hc=>?_)<;>(try simp at hc)<;>(try omega)))
    rename_i q _
    exact ZT (post:=WoPost _) (some ⟨q,0,none⟩) rfl trivial
   ·rw [if_neg hgt] at hput
    cases r with
    | nil=>
     have hput:l=T:=hput
     subst hput
     refine k_trn (p:=pr) fun hp=>?_
     subst hp
     repeat' (first|refine ZH ?_|refine ZI ?_|refine ZK ?_|refine ZG ?_|refine ZM ?_|refine ZJ ?_|refine ZN ?_|refine ZP (fun b=>?_)|refine ZO (fun b=>?_)|refine ZA ?_|refine ZB ?_|refine ZX ?_|refine ZY ?_|refine Zf ?_|refine Za ?_|refine Zb ?_|refine Zc (fun b=>?_)|refine Zd (fun b=>?_)|refine Ze ?_|refine ZZ ?_|refine ZE (c1) (fun _ _=>?_)|refine l_call0 (c1) (fun _ _=>?_)|refine ZS (c1) (fun _ _=>?_)|(refine ZC (fun hc=>?_) (fun hc=>?_)<;>(try simp at hc)<;>(try omega))|(refine ZQ (fun hc=>?_) (fun hc=>?_)<;>(try simp at hc)<;>(try omega))|refine ZD 1 [] [(0,0),(1,0),(2,0),(3,0),(4,0),(5,4),(6,0)] [] ?_|refine ZD 3 [] [(0,0),(1,0),(2,0),(3,0),(4,0),(6,0),(7,0),(8,0),(9,0),(10,0),(5,4),(11,4),(12,0)] [] ?_|refine ZD 5 [] [(0,0),(1,0),(2,0),(3,0),(4,0),(5,0),(6,0),(7,0),(8,0),(9,0),(10,4),(11,4),(12,0)] [] ?_|refine ZD 11 [] [(0,0),(1,0),(2,0),(3,0),(4,0),(5,0),(6,0),(7,0),(8,0),(9,0),(10,0),(11,0),(12,0),(13,4),(14,4),(15,0)] [] ?_|(refine ZF (fun hc=>?_) (fun hc=>?_)<;>(try simp at hc)<;>(try omega)))
     exact ZT (post:=WoPost _) pl rfl trivial
    | node rl rb ru rr=>
     have hh:Tr.hd (.node rl rb ru rr)=some (Tr.mn rl rb ru):=rfl
     have hput:Tr.bal l (Tr.mn rl rb ru).1 (Tr.mn rl rb ru).2 (Tr.del (.node rl rb ru rr) (Tr.mn rl rb ru).1)=T:=hput
     have hx1:=get_hd hh
     obtain ⟨hx2,hx3⟩:=hd_by hh sr
     have hxo:(Tr.mn rl rb ru).1.owner.size≤1099511627770:=by
      obtain ⟨zs,hz⟩:=Tr.hd_some hh
      exact hok.r.o (Tr.mn rl rb ru) (by rw [hz];exact List.mem_cons_self)
     have n1:=ihr (Tr.mn rl rb ru).1 pr hxo hok.r sr hx1
     generalize hX:Tr.mn rl rb ru=x at *
     obtain ⟨xa,xv⟩:=x
     dsimp only at *
     subst hput
     refine k_tr (p:=pr) (l:=rl) (r:=rr) (a:=rb) (v:=ru) (fun d2 pl2 pr2 hp2=>?_)
     subst hp2
     repeat' (first|refine ZH ?_|refine ZI ?_|refine ZK ?_|refine ZG ?_|refine ZM ?_|refine ZJ ?_|refine ZN ?_|refine ZP (fun b=>?_)|refine ZO (fun b=>?_)|refine ZA ?_|refine ZB ?_|refine ZX ?_|refine ZY ?_|refine Zf ?_|refine Za ?_|refine Zb ?_|refine Zc (fun b=>?_)|refine Zd (fun b=>?_)|refine Ze ?_|refine ZZ ?_|refine ZE (c1) (fun _ _=>?_)|refine l_call0 (c1) (fun _ _=>?_)|refine ZS (c1) (fun _ _=>?_)|(refine ZC (fun hc=>?_) (fun hc=>?_)<;>(try simp at hc)<;>(try omega))|(refine ZQ (fun hc=>?_) (fun hc=>?_)<;>(try simp at hc)<;>(try omega))|refine ZD 1 [] [(0,0),(1,0),(2,0),(3,0),(4,0),(5,4),(6,0)] [] ?_|refine ZD 3 [] [(0,0),(1,0),(2,0),(3,0),(4,0),(6,0),(7,0),(8,0),(9,0),(10,0),(5,4),(11,4),(12,0)] [] ?_|refine ZD 5 [] [(0,0),(1,0),(2,0),(3,0),(4,0),(5,0),(6,0),(7,0),(8,0),(9,0),(10,4),(11,4),(12,0)] [] ?_|refine ZD 11 [] [(0,0),(1,0),(2,0),(3,0),(4,0),(5,0),(6,0),(7,0),(8,0),(9,0),(10,0),(11,0),(12,0),(13,4),(14,4),(15,0)] [] ?_|(refine ZF (fun hc=>?_) (fun hc=>?_)<;>(try simp at hc)<;>(try omega)))
     refine YT (X:=MX (xa,xv)) (fun x=>[(0,.pointer (some ⟨bb,0,none⟩)),(6,.pointer x.q)]) (fun x=>[TrF x.q (.node x.l x.b x.u x.r),Blk bb (ndc pl (some ⟨d2,0,none⟩) nm u (Tr.node l nm u (.node rl rb ru rr)).ht (Tr.node l nm u (.node rl rb ru rr)).sz (Tr.node l nm u (.node rl rb ru rr)).by_),TrF pl l,TrF (some ⟨d2,0,none⟩) (.node rl rb ru rr)]) (fun _=>[]) (fun x=>x.l.sz) ⟨some ⟨d2,0,none⟩,rl,rb,ru,rr,hX⟩ ⟨rfl,rfl,trivial⟩ ?_
     rintro ⟨q,ml,mb,mu,mr,hm⟩
     dsimp only
     refine k_tr (p:=q) (l:=ml) (r:=mr) (a:=mb) (v:=mu) (fun b3 pl3 pr3 hp3=>?_)
     subst hp3
     cases ml with
     | nil=>
      cases hm
      refine k_trn (p:=pl3) fun hp=>?_
      subst hp
      repeat' (first|refine ZH ?_|refine ZI ?_|refine ZK ?_|refine ZG ?_|refine ZM ?_|refine ZJ ?_|refine ZN ?_|refine ZP (fun b=>?_)|refine ZO (fun b=>?_)|refine ZA ?_|refine ZB ?_|refine ZL ?_|refine ZX ?_|refine ZY ?_|refine Zf ?_|refine Za ?_|refine Zb ?_|refine Zc (fun b=>?_)|refine Zd (fun b=>?_)|refine Ze ?_|refine ZZ ?_|refine ZE (n1) (fun _ _=>?_)|refine l_call0 (n1) (fun _ _=>?_)|refine ZS (n1) (fun _ _=>?_)|refine ZE (Zy pl _ _ l (Tr.del (.node rl rb ru rr) xa) xa xv (by omega) (by omega)) (fun _ _=>?_)|refine l_call0 (Zy pl _ _ l (Tr.del (.node rl rb ru rr) xa) xa xv (by omega) (by omega)) (fun _ _=>?_)|refine ZS (Zy pl _ _ l (Tr.del (.node rl rb ru rr) xa) xa xv (by omega) (by omega)) (fun _ _=>?_)|(refine ZC (fun hc=>?_) (fun hc=>?_)<;>(try simp at hc)<;>(try omega))|(refine ZQ (fun hc=>?_) (fun hc=>?_)<;>(try simp at hc)<;>(try omega))|refine ZD 1 [] [(0,0),(1,0),(2,0),(3,0),(4,0),(5,4),(6,0)] [] ?_|refine ZD 3 [] [(0,0),(1,0),(2,0),(3,0),(4,0),(6,0),(7,0),(8,0),(9,0),(10,0),(5,4),(11,4),(12,0)] [] ?_|refine ZD 5 [] [(0,0),(1,0),(2,0),(3,0),(4,0),(5,0),(6,0),(7,0),(8,0),(9,0),(10,4),(11,4),(12,0)] [] ?_|refine ZD 11 [] [(0,0),(1,0),(2,0),(3,0),(4,0),(5,0),(6,0),(7,0),(8,0),(9,0),(10,0),(11,0),(12,0),(13,4),(14,4),(15,0)] [] ?_|(refine ZF (fun hc=>?_) (fun hc=>?_)<;>(try simp at hc)<;>(try omega)))
      rename_i q _
      exact ZT (post:=WoPost _) (some ⟨q,0,none⟩) rfl trivial
     | node nl nb nu nr=>
      refine k_tr (p:=pl3) (l:=nl) (r:=nr) (a:=nb) (v:=nu) (fun b4 pl4 pr4 hp4=>?_)
      subst hp4
      repeat' (first|refine ZH ?_|refine ZI ?_|refine ZK ?_|refine ZG ?_|refine ZM ?_|refine ZJ ?_|refine ZN ?_|refine ZP (fun b=>?_)|refine ZO (fun b=>?_)|refine ZA ?_|refine ZB ?_|refine ZX ?_|refine ZY ?_|refine Zf ?_|refine Za ?_|refine Zb ?_|refine Zc (fun b=>?_)|refine Zd (fun b=>?_)|refine Ze ?_|refine ZZ ?_|(refine ZC (fun hc=>?_) (fun hc=>?_)<;>(try simp at hc)<;>(try omega))|(refine ZQ (fun hc=>?_) (fun hc=>?_)<;>(try simp at hc)<;>(try omega))|refine ZD 1 [] [(0,0),(1,0),(2,0),(3,0),(4,0),(5,4),(6,0)] [] ?_|refine ZD 3 [] [(0,0),(1,0),(2,0),(3,0),(4,0),(6,0),(7,0),(8,0),(9,0),(10,0),(5,4),(11,4),(12,0)] [] ?_|refine ZD 5 [] [(0,0),(1,0),(2,0),(3,0),(4,0),(5,0),(6,0),(7,0),(8,0),(9,0),(10,4),(11,4),(12,0)] [] ?_|refine ZD 11 [] [(0,0),(1,0),(2,0),(3,0),(4,0),(5,0),(6,0),(7,0),(8,0),(9,0),(10,0),(11,0),(12,0),(13,4),(14,4),(15,0)] [] ?_|(refine ZF (fun hc=>?_) (fun hc=>?_)<;>(try simp at hc)<;>(try omega)))
      exact Zi ⟨some ⟨b4,0,none⟩,nl,nb,nu,nr,hm⟩ (by simp only [Tr.sz];omega) ⟨rfl,rfl,trivial⟩
theorem stOK_del {es:Al} {a:Nm} (h:StOK es):StOK (delO a es):=
 ⟨srt_del h.srt,Nat.le_trans (delO_len _ _) h.len,fun x hx=>h.own x ((X3 _ _).subset hx),fun x hx=>h.val x ((X3 _ _).subset hx)⟩
theorem Uc (bs:Nat) (es:Al) (a:Nm) (ha:a.owner.size≤1099511627770) (hat:a.text.size≤1099511627776) (hc:nchk a=0) :
  Enters 62∧Spec prog 62 #[.pointer (some ⟨bs,0,none⟩),a.v] [St (some ⟨bs,0,none⟩) es,Usg] []
   ⟨Nat,fun b=>.tuple #[.pointer (some ⟨b,0,none⟩),.int .i64 0],fun _=>True,fun b=>[St (some ⟨b,0,none⟩) (delO a es)],fun _=>[]⟩:=by
 have hchk:=Y4 a (by omega) hat
 rw [hc] at hchk
 by_cases h:getO a es=none
 ·refine ZV [_,_] func62 ntmps62 fun G w hp=>?_
  rw [delO_no h]
  refine k_mk (F1:=[St (some ⟨bs,0,none⟩) es]) (f:=St (some ⟨bs,0,none⟩) es) (fun hp hF=>hF _ (by simp)) ?_
  refine k_st (ps:=some ⟨bs,0,none⟩) (es:=es) (fun b p t hp he hok=>?_)
  cases hp
  have hfd:=Xv a t (he ▸ hok.srt)
  have n1:=Ww ha p (StOK.okt (he ▸ hok)) (by rw [hfd,he];exact h)
  repeat' (first|refine ZH ?_|refine ZI ?_|refine ZK ?_|refine ZG ?_|refine ZM ?_|refine ZJ ?_|refine ZN ?_|refine ZP (fun b=>?_)|refine ZO (fun b=>?_)|refine ZA ?_|refine ZB ?_|refine ZL ?_|refine ZX ?_|refine ZY ?_|refine Zf ?_|refine Za ?_|refine Zb ?_|refine Zc (fun b=>?_)|refine Zd (fun b=>?_)|refine Ze ?_|refine ZZ ?_|refine ZE (hchk) (fun _ _=>?_)|refine l_call0 (hchk) (fun _ _=>?_)|refine ZS (hchk) (fun _ _=>?_)|refine ZE (n1) (fun _ _=>?_)|refine l_call0 (n1) (fun _ _=>?_)|refine ZS (n1) (fun _ _=>?_)|(refine ZC (fun hc=>?_) (fun hc=>?_)<;>(try simp at hc)<;>(try omega))|(refine ZQ (fun hc=>?_) (fun hc=>?_)<;>(try simp at hc)<;>(try omega))|refine ZD 5 [] [(0,0),(1,0),(2,0),(3,0),(4,0),(5,4),(6,0),(7,0)] [] ?_|(refine ZF (fun hc=>?_) (fun hc=>?_)<;>(try simp at hc)<;>(try omega)))
  exact ZT bs rfl trivial
 ·refine ZV [_,_] func62 ntmps62 fun G w hp=>?_
  refine k_st (ps:=some ⟨bs,0,none⟩) (es:=es) (fun b p t hp he hok=>?_)
  cases hp
  have hokt:Okt t:=StOK.okt (he ▸ hok)
  have hfd:=Xv a t (he ▸ hok.srt)
  have hX:Tr.find a t=some ((getO a es).getD ⟨#[]⟩):=by
   rw [hfd,he]
   cases hg:getO a es with
   | none=>exact absurd hg h
   | some v0=>rfl
  have n1:=W0 ha p hokt hX
  have n2:=without_ok t a p ha hokt (he ▸ hok.srt) (by rw [he];exact h)
  have hels:(Tr.del t a).els=delO a es:=by rw [Wv t a (he ▸ hok.srt),he]
  have hok2:=stOK_del (a:=a) hok
  repeat' (first|refine ZH ?_|refine ZI ?_|refine ZK ?_|refine ZG ?_|refine ZM ?_|refine ZJ ?_|refine ZN ?_|refine ZP (fun b=>?_)|refine ZO (fun b=>?_)|refine ZA ?_|refine ZB ?_|refine ZL ?_|refine ZX ?_|refine ZY ?_|refine Zf ?_|refine Za ?_|refine Zb ?_|refine Zc (fun b=>?_)|refine Zd (fun b=>?_)|refine Ze ?_|refine ZZ ?_|refine ZE (hchk) (fun _ _=>?_)|refine l_call0 (hchk) (fun _ _=>?_)|refine ZS (hchk) (fun _ _=>?_)|refine ZE (n1) (fun _ _=>?_)|refine l_call0 (n1) (fun _ _=>?_)|refine ZS (n1) (fun _ _=>?_)|refine ZE (n2) (fun _ _=>?_)|refine l_call0 (n2) (fun _ _=>?_)|refine ZS (n2) (fun _ _=>?_)|(refine ZC (fun hc=>?_) (fun hc=>?_)<;>(try simp at hc)<;>(try omega))|(refine ZQ (fun hc=>?_) (fun hc=>?_)<;>(try simp at hc)<;>(try omega))|refine ZD 5 [] [(0,0),(1,0),(2,0),(3,0),(4,0),(5,4),(6,0),(7,0)] [] ?_|refine ZD 7 [] [(0,0),(1,0),(2,0),(3,0),(4,0),(5,4),(6,0),(7,1),(8,0),(9,0)] [] ?_|(refine ZF (fun hc=>?_) (fun hc=>?_)<;>(try simp at hc)<;>(try omega)))
  rename_i q _
  refine k_fz (b:=b) ?_
  refine k_mk (F1:=[Blk b (.cells #[.pointer q] 156),TrF q (Tr.del t a)]) (f:=St (some ⟨b,0,none⟩) (delO a es)) (fun hp hF=>⟨Tr.del t a,hels,hok2,b,_,rfl,hF (Blk b (.cells #[.pointer q] 156)) (by simp),hF (TrF q (Tr.del t a)) (by simp)⟩) ?_
  exact ZT b rfl trivial
structure FitD (c:Ch):Prop where
 ok:nchk c.nm=0
 val:c.val.size≤65536
 own:c.nm.owner.size≤1099511627770
 txt:c.nm.text.size≤1099511627776
def stepD (es:Al) (c:Ch):Al:=if c.abs=true then delO c.nm es else insO c.nm c.val es
def applyD (es:Al) (l:List Ch):Al:=l.foldl stepD es
theorem UP (es:Al) (l:List Ch) (c:Ch):applyD es (l++[c])=stepD (applyD es l) c:=by simp [applyD]
theorem applyD_len (es:Al) (l:List Ch):(applyD es l).length≤es.length+l.length:=by
 refine Xf (P:=fun l=>(applyD es l).length≤es.length+l.length) (by simp [applyD]) (fun l c ih=>?_) l
 rw [UP]
 have h1:=Vp c.nm c.val (applyD es l)
 have h2:=delO_len c.nm (applyD es l)
 unfold stepD
 split<;>simp<;>omega
theorem srt_step {es:Al} (h:Srt es) (c:Ch):Srt (stepD es c):=by
 unfold stepD
 split
 ·exact srt_del h
 ·exact srt_ins _ _ _ h
theorem UD:∀(l:List Ch) (es:Al),Srt es→Srt (applyD es l)
 | [],_,h=>h
 | c::l,es,h=>UD l (stepD es c) (srt_step h c)
theorem getO_step {es:Al} (h:Srt es) (c:Ch) (n:Nm):getO n (stepD es c)=if n=c.nm then (if c.abs=true then none else some c.val) else getO n es:=by
 unfold stepD
 split
 ·rw [getO_del h]
 ·rw [Vi]
theorem Xh (n:Nm):∀(l:List Ch) (es:Al),Srt es→(l.map (·.nm)).Nodup→getO n (applyD es l)=match l.find? (fun c=>decide (c.nm=n)) with|some c=>if c.abs=true then none else some c.val|none=>getO n es
 | [],es,_,_=>rfl
 | c::l,es,hs,h=>by
  simp only [List.map_cons,List.nodup_cons] at h
  show getO n (applyD (stepD es c) l)=_
  rw [Xh n l _ (srt_step hs c) h.2,List.find?_cons]
  by_cases hc:c.nm=n
  ·have hn:l.find? (fun c=>decide (c.nm=n))=none:=List.find?_eq_none.2 fun x hx=>by
    simp only [decide_eq_true_eq]
    intro e
    exact h.1 (List.mem_map.2 ⟨x,hx,e.trans hc.symm⟩)
   rw [hn]
   simp only [hc,decide_true]
   rw [getO_step hs,if_pos hc.symm]
  ·simp only [hc,decide_false]
   cases l.find? (fun c=>decide (c.nm=n)) with
   | some c'=>rfl
   | none=>dsimp only;rw [getO_step hs,if_neg (fun e=>hc e.symm)]
theorem getO_afterD {es:Al} (hs:Srt es) (cs:List Ch) (n:Nm):getO n (applyD es (vwr cs))=match vcall cs n with|some c=>if c.abs=true then none else some c.val|none=>getO n es:=by
 rw [Xh n _ es hs (vwr_nodup cs),find_vwr]
set_option maxHeartbeats 1000000 in
theorem apply3_ok (bs:Nat) (es:Al) (o:Option Addr) (cap:Nat) (l:List Ch) (hf:∀c ∈ l,FitD c) (hl:es.length+l.length≤65536) :
  Enters 22∧Spec prog 22 #[.pointer (some ⟨bs,0,none⟩),.slice o l.length cap] [St (some ⟨bs,0,none⟩) es,Sl 108 chf o cap l,Usg] []
   ⟨Nat,fun b=>.tuple #[.pointer (some ⟨b,0,none⟩),.int .i64 0],fun _=>True,fun b=>[St (some ⟨b,0,none⟩) (applyD es l)],fun _=>[]⟩:=by
 refine ZV [_,_] func22 ntmps22 fun G w hp=>?_
 repeat' (first|refine ZH ?_|refine ZI ?_|refine ZK ?_|refine ZG ?_|refine ZM ?_|refine ZJ ?_|refine ZN ?_|refine ZP (fun b=>?_)|refine ZO (fun b=>?_)|refine ZA ?_|refine ZB ?_|refine ZL ?_|(refine ZC (fun hc=>?_) (fun hc=>?_)<;>(try simp at hc))|(refine ZF (fun hc=>?_) (fun hc=>?_)<;>(try simp at hc)))
 refine YT (X:={t:Nat×Nat // t.1≤l.length}) (fun t=>[(0,.pointer (some ⟨t.1.2,0,none⟩)),(11,.slice o l.length cap),(12,.int .i64 (l.length:Int)),(13,.int .i64 (t.1.1:Int))]) (fun t=>[St (some ⟨t.1.2,0,none⟩) (applyD es (l.take t.1.1)),Sl 108 chf o cap l,Usg]) (fun _=>[]) (fun t=>l.length - t.1.1)
  ⟨(0,bs),by simp⟩ ⟨rfl,rfl,rfl,rfl,trivial⟩ ?_
 rintro ⟨⟨i,b1⟩,hi⟩
 dsimp only at hi ⊢
 by_cases hlt:i<l.length
 ·have hgt:=List.getElem?_eq_getElem hlt
  obtain ⟨c,hcc⟩:∃c,l[i]=c:=⟨_,rfl⟩
  rw [hcc] at hgt
  have hm:c ∈ l:=by rw [←hcc];exact List.getElem_mem hlt
  have fc:=hf c hm
  have hst:applyD es (l.take (i+1))=stepD (applyD es (l.take i)) c:=by rw [List.take_succ_eq_append_getElem hlt,hcc,UP]
  have wi:IntKind.i64.wrap ((i:Int)+1)=((i+1:Nat):Int):=by rw [wrapi (by omega) (by omega)];omega
  cases ea:c.abs with
  | true=>
   have n1:=Uc b1 (applyD es (l.take i)) c.nm fc.own fc.txt fc.ok
   repeat' (first|refine ZH ?_|refine ZI ?_|refine ZK ?_|refine ZG ?_|refine ZM ?_|refine ZJ ?_|refine ZN ?_|refine ZP (fun b=>?_)|refine ZO (fun b=>?_)|refine ZA ?_|refine ZB ?_|refine ZE (n1) (fun _ _=>?_)|refine l_call0 (n1) (fun _ _=>?_)|refine l_ixe i c hgt (fun b off=>?_)|refine XJ ?_|rw [ea]|rw [wi]|(refine ZC (fun hc=>?_) (fun hc=>?_)<;>(try simp at hc)<;>(try omega))|(refine ZF (fun hc=>?_) (fun hc=>?_)<;>(try simp at hc)<;>(try omega)))
   rename_i b2 _
   have hs2:applyD es (l.take (i+1))=delO c.nm (applyD es (l.take i)):=by rw [hst];unfold stepD;rw [if_pos ea]
   exact Zi ⟨(i+1,b2),by show i+1≤_;omega⟩ (by show l.length - (i+1)<l.length - i;omega) ⟨rfl,rfl,rfl,rfl,trivial⟩ (hf:=by dsimp only;rw [hs2];(repeat (first|exact trivial|exact Sel.here|apply Sel.there|apply EntF.cons)))
  | false=>
   have he:withE (applyD es (l.take i)) c.nm c.val=0:=by
    have h1:=applyD_len es (l.take i)
    have h2:(l.take i).length=i:=by simp;omega
    have h3:=fc.ok
    have h4:=fc.val
    unfold withE
    rw [if_neg (by simp [h3]),if_neg (by omega),if_neg (fun h=>by omega)]
   have n1:=Vl (some ⟨b1,0,none⟩) (applyD es (l.take i)) c.nm c.val fc.own fc.txt
   rw [he] at n1
   repeat' (first|refine ZH ?_|refine ZI ?_|refine ZK ?_|refine ZG ?_|refine ZM ?_|refine ZJ ?_|refine ZN ?_|refine ZP (fun b=>?_)|refine ZO (fun b=>?_)|refine ZA ?_|refine ZB ?_|refine ZE (n1) (fun _ _=>?_)|refine l_call0 (n1) (fun _ _=>?_)|refine l_ixe i c hgt (fun b off=>?_)|refine XJ ?_|rw [ea]|rw [wi]|(refine ZC (fun hc=>?_) (fun hc=>?_)<;>(try simp at hc)<;>(try omega))|(refine ZF (fun hc=>?_) (fun hc=>?_)<;>(try simp at hc)<;>(try omega)))
   rename_i q _
   refine XD (X:=Nat) (Fx:=fun b=>[St (some ⟨b,0,none⟩) (applyD es (l.take (i+1)))]) (p:=fun b=>q=some ⟨b,0,none⟩) (f:=StR q 0 (insO c.nm c.val (applyD es (l.take i)))) .here (fun h hh=>?_) (fun b2 hb2=>?_)
   ·have hh':(St q (insO c.nm c.val (applyD es (l.take i)))).p h:=hh
    obtain ⟨tr,g1,g2,b3,p3,g3,g4⟩:=hh'
    subst g3
    refine ⟨b3,rfl,fun g hg=>?_⟩
    obtain rfl:=List.mem_singleton.1 hg
    rw [hst]
    unfold stepD
    rw [if_neg (by rw [ea];simp)]
    exact ⟨tr,g1,g2,b3,p3,rfl,g4⟩
   ·subst hb2
    exact Zi ⟨(i+1,b2),by show i+1≤_;omega⟩ (by show l.length - (i+1)<l.length - i;omega) ⟨rfl,rfl,rfl,rfl,trivial⟩
 ·repeat' (first|refine ZH ?_|refine ZI ?_|refine ZK ?_|refine ZG ?_|refine ZM ?_|refine ZJ ?_|refine ZN ?_|refine ZP (fun b=>?_)|refine ZO (fun b=>?_)|refine ZA ?_|refine ZB ?_|refine ZL ?_|(refine ZC (fun hc=>?_) (fun hc=>?_)<;>(try simp at hc)<;>(try omega))|(refine ZF (fun hc=>?_) (fun hc=>?_)<;>(try simp at hc)<;>(try omega)))
  obtain rfl:i=l.length:=by omega
  rw [List.take_length]
  exact ZT b1 rfl trivial
theorem vcs_fitD {cs:List Ch} (h:∀c ∈ cs,FitD c):∀c ∈ vwr cs,FitD c:=fun c hc=>by
 have h1:=(Yb _).mem_iff.1 hc
 obtain ⟨p,hp1,hp2⟩:=List.mem_map.1 h1
 rw [←hp2]
 exact h _ (List.mem_of_getElem? (XQ hp1).1)
set_option maxHeartbeats 1000000 in
theorem vwAfterD_ok (b bs:Nat) (es:Al) (rs:List (Nm×Ch)) (cs:List Ch) (hl:(lastL cs).length≤200) (hf:∀c ∈ cs,FitD c) (hes:es.length≤65000) :
  Enters 49∧Spec prog 49 #[.pointer (some ⟨b,0,none⟩)] [St (some ⟨bs,0,none⟩) es,Usg] [Vw b (some ⟨bs,0,none⟩) rs cs]
   ⟨Nat,fun q=>.tuple #[.pointer (some ⟨q,0,none⟩),.int .i64 0],fun _=>True,fun q=>[St (some ⟨q,0,none⟩) (applyD es (vwr cs))],fun _=>[Vw b (some ⟨bs,0,none⟩) rs cs]⟩:=by
 have n1:=fun (r1 r2:Nat) (o:Option Addr) (cap:Nat)=>V6 b (some ⟨bs,0,none⟩) r1 r2 o cap cs hl (fun c hc=>(hf c hc).own)
 have hw:=WG cs
 have n2:=fun (q:Option Addr×Nat)=>apply3_ok bs es q.1 q.2 (vwr cs) (vcs_fitD hf) (by omega)
 refine ZV [_] func49 ntmps49 fun G w hp=>?_
 refine k_vw fun q=>?_
 obtain ⟨r1,r2,o,cap⟩:=q
 repeat' (first|refine ZH ?_|refine ZI ?_|refine ZK ?_|refine ZG ?_|refine ZM ?_|refine ZJ ?_|refine ZN ?_|refine ZP (fun b=>?_)|refine ZO (fun b=>?_)|refine ZA ?_|refine ZB ?_|refine ZL ?_|refine ZX ?_|refine ZY ?_|refine Zf ?_|refine Za ?_|refine Zb ?_|refine Zc (fun b=>?_)|refine Zd (fun b=>?_)|refine Ze ?_|refine ZZ ?_|refine r_callS (n1 r1 r2 o cap) (fun _=>rfl) (fun q _=>?_)|(refine ZC (fun hc=>?_) (fun hc=>?_)<;>(try simp at hc))|(refine ZQ (fun hc=>?_) (fun hc=>?_)<;>(try simp at hc))|refine ZD 3 [Row _ _ _ _ _ _,Mp Nm.v iv _ _] [(0,0),(1,0),(2,0),(3,0),(4,0),(5,4),(6,4),(7,0),(8,0),(9,0),(10,0)] [] ?_|(refine ZF (fun hc=>?_) (fun hc=>?_)<;>(try simp at hc)))
 obtain ⟨qo,qc⟩:=q
 have n2':=n2 (qo,qc)
 refine r_frz (T:=108) (sz:=7) (f:=chf) (o:=qo) (cap:=qc) (m:=(vwr cs).length) (xs:=(vwr cs).flatMap chf) (vwr cs) ?_ rfl rfl (hs:=.there (.there .here))
 repeat' (first|refine ZS n2' (fun _ _=>?_)|refine ZH ?_|refine ZI ?_|refine ZK ?_|refine ZG ?_|refine ZM ?_|refine ZJ ?_|refine ZN ?_|refine ZP (fun b=>?_)|refine ZO (fun b=>?_)|refine ZA ?_|refine ZB ?_|refine ZL ?_|refine ZE (n2') (fun _ _=>?_)|refine l_call0 (n2') (fun _ _=>?_)|refine ZX ?_|refine ZY ?_|refine ZZ ?_|(refine ZC (fun hc=>?_) (fun hc=>?_)<;>(try simp at hc))|(refine ZF (fun hc=>?_) (fun hc=>?_)<;>(try simp at hc)))
 rename_i b' _
 refine k_vw' (cs:=cs) (rs:=rs) (o:=o) (m:=cs.length) (xs:=cs.flatMap chf) ?_ rfl rfl rfl
 exact ZT b' rfl trivial
section
inductive VQ (α:Type) where
 | ret (a:α)
 | get (n:Nm) (k:ByteArray×Bool→VQ α)
 | set (n:Nm) (v:ByteArray) (k:VQ α)
 | del (n:Nm) (k:VQ α)
namespace VQ
variable {α β γ:Type}
def bind:VQ α→(α→VQ β)→VQ β
 | ret a,f=>f a
 | get n k,f=>get n fun r=>bind (k r) f
 | set n v k,f=>set n v (bind k f)
 | del n k,f=>del n (bind k f)
def rn (cs:List Ch) (n:Nm):List Nm:=if nchk n≠0 then [] else match vcall cs n with
 | some _=>[]
 | none=>[n]
def run (es:Al):VQ α→List Ch→α×List Nm×List Ch
 | ret a,cs=>(a,[],cs)
 | get n k,cs=>((run es (k (vget es cs n)) cs).1,rn cs n++(run es (k (vget es cs n)) cs).2.1,(run es (k (vget es cs n)) cs).2.2)
 | set n v k,cs=>run es k (cs++[⟨n,v,false⟩])
 | del n k,cs=>run es k (cs++[⟨n,⟨#[]⟩,true⟩])
theorem run_bind (es:Al) (f:α→VQ β):∀(p:VQ α) (cs:List Ch),run es (bind p f) cs=((run es (f (run es p cs).1) (run es p cs).2.2).1,(run es p cs).2.1++(run es (f (run es p cs).1) (run es p cs).2.2).2.1,(run es (f (run es p cs).1) (run es p cs).2.2).2.2)
 | ret a,cs=>by simp [bind,run]
 | get n k,cs=>by simp [bind,run,run_bind es f (k (vget es cs n)) cs]
 | set n v k,cs=>by simp [bind,run,run_bind es f k]
 | del n k,cs=>by simp [bind,run,run_bind es f k]
end VQ
open VQ
def rsq (es:Al):List Nm→List (Nm×Ch)→List (Nm×Ch)
 | [],rs=>rs
 | n::N,rs=>rsq es N (mset n ⟨n,(getO n es).getD ⟨#[]⟩,!(getO n es).isSome⟩ rs)
theorem W5 (es:Al):∀(N M:List Nm) (rs:List (Nm×Ch)),rsq es (N++M) rs=rsq es M (rsq es N rs)
 | [],_,_=>rfl
 | _::N,M,_rs=>W5 es N M _
theorem Wf (es:Al) (rs:List (Nm×Ch)) (cs:List Ch) (n:Nm):vread es rs cs n=rsq es (rn cs n) rs:=by
 unfold vread rn
 split
 ·rfl
 ·cases vcall cs n<;>rfl
section
variable {es es':Al}
theorem vget_cq {cs:List Ch} {n:Nm} (h:∀m ∈ rn cs n,getO m es'=getO m es):vget es' cs n=vget es cs n:=by
 unfold vget
 by_cases hc:nchk n≠0
 ·rw [if_pos hc,if_pos hc]
 ·rw [if_neg hc,if_neg hc]
  cases hx:vcall cs n with
  | some c=>rfl
  | none=>rw [h n (by unfold rn;rw [if_neg hc,hx];exact List.mem_singleton.2 rfl)]
theorem run_cq {α:Type}:∀(p:VQ α) (cs:List Ch),(∀n ∈ (p.run es cs).2.1,getO n es'=getO n es)→p.run es' cs=p.run es cs
 | .ret _,_,_=>rfl
 | .get n k,cs,h=>by
  have hv:vget es' cs n=vget es cs n:=vget_cq fun m hm=>h m (by simp only [VQ.run];exact List.mem_append_left _ hm)
  have ih:=run_cq (k (vget es cs n)) cs fun m hm=>h m (by simp only [VQ.run];exact List.mem_append_right _ hm)
  simp only [VQ.run,hv,ih]
 | .set n v k,cs,h=>by
  simp only [VQ.run]
  exact run_cq k _ fun m hm=>h m (by simp only [VQ.run];exact hm)
 | .del n k,cs,h=>by
  simp only [VQ.run]
  exact run_cq k _ fun m hm=>h m (by simp only [VQ.run];exact hm)
theorem rn_chk {cs:List Ch} {n m:Nm} (h:m ∈ rn cs n):m=n∧nchk n=0:=by
 unfold rn at h
 split at h
 ·cases h
 ·rename_i hc
  split at h
  ·cases h
  ·exact ⟨List.mem_singleton.1 h,by simpa using hc⟩
theorem WX {α:Type}:∀(p:VQ α) (cs:List Ch),∀n ∈ (p.run es cs).2.1,nchk n=0
 | .ret _,_,n,h=>by cases h
 | .get n k,cs,m,h=>by
  simp only [VQ.run] at h
  rcases List.mem_append.1 h with h|h
  ·obtain ⟨rfl,h2⟩:=rn_chk h;exact h2
  ·exact WX _ _ m h
 | .set n v k,cs,m,h=>by simp only [VQ.run] at h;exact WX _ _ m h
 | .del n k,cs,m,h=>by simp only [VQ.run] at h;exact WX _ _ m h
end
def entQ (es:Al) (n:Nm):Ch:=⟨n,(getO n es).getD ⟨#[]⟩,!(getO n es).isSome⟩
theorem mem_mset {α β:Type} [DecidableEq α] {a:α} {v:β} {p:α×β}:∀{m:List (α×β)},p ∈ mset a v m→p ∈ m∨p=(a,v)
 | [],h=>.inr (by simpa [mset] using h)
 | x::m,h=>by
  unfold mset at h
  split at h
  ·rcases List.mem_cons.1 h with h|h
   ·exact .inr h
   ·exact .inl (List.mem_cons_of_mem _ h)
  ·rcases List.mem_cons.1 h with h|h
   ·exact .inl (h ▸ List.mem_cons_self)
   ·exact (mem_mset h).imp (List.mem_cons_of_mem _) id
theorem rsq_mem (es:Al):∀(N:List Nm) (rs:List (Nm×Ch)) (p:Nm×Ch),p ∈ rsq es N rs→p ∈ rs∨(p.1 ∈ N∧p.2=entQ es p.1)
 | [],rs,p,h=>.inl h
 | n::N,rs,p,h=>by
  rcases rsq_mem es N _ p h with h1|⟨h1,h2⟩
  ·rcases mem_mset h1 with h3|h3
   ·exact .inl h3
   ·right;rw [h3];exact ⟨List.mem_cons_self,rfl⟩
  ·exact .inr ⟨List.mem_cons_of_mem _ h1,h2⟩
theorem rsq_nodup (es:Al):∀(N:List Nm) (rs:List (Nm×Ch)),(rs.map (·.1)).Nodup→((rsq es N rs).map (·.1)).Nodup
 | [],_,h=>h
 | _n::N,_rs,h=>rsq_nodup es N _ (mset_nodup _ _ _ h)
theorem rsq_has (es:Al):∀(N:List Nm) (rs:List (Nm×Ch)) (n:Nm),(n ∈ N∨n ∈ rs.map (·.1))→n ∈ (rsq es N rs).map (·.1)
 | [],rs,n,h=>h.elim (fun h=>by cases h) id
 | m::N,rs,n,h=>by
  refine rsq_has es N _ n ?_
  rw [UI]
  rcases h with h|h
  ·rcases List.mem_cons.1 h with rfl|h
   ·right
    split
    ·assumption
    ·exact List.mem_append_right _ (List.mem_singleton.2 rfl)
   ·exact .inl h
  ·right
   split
   ·exact h
   ·exact List.mem_append_left _ h
theorem vget_q0 (es:Al) (n:Nm) (h:nchk n=0):(vget es [] n).1=(getO n es).getD ⟨#[]⟩:=by
 unfold vget
 rw [if_neg (by simp [h])]
 rfl
theorem vget_q1 (es:Al) (n:Nm) (h:nchk n≠0):vget es [] n=(⟨#[]⟩,false):=by
 unfold vget
 rw [if_pos h]
def ShN (n:Nm):Prop:=n.owner.size≤1000∧n.text.size≤1000
theorem rsq_ok {es:Al} {N:List Nm} (hN:∀n ∈ N,nchk n=0∧ShN n):RdOK (rsq es N []):=by
 have hin:∀p ∈ rsq es N [],p.1 ∈ N∧p.2=entQ es p.1:=fun p hp=>by
  rcases rsq_mem es N [] p hp with h1|h1
  ·cases h1
  ·exact h1
 exact ⟨rsq_nodup es N [] List.nodup_nil,fun p hp=>by rw [(hin p hp).2];rfl,fun p hp=>by have:=(hN _ (hin p hp).1).2.1;omega⟩
def smallS (es:Al) (N:List Nm):Al:=applyD [] (vrd (rsq es N []))
theorem small_pure {es:Al} {N:List Nm} (hN:∀n ∈ N,nchk n=0∧ShN n) (hS:∀n,(vget es [] n).1.size≤65536) :
  (∀c ∈ vrd (rsq es N []),FitD c)∧Srt (smallS es N)∧(∀n ∈ N,getO n (smallS es N)=getO n es)∧(∀n,(vget (smallS es N) [] n).1.size≤65536):=by
 have hR:=rsq_ok (es:=es) hN
 have hp:(vrd (rsq es N [])).Perm ((rsq es N []).map (·.2)):=Yb _
 have hnn:((rsq es N []).map (·.2)).map (·.nm)=(rsq es N []).map (·.1):=by
  rw [List.map_map]
  exact List.map_congr_left fun p hp=>hR.nm p hp
 have hnd:((vrd (rsq es N [])).map (·.nm)).Nodup:=by
  rw [(hp.map (·.nm)).nodup_iff,hnn]
  exact hR.nd
 have hm:∀c ∈ vrd (rsq es N []),c.nm ∈ N∧c=entQ es c.nm:=fun c hc=>by
  obtain ⟨p,h1,rfl⟩:=List.mem_map.1 (hp.mem_iff.1 hc)
  rcases rsq_mem es N [] p h1 with h2|⟨h2,h3⟩
  ·cases h2
  ·have h5:=hR.nm p h1
   rw [h5]
   exact ⟨h2,h3⟩
 have hv:∀c ∈ vrd (rsq es N []),c.val.size≤65536:=fun c hc=>by
  obtain ⟨h1,h2⟩:=hm c hc
  have h3:=hS c.nm
  rw [vget_q0 es c.nm (hN _ h1).1] at h3
  rw [h2]
  exact h3
 have hs0:Srt ([]:Al):=List.Pairwise.nil
 have hg:∀n ∈ N,getO n (smallS es N)=getO n es:=fun n hn=>by
  obtain ⟨c,h1,rfl⟩:∃c ∈ vrd (rsq es N []),c.nm=n:=by
   have h1:=rsq_has es N [] n (.inl hn)
   rw [←hnn] at h1
   obtain ⟨c,h2,h3⟩:=List.mem_map.1 h1
   exact ⟨c,hp.mem_iff.2 h2,h3⟩
  unfold smallS
  rw [Xh c.nm _ [] hs0 hnd]
  cases hf:(vrd (rsq es N [])).find? (fun d=>decide (d.nm=c.nm)) with
  | none=>exact absurd (List.find?_eq_none.1 hf c h1) (by simp)
  | some d=>
   have h3:=List.mem_of_find?_eq_some hf
   have h4:=List.find?_some hf
   simp only [decide_eq_true_eq] at h4
   dsimp only
   rw [(hm d h3).2,h4]
   unfold entQ
   dsimp only
   cases getO c.nm es with
   | none=>rfl
   | some v=>rfl
 refine ⟨fun c hc=>?_,UD _ _ hs0,hg,fun n=>?_⟩
 ·obtain ⟨h1,_⟩:=hm c hc
  obtain ⟨h2,h3,h4⟩:=hN _ h1
  exact ⟨h2,hv c hc,by omega,by omega⟩
 ·by_cases hc:nchk n=0
  ·rw [vget_q0 _ _ hc]
   unfold smallS
   rw [Xh n _ [] hs0 hnd]
   cases hf:(vrd (rsq es N [])).find? (fun d=>decide (d.nm=n)) with
   | none=>exact Nat.zero_le _
   | some d=>
    have:=hv d (List.mem_of_find?_eq_some hf)
    dsimp only
    split
    ·exact Nat.zero_le _
    ·exact this
  ·rw [vget_q1 _ _ hc];exact Nat.zero_le _
theorem small_run {α:Type} {es:Al} {p:VQ α} (hN:∀n ∈ (p.run es []).2.1,ShN n) (hS:∀n,(vget es [] n).1.size≤65536):p.run (smallS es (p.run es []).2.1) []=p.run es []:=
 run_cq p [] (small_pure (fun n hn=>⟨WX p [] n hn,hN n hn⟩) hS).2.2.1
end
section
theorem src_sl {α:Type} {T sz:Nat} {f:α→List Value} {o:Option Addr} {cap:Nat} {es:List α} (hf:∀e,(f e).length=sz) (hs:Sel (Sl T f o cap es) F F0):Src F R sz (.slice o es.length cap) es.length (es.flatMap f):=
 ⟨rfl,fun G w0 hp0 w hsat=>by
  obtain ⟨hp,hr,st⟩:=hsat
  obtain ⟨hc,rfl|⟨b,cs,fz,pre,post,rfl,hb,hcs⟩⟩:=st.f _ hs.mem
  ·cases o with
   | none=>rfl
   | some a=>
    show (loadCells a (0 * sz)).run prog w=_
    rw [Nat.zero_mul]
    unfold loadCells
    rfl
  ·have h:=st.inp _ _ hb
   show (loadCells ⟨b,pre.length,none⟩ (es.length * sz)).run prog w=_
   have hfl:(es.flatMap f).length=es.length * sz:=Z1 hf es
   have hsz:cs.size=pre.length+(es.length * sz+post.length):=by
    have:=congrArg List.length hcs
    simp only [Array.length_toList,List.length_append,hfl] at this
    exact this
   unfold loadCells
   rw [YG h pre.length (es.length * sz) 0 #[] (by omega)]
   have:((cs.toList.drop (pre.length+0)).take (es.length * sz))=es.flatMap f:=by
    rw [hcs,Nat.add_zero,List.drop_append_of_le_length (Nat.le_refl _),List.drop_length,List.nil_append,←hfl,List.take_append_of_le_length (Nat.le_refl _),List.take_length]
   rw [this];simp⟩
theorem flat_one {α:Type} {f:α→List Value} (h:∀e,(f e).all one1=true) (es:List α):(es.flatMap f).all one1=true:=by
 induction es with
 | nil=>rfl
 | cons a l ih=>rw [List.flatMap_cons,List.all_append,h a,ih];rfl
theorem l_appF {α:Type} {T sz bytes:Nat} {f:α→List Value} {o o2:Option Addr} {m cap m2 c:Nat} {xs:List Value} {es:List α} {ts tx:TypeId} {rs tr rx:TRow}
  (nx:∀o' cap',Wl n C ops.toArray k Q l ((d,.slice o' (m+es.length) cap')::E) F (Row T sz o' (m+es.length) cap' (xs++es.flatMap f)::R0))
  (hw:wantL ops E ⟨some d,.call ⟨.builtin .append,#[x,y],#[ts,tx]⟩,ty0,pos,aft,gd⟩=some true:=by rfl) (hn:Nat.blt d n=true:=by rfl) (hx:ev E x=some (.slice o m cap):=by rfl) (hy:ev E y=some (.slice o2 m2 c):=by rfl)
  (hts:lookT tab ts=some rs:=by rfl) (hrs:rs.k = .slice T:=by rfl) (hT:lookT tab T=some tr:=by rfl) (hsz:tr.size=sz:=by rfl) (hby:tr.bytes=bytes:=by rfl) (htx:lookT tab tx=some rx:=by rfl) (hnx:rx.k = .slice T:=by rfl)
  (hs:Sel (Sl T f o2 c es) F F0:=by (repeat (first|exact Sel.here|apply Sel.there));first|done|fail) (hrow:Sel (Row T sz o m cap xs) R R0:=by (repeat (first|exact Sel.here|apply Sel.there));first|done|fail) (hm2:m2=es.length:=by rfl)
  (hf:∀e,(f e).length=sz:=by intro;rfl) (hone:∀e,(f e).all one1=true:=by intro;rfl) (hb0:bytes≠0:=by decide) (hroom:(2 * (m+es.length)+200) * bytes≤281474976710656:=by simp<;>omega):Wl n C ops.toArray k Q (⟨some d,.call ⟨.builtin .append,#[x,y],#[ts,tx]⟩,ty0,pos,aft,gd⟩::l) E F R:=
 Z6 (fun t ht=>by cases ht;exact Nat.le_of_ble_eq_true hn) (fun c hc=>by cases hc) hw fun a w ha hsat=>by
  subst hm2
  exact (Vn ha hx hy hts hrs hT hsz hby htx (.inl hnx) (src_sl (R:=R) hf hs) (Z1 hf es) (flat_one hone es) hroom hrow hsat hb0).mono fun v w' ⟨o',cap',hv,hs'⟩ a' ha'=>by
   subst hv;exact nx o' cap' a' w' ha' hs'
end
theorem Spec.ex {P:Program} {f:FuncId} {args:Array Value} {F:List Pf} {R:List HP} {post:Post} {X:Type} {r:HP} {Lx:X→List HP} {p:X→Prop} (h:∀hh,r hh→∃x,p x∧Sep (Lx x) hh) (t:∀x,p x→Spec P f args F (Lx x++R) post):Spec P f args F (r::R) post:=fun G w hp hs=>by
 obtain ⟨⟨x,hx⟩,h1⟩:=hs.open' (X:={x // p x}) (L:=fun x=>Lx x.1) fun hh hr=>let ⟨x,h1,h2⟩:=h hh hr;⟨⟨x,h1⟩,h2⟩
 exact t x hx G w hp h1
abbrev WtL (b:Nat) (o:Option Addr) (cap:Nat) (e:Int) (bs:List UInt8):List HP:=[Pt b (.cells #[.slice o bs.length cap,.int .i64 e] 254),Row 5 1 o bs.length cap (byt bs)]
def WtA (b k:Nat):HP:=fun h=>∃q:(Option Addr×Nat)×Int×List UInt8,q.2.2.length≤k∧Sep (WtL b q.1.1 q.1.2 q.2.1 q.2.2) h
def BtA (b k:Nat):Post:=⟨(Option Addr×Nat×Nat)×Int,fun q=>.tuple #[.slice q.1.1 q.1.2.1 q.1.2.2,.int .i64 q.2],fun _=>True,fun _=>[],fun _=>[WtA b k]⟩
abbrev EnA (b bw:Nat) (e:Int) (k:Nat):List HP:=[Pt b (.cells #[.pointer (some ⟨bw,0,none⟩),.int .i64 e] 323),WtA bw k]
theorem bdInfo:∃j,prog.info? 228=some j∧j.size=2:=by
 obtain ⟨j,h1,h2⟩:=Option.map_eq_some_iff.1 (show (prog.info? 228).map (·.size)=some 2 by kernel_rfl)
 exact ⟨j,h1,h2⟩
theorem bdLies:liesAt prog prog.depth 228 (2 / prog.cellsOf 228) 0 228 1=true:=by kernel_rfl
theorem u8Cells:prog.cellsOf 5=1:=by kernel_rfl
section
variable {t2:TypeId} {z:Operand}
theorem l_nepB {a:Addr} (nx:Wl n C ops.toArray k Q l ((d,.bool false)::E) F R) (hw:wantL ops E ⟨some d,.binOp .neq 226 x y t2,ty0,pos,aft,gd⟩=some true:=by rfl) (hn:Nat.blt d n=true:=by rfl)
  (hx:ev E x=some (.pointer (some a)):=by rfl) (hy:ev E y=some (.pointer (some a)):=by rfl):Wl n C ops.toArray k Q (⟨some d,.binOp .neq 226 x y t2,ty0,pos,aft,gd⟩::l) E F R:=
 l_q (fun ac w ha=>by
  obtain ⟨j,h1,h2⟩:=bdInfo
  have hg:(eqGuard .neq 226 x y (.pointer (some a)) (.pointer (some a))).run prog w = .ok () w:=by simp [eqGuard]
  have hb:=Lib.run_neq_ptr_same (P:=prog) w a underlying226 h1
  simp only [execOp,ha.ev (x:=x) (by rw [ZU];exact hx),ha.ev (x:=y) (by rw [ZU];exact hy),Sem.run_bind,hg,Result.andThen,hb,Sem.run_pure]) nx (by intro c h;cases h) hw hn
theorem l_toU {b:Nat} {cs:Array Value} (nx:Wl n C ops.toArray k Q l ((d,.pointer (some ⟨b,0,none⟩))::E) F R) (hw:wantL ops E ⟨some d,.convert 226 328 x,ty0,pos,aft,gd⟩=some true:=by rfl) (hn:Nat.blt d n=true:=by rfl)
  (hx:ev E x=some (.pointer (some ⟨b,0,none⟩)):=by rfl) (hs:Sel (Pt b (.cells cs 228 (0,0))) R R0:=by (repeat (first|exact Sel.here|apply Sel.there));first|done|fail) (hc:cs.size=2:=by rfl):Wl n C ops.toArray k Q (⟨some d,.convert 226 328 x,ty0,pos,aft,gd⟩::l) E F R:=
 Z6 (fun t ht=>by cases ht;exact Nat.le_of_ble_eq_true hn) (fun c hc=>by cases hc) hw fun a w ha hsat=>by
  obtain ⟨j,h1,h2⟩:=bdInfo
  have hb:=hsat.pt hs
  have hsh:w.shape? b=some (228,2):=by simp [World.shape?,hb,hc]
  have hr:=Lib.run_to_unsafe (P:=prog) w ⟨b,0,none⟩ underlying226 underlying328 h1 (by rw [h2];decide) hsh (show 0<2 by decide)
  unfold OpRes
  simp only [execOp,ha.ev (x:=x) (by rw [ZU];exact hx),Sem.run_bind,Result.andThen,hr,Sem.run_pure]
  exact fun a' ha'=>nx a' w ha' hsat
theorem l_fromU {b:Nat} {cs:Array Value} (nx:Wl n C ops.toArray k Q l ((d,.pointer (some ⟨b,0,none⟩))::E) F R) (hw:wantL ops E ⟨some d,.convert 328 226 x,ty0,pos,aft,gd⟩=some true:=by rfl) (hn:Nat.blt d n=true:=by rfl)
  (hx:ev E x=some (.pointer (some ⟨b,0,none⟩)):=by rfl) (hs:Sel (Pt b (.cells cs 228 (0,0))) R R0:=by (repeat (first|exact Sel.here|apply Sel.there));first|done|fail) (hc:cs.size=2:=by rfl):Wl n C ops.toArray k Q (⟨some d,.convert 328 226 x,ty0,pos,aft,gd⟩::l) E F R:=
 Z6 (fun t ht=>by cases ht;exact Nat.le_of_ble_eq_true hn) (fun c hc=>by cases hc) hw fun a w ha hsat=>by
  obtain ⟨j,h1,h2⟩:=bdInfo
  have hb:=hsat.pt hs
  have hsh:w.shape? b=some (228,2):=by simp [World.shape?,hb,hc]
  have hr:=Lib.run_from_unsafe (P:=prog) w ⟨b,0,none⟩ underlying328 underlying226 h1 hsh bdLies
  unfold OpRes
  simp only [execOp,ha.ev (x:=x) (by rw [ZU];exact hx),Sem.run_bind,Result.andThen,hr,Sem.run_pure]
  exact fun a' ha'=>nx a' w ha' hsat
theorem run_callX {f:FuncId} {args:Array Operand} {tys:Array TypeId} {vs:List Value} {v:Value} (hf:∀w,(callFunc f vs.toArray).run prog w = .ok (.value v) w) (hargs:evs (ev E) args.toList some=some vs) {a:Act} {ds:List Deferred} (ha:Agree n ds (look E) a) (w:World) (dst:Option Tmp) :
  (execOp a.eval ⟨dst,.call ⟨.value (.func f),args,tys⟩,ty0,pos,aft,gd⟩).run prog w = .ok (.value v) w:=by
 obtain ⟨us,_,h2,h3⟩:=VK _ _ _ hargs
 obtain rfl:=Option.some.inj h2
 have e1:=h3 a.eval fun x _ u hu=>ha.ev (by rw [ZU];exact hu)
 have e3:args.map a.eval=us.toArray:=by rw [←Array.toList_inj];simpa using e1
 simp only [execOp,resolve,Deferred.ofValue,Act.eval,Sem.run_bind,Sem.run_pure,Result.andThen,invoke]
 have e4:(args.map fun x=>a.eval x)=us.toArray:=e3
 simp only [Act.eval] at e4
 rw [show (#[]:Array Value)++Array.map _ args++#[]=us.toArray by rw [←e3];simp]
 exact hf w
theorem l_noesc {v:Value} {args:Array Operand} {tys:Array TypeId} (nx:Wl n C ops.toArray k Q l ((d,v)::E) F R) (hw:wantL ops E ⟨some d,.call ⟨.value (.func 207),args,tys⟩,ty0,pos,aft,gd⟩=some true:=by rfl) (hn:Nat.blt d n=true:=by rfl)
  (hargs:evs (ev E) args.toList some=some [v]:=by rfl):Wl n C ops.toArray k Q (⟨some d,.call ⟨.value (.func 207),args,tys⟩,ty0,pos,aft,gd⟩::l) E F R:=
 Z6 (fun t ht=>by cases ht;exact Nat.le_of_ble_eq_true hn) (fun c hc=>by cases hc) hw fun a w ha hsat=>by
  have hc:∀w,(callFunc 207 [v].toArray).run prog w = .ok (.value v) w:=fun w=>by
   rw [run_callFunc_extern func207 (by kernel_rfl) (by kernel_rfl) (by kernel_rfl) (e:=Extern.AbiNoEscape.same) (by kernel_rfl),Lib.run_noEscape]
   rfl
  unfold OpRes
  rw [run_callX hc hargs ha w]
  exact fun a' ha'=>nx a' w ha' hsat
theorem r_usd {o:Option Addr} {m c:Nat} {tys:Array TypeId} (nx:Wr n C ops k Q Tl Fs R L ((d,.pointer o)::E) F N)
  (ho:nth ops i=some ⟨some d,.call ⟨.builtin .unsafeSliceData,#[x],tys⟩,ty0,pos,aft,gd⟩:=by rfl) (hw:wantL ops E ⟨some d,.call ⟨.builtin .unsafeSliceData,#[x],tys⟩,ty0,pos,aft,gd⟩=some true:=by rfl) (hx:ev E x=some (.slice o m c):=by rfl) (hc:o=none∨c≠0):Wr n C ops k Q Tl Fs R ((i,0)::L) E F N:=
 r_q (fun a w ha=>by
  have e1:=ha.ev (x:=x) (by rw [ZU];exact hx)
  have hr:(Builtin.unsafeSliceData_ tys ty0 #[.slice o m c]).run prog w = .ok (.pointer o) w:=by
   rcases hc with rfl|hc
   ·exact Lib.run_unsafeSliceData_nil (P:=prog) w tys ty0 m c
   ·cases o with
    | none=>exact Lib.run_unsafeSliceData_nil (P:=prog) w tys ty0 m c
    | some a=>exact Lib.run_unsafeSliceData_row (P:=prog) w tys ty0 a m c hc
  simp only [execOp,resolve,Sem.run_bind,Sem.run_pure,Result.andThen,invoke,builtin,List.map_toArray,List.map_cons,List.map_nil,e1,hr]) nx ho hw
theorem r_ust0 {o:Option Addr} {pt it:TypeId} (nx:Wr n C ops k Q Tl Fs R L ((d,.string ⟨#[]⟩)::E) F N)
  (ho:nth ops i=some ⟨some d,.call ⟨.builtin .unsafeString,#[x,y],#[pt,it]⟩,ty0,pos,aft,gd⟩:=by rfl) (hw:wantL ops E ⟨some d,.call ⟨.builtin .unsafeString,#[x,y],#[pt,it]⟩,ty0,pos,aft,gd⟩=some true:=by rfl)
  (hx:ev E x=some (.pointer o):=by rfl) (hy:ev E y=some (.int .i64 0):=by rfl):Wr n C ops k Q Tl Fs R ((i,0)::L) E F N:=
 r_q (fun a w ha=>by
  have e1:=ha.ev (x:=x) (by rw [ZU];exact hx)
  have e2:=ha.ev (x:=y) (by rw [ZU];exact hy)
  have hr:=Lib.run_unsafeString_none (P:=prog) w pt it ty0 o
  simp only [execOp,resolve,Sem.run_bind,Sem.run_pure,Result.andThen,invoke,builtin,List.map_toArray,List.map_cons,List.map_nil,e1,e2,hr]
  rfl) nx ho hw
theorem frz_w {w:World} {g m:Nat} {cs:Array Value} {T:TypeId} {fz:Nat×Nat} (hb:w.heap[g]? = some (.cells cs T fz)):∃fz',(w.freeze ⟨g,0,none⟩ m).heap[g]? = some (.cells cs T fz')∧Same w (w.freeze ⟨g,0,none⟩ m)∧∀e,e≠g→(w.freeze ⟨g,0,none⟩ m).heap[e]? = w.heap[e]?:=by
 obtain ⟨lo,hi⟩:=fz
 unfold World.freeze
 split
 ·exact ⟨(lo,hi),hb,Same.refl w,fun _ _=>rfl⟩
 ·refine ⟨if lo == hi then (0,0+m) else (min lo 0,max hi (0+m)),?_,⟨rfl,rfl,rfl,by simp⟩,fun e he=>?_⟩
  ·simp only [Array.getElem?_modify,if_true,hb,Option.map_some]
  ·simp only [Array.getElem?_modify]
   rw [if_neg (fun h=>he h.symm)]
theorem r_ust {g:Nat} {bs:List UInt8} {rest:List Value} {fz:Nat×Nat} {pt it:TypeId} (hne:bs≠[]) (hlt:bs.length≤1099511627776) (hp:prog.underlying pt=some (.pointer 5)) (nx:∀fz',Wr n C ops k Q Tl Fs R L ((d,.string ⟨bs.toArray⟩)::E) F (Pt g (.cells (byt bs++rest).toArray 5 fz')::N'))
  (ho:nth ops i=some ⟨some d,.call ⟨.builtin .unsafeString,#[x,y],#[pt,it]⟩,ty0,pos,aft,gd⟩:=by rfl) (hw:wantL ops E ⟨some d,.call ⟨.builtin .unsafeString,#[x,y],#[pt,it]⟩,ty0,pos,aft,gd⟩=some true:=by rfl)
  (hx:ev E x=some (.pointer (some ⟨g,0,none⟩)):=by rfl) (hy:ev E y=some (.int .i64 (bs.length:Int)):=by rfl) (hs:Sel (Pt g (.cells (byt bs++rest).toArray 5 fz)) N N':=by (repeat (first|exact Sel.here|apply Sel.there));first|done|fail):Wr n C ops k Q Tl Fs R ((i,4)::L) E F N:=
 Ye ho fun hp' hr w st hz sb=>by
  simp only [Zq hw]
  refine ⟨⟨{_fz:Nat×Nat // True},fun _=>.string ⟨bs.toArray⟩,fun _=>True,fun _=>F,fun fz'=>Pt g (.cells (byt bs++rest).toArray 5 fz'.1)::N'⟩,fun a G w hp'' ha hsub hsat=>?_,fun fz' _=>nx fz'.1 hp' hr w st hz sb⟩
  have hb:=hsat.pt hs
  have hr1:=Lib.run_unsafeString_row (P:=prog) w pt it ty0 5 hp u8Cells g (byt bs++rest).length (by simp [World.shape?,hb]) bs hne (by simp [byt]) (by omega) (fun j u hj=>by
   have hlt2:j<bs.length:=(List.getElem?_eq_some_iff.1 hj).1
   simp only [World.cell?,Addr.add]
   have e:(byt bs++rest)[j]? = some (.int .u8 u.toNat):=by rw [List.getElem?_append_left (by simp [byt];omega)];simp [byt,hj]
   by_cases h0:j=0
   ·subst h0;simp [hb] at e ⊢;exact e
   ·simp [h0,hb] at e ⊢;exact e)
  obtain ⟨fz',g2,g3,g4⟩:=frz_w (m:=bs.length) hb
  unfold OpRes
  have e1:=ha.ev (x:=x) (by rw [ZU];exact hx)
  have e2:=ha.ev (x:=y) (by rw [ZU];exact hy)
  simp only [execOp,resolve,Sem.run_bind,Sem.run_pure,Result.andThen,invoke,builtin,List.map_toArray,List.map_cons,List.map_nil,e1,e2,hr1]
  exact ⟨⟨fz',trivial⟩,trivial,trivial,(show Sat G w hp'' F (Pt g (.cells (byt bs++rest).toArray 5 fz)::N') w from hsat.sel hs).write g3 g2 fun e he _=>g4 e he⟩
end
theorem copyCheck_ok (b:Nat) (p:Option Addr) (v:Value) (hp:p=none∨p=some ⟨b,0,none⟩):Enters 167∧Spec prog 167 #[.pointer (some ⟨b,0,none⟩)] [] [Pt b (.cells #[.pointer p,v] 228)]
  ⟨Unit,fun _=>.tuple #[],fun _=>True,fun _=>[],fun _=>[Pt b (.cells #[.pointer (some ⟨b,0,none⟩),v] 228)]⟩:=by
 rcases hp with rfl|rfl
 ·refine ZV [_] func167 ntmps167 fun G w hp=>?_
  repeat' (first|refine ZH ?_|refine ZI ?_|refine ZK ?_|refine ZG ?_|refine ZM ?_|refine ZJ ?_|refine ZN ?_|refine ZP (fun b=>?_)|refine ZO (fun b=>?_)|refine ZA ?_|refine ZB ?_|refine ZL ?_|refine l_toU ?_|refine l_noesc ?_|refine l_fromU ?_|(refine ZC (fun hc=>?_) (fun hc=>?_)<;>(try simp at hc))|(refine ZF (fun hc=>?_) (fun hc=>?_)<;>(try simp at hc)))
  exact Y8 () rfl trivial
 ·refine ZV [_] func167 ntmps167 fun G w hp=>?_
  repeat' (first|refine ZH ?_|refine ZI ?_|refine ZK ?_|refine ZG ?_|refine ZM ?_|refine ZJ ?_|refine ZN ?_|refine ZP (fun b=>?_)|refine ZO (fun b=>?_)|refine ZA ?_|refine ZB ?_|refine ZL ?_|refine l_nepB ?_|(refine ZC (fun hc=>?_) (fun hc=>?_)<;>(try simp at hc))|(refine ZF (fun hc=>?_) (fun hc=>?_)<;>(try simp at hc)))
  exact Y8 () rfl trivial
abbrev BdL (b:Nat) (p o:Option Addr) (cap:Nat) (bs:List UInt8):List HP:=[Pt b (.cells #[.pointer p,.slice o bs.length cap] 228),Row 5 1 o bs.length cap (byt bs)]
def Bdr (b:Nat) (bs:List UInt8):HP:=fun h=>∃q:Option Addr×Option Addr×Nat,((q.1=none∨q.1=some ⟨b,0,none⟩)∧(bs=[]→q.2.1=none))∧Sep (BdL b q.1 q.2.1 q.2.2 bs) h
set_option maxHeartbeats 1000000 in
theorem bdWrite_ok (b:Nat) (bs:List UInt8) (o2:Option Addr) (c2:Nat) (s:List UInt8) (hs:s≠[]) (hl:bs.length≤1000000) (hl2:s.length≤1000000):Enters 121∧Spec prog 121 #[.pointer (some ⟨b,0,none⟩),.slice o2 s.length c2] [Sl 5 bf o2 c2 s] [Bdr b bs]
  ⟨Unit,fun _=>.tuple #[.int .i64 s.length,.nilIface],fun _=>True,fun _=>[],fun _=>[Bdr b (bs++s)]⟩:=by
 refine ZV [_,_] func121 ntmps121 fun G w hp=>?_
 refine Z4 (X:=Option Addr×Option Addr×Nat) (Lx:=fun q=>BdL b q.1 q.2.1 q.2.2 bs) (p:=fun q=>(q.1=none∨q.1=some ⟨b,0,none⟩)∧(bs=[]→q.2.1=none)) (r:=Bdr b bs) .here (fun h hh=>hh) (fun q hq=>?_)
 obtain ⟨p,o,cap⟩:=q
 obtain ⟨hp,ho⟩:=hq
 dsimp only at hp ho
 have n1:=fun v=>copyCheck_ok b p v hp
 repeat' (first|refine ZH ?_|refine ZI ?_|refine ZK ?_|refine ZG ?_|refine ZM ?_|refine ZJ ?_|refine ZN ?_|refine ZP (fun b=>?_)|refine ZO (fun b=>?_)|refine ZA ?_|refine ZB ?_|refine ZL ?_|refine ZE (n1 _) (fun _ _=>?_)|refine l_call0 (n1 _) (fun _ _=>?_)|refine l_appF (es:=s) (fun o' cap'=>?_) (hroom:=by simp only [Nat.mul_one];omega)|(refine ZC (fun hc=>?_) (fun hc=>?_)<;>(try simp at hc))|(refine ZF (fun hc=>?_) (fun hc=>?_)<;>(try simp at hc)))
 have hE:byt bs++s.flatMap bf=byt (bs++s):=by rw [Yx,Xd s]
 rw [hE,←List.length_append]
 refine Zr (r:=Bdr b (bs++s)) (Lx:=BdL b (some ⟨b,0,none⟩) o' cap' (bs++s)) (fun h hh=>⟨(some ⟨b,0,none⟩,o',cap'),⟨.inr rfl,fun h=>absurd (List.append_eq_nil_iff.1 h).2 hs⟩,hh⟩) ?_
 exact ZT () rfl trivial
theorem u8Ptr:prog.underlying 288=some (.pointer 5):=underlying288
set_option maxHeartbeats 1000000 in
theorem bdString_ok (b:Nat) (bs:List UInt8) (hl:bs.length≤1099511627776):Enters 122∧Spec prog 122 #[.pointer (some ⟨b,0,none⟩)] [] [Bdr b bs] (RetV (.string ⟨bs.toArray⟩)):=by
 refine ZV [_] func122 ntmps122 fun G w hp=>?_
 refine Z4 (X:=Option Addr×Option Addr×Nat) (Lx:=fun q=>BdL b q.1 q.2.1 q.2.2 bs) (p:=fun q=>(q.1=none∨q.1=some ⟨b,0,none⟩)∧(bs=[]→q.2.1=none)) (r:=Bdr b bs) .here (fun h hh=>hh) (fun q hq=>?_)
 obtain ⟨p,o,cap⟩:=q
 obtain ⟨hp,ho⟩:=hq
 dsimp only at hp ho ⊢
 by_cases hb:bs=[]
 ·subst hb
  obtain rfl:=ho rfl
  repeat' (first|refine ZH ?_|refine ZI ?_|refine ZK ?_|refine ZG ?_|refine ZM ?_|refine ZJ ?_|refine ZN ?_|refine ZP (fun b=>?_)|refine ZO (fun b=>?_)|refine ZA ?_|refine ZB ?_|refine ZL ?_|refine ZX ?_|refine ZY ?_|refine Zf ?_|refine Za ?_|refine Zb ?_|refine Zc (fun b=>?_)|refine Zd (fun b=>?_)|refine Ze ?_|refine ZZ ?_|refine r_usd ?_ (hc:=.inl rfl)|refine r_ust0 ?_|(refine ZC (fun hc=>?_) (fun hc=>?_)<;>(try simp at hc))|(refine ZQ (fun hc=>?_) (fun hc=>?_)<;>(try simp at hc))|refine ZD 1 [] [(0,0),(1,0),(2,0),(3,0),(4,0),(5,0),(6,0),(7,0),(8,0),(9,0),(10,0),(11,0)] [] ?_|(refine ZF (fun hc=>?_) (fun hc=>?_)<;>(try simp at hc)))
  exact ZT () rfl trivial
 ·have hb0:0<bs.length:=List.length_pos_iff.2 hb
  refine Z4 (X:=Nat×List Value×(Nat×Nat)) (Lx:=fun q=>[Pt q.1 (.cells (byt bs++q.2.1).toArray 5 q.2.2)]) (p:=fun q=>o=some ⟨q.1,0,none⟩∧cap≠0) (r:=Row 5 1 o bs.length cap (byt bs)) (.there .here) (fun hh' hh=>?_) (fun q hq=>?_)
  ·rcases hh with ⟨_,h0,_⟩|⟨g,rest,fz,h1,h2,h3,h4,h5,h6⟩
   ·omega
   ·exact ⟨(g,rest,fz),⟨h1,by omega⟩,hh',emp,fun _=>.inr rfl,fun _ _ e=>e,fun _ _ e=>(by cases e),h2,trivial⟩
  ·obtain ⟨g,rest,fz⟩:=q
   obtain ⟨rfl,hc⟩:=hq
   dsimp only at hc ⊢
   repeat' (first|refine ZH ?_|refine ZI ?_|refine ZK ?_|refine ZG ?_|refine ZM ?_|refine ZJ ?_|refine ZN ?_|refine ZP (fun b=>?_)|refine ZO (fun b=>?_)|refine ZA ?_|refine ZB ?_|refine ZL ?_|refine ZX ?_|refine ZY ?_|refine Zf ?_|refine Za ?_|refine Zb ?_|refine Zc (fun b=>?_)|refine Zd (fun b=>?_)|refine Ze ?_|refine ZZ ?_|refine r_usd ?_ (hc:=.inr hc)|refine r_ust hb hl u8Ptr (fun fz'=>?_)|(refine ZC (fun hc=>?_) (fun hc=>?_)<;>(try simp at hc))|(refine ZQ (fun hc=>?_) (fun hc=>?_)<;>(try simp at hc))|refine ZD 1 [Pt g (.cells _ 5 _)] [(0,0),(1,0),(2,0),(3,0),(4,0),(5,0),(6,0),(7,0),(8,0),(9,0),(10,4),(11,0)] [] ?_|(refine ZF (fun hc=>?_) (fun hc=>?_)<;>(try simp at hc)))
   exact ZT () rfl trivial
end Go.Proofs.YtdkndahndgkmnaaGreatDoor
