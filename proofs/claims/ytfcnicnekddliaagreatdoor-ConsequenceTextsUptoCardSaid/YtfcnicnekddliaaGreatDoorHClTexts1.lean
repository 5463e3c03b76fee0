/-
  The library's contracts, laid at this program: strconv.Itoa, strings.Join.
  The statement's own decimal numerals.
  The text of a consequence.
  The law ConsequenceTexts, walked.
  The law ConsequenceTexts, walked.
  The laid tables of the statement ConsequenceTexts; a consequence as an argument.
  Conditions: those that each theorem states.
-/
import Derived.Shelf.LaysM
import Derived.Shelf.Strconv.Itoa3
import Derived.Shelf.Strings.OnBuilder
import Derived.Test.YtfcnicnekddliaaGreatDoorK1
import Derived.Test.YtfcnicnekddliaaGreatDoorK2
import Derived.Test.YtfcnicnekddliaaGreatDoorK3
set_option maxRecDepth 10000
namespace Go.Proofs
open Go.Shelf
def Tryz.laysM171_ren:Go.Shelf.Ren:=⟨fun|171=>18|243=>48|246=>77|283=>110|284=>111|285=>112|286=>113|129=>125|317=>140|318=>141|319=>142|320=>143|337=>156|338=>157|n=>n,fun|3=>3|9=>9|2=>2|4=>4|171=>198|0=>0|53=>199|37=>79|5=>5|173=>202|212=>230|51=>215|20=>20|213=>231|46=>168|232=>253|233=>254|n=>n,fun|17=>1|18=>3|19=>4|n=>n⟩
theorem Tryz.laysM171:Go.Proofs.LaysM.n171 Tryz.prog Tryz.laysM171_ren:={
 mixed:=by kernel_rfl
 f129:=Tryz.func125.trans (congrArg some (by kernel_rfl))
 f171:=Tryz.func18.trans (congrArg some (by kernel_rfl))
 f243:=Tryz.func48.trans (congrArg some (by kernel_rfl))
 f246:=Tryz.func77.trans (congrArg some (by kernel_rfl))
 f283:=Tryz.func110.trans (congrArg some (by kernel_rfl))
 f284:=Tryz.func111.trans (congrArg some (by kernel_rfl))
 f285:=Tryz.func112.trans (congrArg some (by kernel_rfl))
 f286:=Tryz.func113.trans (congrArg some (by kernel_rfl))
 f317:=Tryz.func140.trans (congrArg some (by kernel_rfl))
 f318:=Tryz.func141.trans (congrArg some (by kernel_rfl))
 f319:=Tryz.func142.trans (congrArg some (by kernel_rfl))
 f320:=Tryz.func143.trans (congrArg some (by kernel_rfl))
 f337:=Tryz.func156.trans (congrArg some (by kernel_rfl))
 f338:=Tryz.func157.trans (congrArg some (by kernel_rfl))
 t0:=Tryz.underlying0
 a0:=Tryz.isAgg0
 z0:=Tryz.sizeOf0
 v0:=Tryz.zeroValue0
 t2:=Tryz.underlying2
 a2:=Tryz.isAgg2
 z2:=Tryz.sizeOf2
 v2:=Tryz.zeroValue2
 t3:=Tryz.underlying3
 a3:=Tryz.isAgg3
 z3:=Tryz.sizeOf3
 v3:=Tryz.zeroValue3
 t4:=Tryz.underlying4
 a4:=Tryz.isAgg4
 z4:=Tryz.sizeOf4
 v4:=Tryz.zeroValue4
 t5:=Tryz.underlying5
 a5:=Tryz.isAgg5
 z5:=Tryz.sizeOf5
 v5:=Tryz.zeroValue5
 t9:=Tryz.underlying9
 a9:=Tryz.isAgg9
 z9:=Tryz.sizeOf9
 v9:=Tryz.zeroValue9
 t20:=Tryz.underlying20
 a20:=Tryz.isAgg20
 z20:=Tryz.sizeOf20
 v20:=Tryz.zeroValue20
 t37:=Tryz.underlying79
 a37:=Tryz.isAgg79
 z37:=Tryz.sizeOf79
 v37:=Tryz.zeroValue79
 t46:=Tryz.underlying168
 a46:=Tryz.isAgg168
 z46:=Tryz.sizeOf168
 v46:=Tryz.zeroValue168
 t51:=Tryz.underlying215
 a51:=Tryz.isAgg215
 z51:=Tryz.sizeOf215
 v51:=Tryz.zeroValue215
 t53:=Tryz.underlying199
 a53:=Tryz.isAgg199
 z53:=Tryz.sizeOf199
 v53:=Tryz.zeroValue199
 t171:=Tryz.underlying198
 a171:=Tryz.isAgg198
 z171:=Tryz.sizeOf198
 v171:=Tryz.zeroValue198
 t173:=Tryz.underlying202
 a173:=Tryz.isAgg202
 z173:=Tryz.sizeOf202
 v173:=Tryz.zeroValue202
 t212:=Tryz.underlying230
 a212:=Tryz.isAgg230
 z212:=Tryz.sizeOf230
 v212:=Tryz.zeroValue230
 t213:=Tryz.underlying231
 a213:=Tryz.isAgg231
 z213:=Tryz.sizeOf231
 t232:=Tryz.underlying253
 a232:=Tryz.isAgg253
 z232:=Tryz.sizeOf253
 v232:=Tryz.zeroValue253
 t233:=Tryz.underlying254
 a233:=Tryz.isAgg254
 z233:=Tryz.sizeOf254
 v233:=Tryz.zeroValue254
 g17:=by kernel_rfl
 g18:=by kernel_rfl
 g19:=by kernel_rfl
 i0:=by kernel_rfl
 i2:=by kernel_rfl
 i3:=by kernel_rfl
 i4:=by kernel_rfl
 i5:=by kernel_rfl
 i9:=by kernel_rfl
 i20:=by kernel_rfl
 i37:=by kernel_rfl
 i46:=by kernel_rfl
 i51:=by kernel_rfl
 i53:=by kernel_rfl
 i171:=by kernel_rfl
 i173:=by kernel_rfl
 i212:=by kernel_rfl
 i232:=by kernel_rfl
 i233:=by kernel_rfl
 m17:=by kernel_rfl
 m18:=by kernel_rfl
 m19:=by kernel_rfl}
def Tryz.lays156_ren:Go.Shelf.Ren:=⟨fun|156=>20|165=>49|166=>50|169=>51|240=>78|241=>79|276=>114|277=>115|n=>n,fun|31=>66|9=>9|3=>3|4=>4|0=>0|20=>20|72=>125|76=>129|70=>123|37=>79|75=>128|127=>165|164=>204|5=>5|80=>131|n=>n,fun|n=>n⟩
theorem Tryz.lays156:Go.Proofs.Lays.n156 Tryz.prog Tryz.lays156_ren:={
 mixed:=by kernel_rfl
 f156:=Tryz.func20.trans (congrArg some (by kernel_rfl))
 f165:=Tryz.func49.trans (congrArg some (by kernel_rfl))
 f166:=Tryz.func50.trans (congrArg some (by kernel_rfl))
 f169:=Tryz.func51.trans (congrArg some (by kernel_rfl))
 f240:=Tryz.func78.trans (congrArg some (by kernel_rfl))
 f241:=Tryz.func79.trans (congrArg some (by kernel_rfl))
 f276:=Tryz.func114.trans (congrArg some (by kernel_rfl))
 f277:=Tryz.func115.trans (congrArg some (by kernel_rfl))
 t0:=Tryz.underlying0
 a0:=Tryz.isAgg0
 z0:=Tryz.sizeOf0
 v0:=Tryz.zeroValue0
 t3:=Tryz.underlying3
 a3:=Tryz.isAgg3
 z3:=Tryz.sizeOf3
 v3:=Tryz.zeroValue3
 t4:=Tryz.underlying4
 a4:=Tryz.isAgg4
 z4:=Tryz.sizeOf4
 v4:=Tryz.zeroValue4
 t9:=Tryz.underlying9
 a9:=Tryz.isAgg9
 z9:=Tryz.sizeOf9
 v9:=Tryz.zeroValue9
 t20:=Tryz.underlying20
 a20:=Tryz.isAgg20
 z20:=Tryz.sizeOf20
 v20:=Tryz.zeroValue20
 t31:=Tryz.underlying66
 a31:=Tryz.isAgg66
 z31:=Tryz.sizeOf66
 v31:=Tryz.zeroValue66
 t37:=Tryz.underlying79
 a37:=Tryz.isAgg79
 z37:=Tryz.sizeOf79
 v37:=Tryz.zeroValue79
 t70:=Tryz.underlying123
 a70:=Tryz.isAgg123
 z70:=Tryz.sizeOf123
 v70:=Tryz.zeroValue123
 t72:=Tryz.underlying125
 a72:=Tryz.isAgg125
 z72:=Tryz.sizeOf125
 v72:=Tryz.zeroValue125
 t75:=Tryz.underlying128
 a75:=Tryz.isAgg128
 z75:=Tryz.sizeOf128
 v75:=Tryz.zeroValue128
 t76:=Tryz.underlying129
 a76:=Tryz.isAgg129
 z76:=Tryz.sizeOf129
 v76:=Tryz.zeroValue129
 t127:=Tryz.underlying165
 a127:=Tryz.isAgg165
 z127:=Tryz.sizeOf165
 v127:=Tryz.zeroValue165
 t164:=Tryz.underlying204
 a164:=Tryz.isAgg204
 z164:=Tryz.sizeOf204
 v164:=Tryz.zeroValue204}
theorem Tryz.bx156:Builder.Extra Tryz.prog Tryz.lays156_ren:={
 sizeBuilder:=by kernel_rfl
 liesBuilder:=by kernel_rfl
 t5:=Tryz.underlying5
 a5:=Tryz.isAgg5
 z5:=Tryz.sizeOf5
 v5:=Tryz.zeroValue5
 infoByte:=by kernel_rfl
 cellsByte:=by kernel_rfl
 sizeByte:=by kernel_rfl
 neB5:=by decide}
end Go.Proofs
namespace Go.Proofs.YtfcnicnekddliaaGreatDoor
open Go.Proofs.Tryz
open Go.RowKit
theorem ext_grow (w:World) (k:Nat) (os:Array Obj):Ext w (Sort.grow (w.drewN k) os):=
 ⟨rfl,rfl,rfl,by simp [Sort.grow,World.drewN],fun j hj=>by
  show (w.heap++os)[j]? = _
  rw [Array.getElem?_append_left hj]⟩
def P10:Pf:=⟨fun h=>∃T fz,h 1=some (.cells (Lib.pow10Tab.map fun z=>Value.int .u64 z).toArray T fz),fun _ _ s ⟨T,fz,h⟩=>⟨T,fz,s _ _ h⟩⟩
theorem g10 : prog.globalNamed "internal/strconv.uint64pow10" = some 1 := by kernel_rfl
theorem tab10 {w : World} {T : TypeId} {fz : Nat × Nat} (h : w.heap[1]? = some (.cells (Lib.pow10Tab.map fun z => Value.int .u64 z).toArray T fz)) : Lib.TabIs prog w "internal/strconv.uint64pow10" .u64 Lib.pow10Tab := by
 unfold Lib.TabIs World.var?
 rw [g10]
 simp only [Option.bind_some]
 rw [h]
theorem itoa_ok (n:Int) (h0 : -9223372036854775808≤n) (h1:n≤9223372036854775807):Enters 18∧Spec prog 18 #[.int .i64 n] [P10] [] (RetV (.string ⟨(Lib.itoa n).toArray⟩)):=by
 refine ⟨enters_of func18 (by kernel_rfl) rfl,fun G w hp hs=>?_⟩
 obtain ⟨hp',hr,st⟩:=hs
 obtain ⟨T,fz,h⟩:=st.f P10 (by simp)
 refine (Any.strconv_Itoa Tryz.laysM171 n h0 h1 w (tab10 (st.inp _ _ h))).mono ?_
 rintro e w' ⟨rfl,k,os,rfl⟩
 exact ⟨(),rfl,trivial,(Sat.ext ⟨hp',hr,st⟩ (ext_grow w k os)).facts fun _ _ x hx=>by simp [RetV] at hx⟩
theorem cell_of {w:World} {b j:Nat} {cs:Array Value} {T:TypeId} {fz:Nat×Nat} {v:Value} (h:w.heap[b]? = some (.cells cs T fz)) (hj:cs.toList[j]? = some v):w.cell? ⟨b,0+j,none⟩=some v:=by
 simp [World.cell?,h] at hj ⊢
 exact hj
theorem sjoin_ok (b c:Nat) (xs:List ByteArray) (sep:ByteArray) (cs:Array Value) (T:TypeId) (fz:Nat×Nat) (hcs:cs.toList=xs.map Value.string) (hcap:xs.length≤c) (hN:xs.length≤1000) (hlen:(Lib.join (xs.map (·.data.toList)) sep.data.toList).length≤1000000) :
  Enters 20∧Spec prog 20 #[.slice (some ⟨b,0,none⟩) xs.length c,.string sep] [] [Pt b (.cells cs T fz)] ⟨Unit,fun _=>.string ⟨(Lib.join (xs.map (·.data.toList)) sep.data.toList).toArray⟩,fun _=>True,fun _=>[],fun _=>[Pt b (.cells cs T fz)]⟩:=by
 refine ⟨enters_of func20 (by kernel_rfl) rfl,fun G w hp hs=>?_⟩
 have hb:=hs.pt Sel.here
 refine (Any.strings_Join Tryz.lays156 Tryz.bx156 b 0 c xs sep w (fun j x hx=>cell_of hb (by rw [hcs];simp [hx])) (by
  by_cases h:b<w.heap.size
  ·exact h
  ·rw [Array.getElem?_eq_none (by omega)] at hb;cases hb) (by omega) hcap (by omega)).mono ?_
 rintro e w' ⟨rfl,hx⟩
 exact ⟨(),rfl,trivial,hs.ext hx⟩
theorem Xh (b:Nat) (xs:List ByteArray) (T:TypeId) (hN:xs.length≤1000) (hlen:(Lib.join (xs.map (·.data.toList)) [32]).length≤1000000) :
  Enters 20∧Spec prog 20 #[.slice (some ⟨b,0,none⟩) xs.length xs.length,.string ⟨#[32]⟩] [] [Pt b (.cells (xs.map Value.string).toArray T (0,0))] (RetV (.string ⟨(Lib.join (xs.map (·.data.toList)) [32]).toArray⟩)):=by
 have h:=sjoin_ok b xs.length xs ⟨#[32]⟩ (xs.map Value.string).toArray T (0,0) (by simp) (Nat.le_refl _) hN hlen
 refine ⟨h.1,fun G w hp hs=>(h.2 G w hp hs).mono ?_⟩
 rintro e w' ⟨x,rfl,_,hs'⟩
 exact ⟨(),rfl,trivial,hs'.res fun _ _=>trivial⟩
theorem Wb (sep:ByteArray):Enters 20∧Spec prog 20 #[.slice none 0 0,.string sep] [] [] (RetV (.string ⟨#[]⟩)):=by
 refine ⟨enters_of func20 (by kernel_rfl) rfl,fun G w hp hs=>?_⟩
 refine (Any.strings_Join_none Tryz.lays156 Tryz.bx156 none 0 sep w).mono ?_
 rintro e w' ⟨rfl,rfl⟩
 exact ⟨(),rfl,trivial,hs⟩
end Go.Proofs.YtfcnicnekddliaaGreatDoor
set_option maxRecDepth 10000
namespace Go.Proofs.YtfcnicnekddliaaGreatDoor
open Go.RowKit Go.Proofs.Tryz
set_option maxHeartbeats 4000000 in
theorem Xt:∀(m:Nat) (n:Int),n.natAbs<m→-9223372036854775808≤n→n≤9223372036854775807→
  Enters 21∧Spec prog 21 #[.int .i64 n] [] [] (RetV (.string ⟨(Lib.itoa n).toArray⟩))
 | 0,_,h,_,_=>absurd h (by omega)
 | m+1,n,hm,h0,h1=>by
  by_cases c1:n<0
  ·obtain ⟨u,rfl⟩:∃u:Nat,n = -(u:Int):=⟨n.natAbs,by omega⟩
   have q1:(-(u:Int)).tdiv 10 = -((u / 10:Nat):Int):=by rw [Int.neg_tdiv];rfl
   have q2:(-(u:Int)).tmod 10 = -((u % 10:Nat):Int):=by rw [Int.neg_tmod];rfl
   have w1:IntKind.i64.wrap (-((u / 10:Nat):Int)) = -((u / 10:Nat):Int):=wrapi (by omega) (by omega)
   have w2:IntKind.i64.wrap (0 - -((u / 10:Nat):Int))=((u / 10:Nat):Int):=by rw [wrapi (by omega) (by omega)];omega
   by_cases c2:u<10
   ·have w3:IntKind.i64.wrap (0 - -(u:Int))=(u:Int):=by rw [wrapi (by omega) (by omega)];omega
    refine Zb [_] func21 ntmps21 fun G w hp=>?_
    repeat' (first|refine r_b2s1 (fun b=>?_)|refine ZG ?_|refine ZH ?_|refine ZJ ?_|refine ZF ?_|refine ZP ?_|refine ZK ?_|refine ZN ?_|refine ZQ (fun b=>?_)|refine ZO (fun b=>?_)|refine ZB ?_|refine ZD ?_|refine ZR ?_|refine ZW ?_|refine ZZ ?_|refine Zg ?_|refine Za ?_|refine ZX ?_|refine Ze (fun b=>?_)|refine Zd (fun b=>?_)|refine Zf ?_|refine ZY ?_|rw [q1]|rw [q2]|rw [w1]|rw [w2]|rw [w3]|refine l_b2s1 ?_|refine l_cat ?_|refine r_cat ?_|(refine ZC (fun hc=>?_) (fun hc=>?_)<;>(try simp at hc)<;>(try omega))|(refine ZM (fun hc=>?_) (fun hc=>?_)<;>(try simp at hc)<;>(try omega))|refine ZA 3 [] [(0,0),(1,0),(2,0),(5,0),(6,0),(7,0),(8,0),(9,0),(3,4),(4,0),(10,2),(11,0),(12,0),(13,0)] [] ?_|refine ZA 7 [] [(0,0),(1,0),(3,0),(4,0),(5,0),(6,0),(2,4),(7,2),(8,0),(9,0),(10,0)] [] ?_|(refine ZE (fun hc=>?_) (fun hc=>?_)<;>(try simp at hc)<;>(try omega)))
    all_goals refine ZV () ?_ trivial
    all_goals show Value.string _=Value.string _
    all_goals congr 1
    ·rw [dig_p u c2]
     by_cases hu0:u=0
     ·subst hu0;omega
     ·rw [itoa_neg hu0,itoa_lt c2];rfl
   ·have ih:=Xt m ((u / 10:Nat):Int) (by omega) (by omega) (by omega)
    have hl:=itoa_len ((u / 10:Nat):Int) (by omega) (by omega)
    refine Zb [_] func21 ntmps21 fun G w hp=>?_
    repeat' (first|refine r_b2s1 (fun b=>?_)|refine ZG ?_|refine ZH ?_|refine ZJ ?_|refine ZF ?_|refine ZP ?_|refine ZK ?_|refine ZN ?_|refine ZQ (fun b=>?_)|refine ZO (fun b=>?_)|refine ZB ?_|refine ZD ?_|refine ZR ?_|refine ZW ?_|refine ZZ ?_|refine Zg ?_|refine Za ?_|refine ZX ?_|refine Ze (fun b=>?_)|refine Zd (fun b=>?_)|refine Zf ?_|refine ZY ?_|refine ZI (ih) (fun _ _=>?_)|refine l_call0 (ih) (fun _ _=>?_)|refine ZU (ih) (fun _ _=>?_)|rw [q1]|rw [q2]|rw [w1]|rw [w2]|refine l_b2s1 ?_|refine l_cat ?_|refine r_cat ?_|(refine ZC (fun hc=>?_) (fun hc=>?_)<;>(try simp at hc)<;>(try omega))|(refine ZM (fun hc=>?_) (fun hc=>?_)<;>(try simp at hc)<;>(try omega))|refine ZA 3 [] [(0,0),(1,0),(2,0),(5,0),(6,0),(7,0),(8,0),(9,0),(3,4),(4,0),(10,2),(11,0),(12,0),(13,0)] [] ?_|refine ZA 7 [] [(0,0),(1,0),(3,0),(4,0),(5,0),(6,0),(2,4),(7,2),(8,0),(9,0),(10,0)] [] ?_|(refine ZE (fun hc=>?_) (fun hc=>?_)<;>(try simp at hc)<;>(try omega)))
    all_goals refine ZV () ?_ trivial
    all_goals show Value.string _=Value.string _
    all_goals congr 1
    ·rw [dig_n (u % 10) (by omega),itoa_neg (by omega),itoa_ge c2]
     apply ByteArray.ext;simp [ByteArray.data_append]
  ·obtain ⟨u,rfl⟩:∃u:Nat,n=(u:Int):=⟨n.toNat,by omega⟩
   have q1:(u:Int).tdiv 10=((u / 10:Nat):Int):=rfl
   have q2:(u:Int).tmod 10=((u % 10:Nat):Int):=rfl
   have w1:IntKind.i64.wrap ((u / 10:Nat):Int)=((u / 10:Nat):Int):=wrapi (by omega) (by omega)
   by_cases c2:u<10
   ·refine Zb [_] func21 ntmps21 fun G w hp=>?_
    repeat' (first|refine r_b2s1 (fun b=>?_)|refine ZG ?_|refine ZH ?_|refine ZJ ?_|refine ZF ?_|refine ZP ?_|refine ZK ?_|refine ZN ?_|refine ZQ (fun b=>?_)|refine ZO (fun b=>?_)|refine ZB ?_|refine ZD ?_|refine ZR ?_|refine ZW ?_|refine ZZ ?_|refine Zg ?_|refine Za ?_|refine ZX ?_|refine Ze (fun b=>?_)|refine Zd (fun b=>?_)|refine Zf ?_|refine ZY ?_|refine l_b2s1 ?_|refine l_cat ?_|refine r_cat ?_|(refine ZC (fun hc=>?_) (fun hc=>?_)<;>(try simp at hc)<;>(try omega))|(refine ZM (fun hc=>?_) (fun hc=>?_)<;>(try simp at hc)<;>(try omega))|refine ZA 3 [] [(0,0),(1,0),(2,0),(5,0),(6,0),(7,0),(8,0),(9,0),(3,4),(4,0),(10,2),(11,0),(12,0),(13,0)] [] ?_|refine ZA 7 [] [(0,0),(1,0),(3,0),(4,0),(5,0),(6,0),(2,4),(7,2),(8,0),(9,0),(10,0)] [] ?_|(refine ZE (fun hc=>?_) (fun hc=>?_)<;>(try simp at hc)<;>(try omega)))
    all_goals refine ZV () ?_ trivial
    all_goals show Value.string _=Value.string _
    all_goals congr 1
    ·rw [dig_p u c2,itoa_lt c2]
   ·have ih:=Xt m ((u / 10:Nat):Int) (by omega) (by omega) (by omega)
    have hl:=itoa_len ((u / 10:Nat):Int) (by omega) (by omega)
    refine Zb [_] func21 ntmps21 fun G w hp=>?_
    repeat' (first|refine r_b2s1 (fun b=>?_)|refine ZG ?_|refine ZH ?_|refine ZJ ?_|refine ZF ?_|refine ZP ?_|refine ZK ?_|refine ZN ?_|refine ZQ (fun b=>?_)|refine ZO (fun b=>?_)|refine ZB ?_|refine ZD ?_|refine ZR ?_|refine ZW ?_|refine ZZ ?_|refine Zg ?_|refine Za ?_|refine ZX ?_|refine Ze (fun b=>?_)|refine Zd (fun b=>?_)|refine Zf ?_|refine ZY ?_|refine ZI (ih) (fun _ _=>?_)|refine l_call0 (ih) (fun _ _=>?_)|refine ZU (ih) (fun _ _=>?_)|rw [q1]|rw [q2]|rw [w1]|refine l_b2s1 ?_|refine l_cat ?_|refine r_cat ?_|(refine ZC (fun hc=>?_) (fun hc=>?_)<;>(try simp at hc)<;>(try omega))|(refine ZM (fun hc=>?_) (fun hc=>?_)<;>(try simp at hc)<;>(try omega))|refine ZA 3 [] [(0,0),(1,0),(2,0),(5,0),(6,0),(7,0),(8,0),(9,0),(3,4),(4,0),(10,2),(11,0),(12,0),(13,0)] [] ?_|refine ZA 7 [] [(0,0),(1,0),(3,0),(4,0),(5,0),(6,0),(2,4),(7,2),(8,0),(9,0),(10,0)] [] ?_|(refine ZE (fun hc=>?_) (fun hc=>?_)<;>(try simp at hc)<;>(try omega)))
    all_goals refine ZV () ?_ trivial
    all_goals show Value.string _=Value.string _
    all_goals congr 1
    ·rw [dig_p (u % 10) (by omega),itoa_ge c2]
     apply ByteArray.ext;simp [ByteArray.data_append]
def itB (n:Int):ByteArray:=⟨(Lib.itoa n).toArray⟩
def chw (c:Int):ByteArray:=if c=1 then ⟨#[109,97,105,108]⟩ else if c=2 then ⟨#[112,114,105,110,116]⟩ else if c=3 then ⟨#[111,114,100,101,114]⟩ else if c=4 then ⟨#[112,97,99,107,101,116]⟩ else itB c
def otx (o:Ou):ByteArray:=chw o.ch++⟨#[32]⟩++o.tg++⟨#[32,40]⟩++itB o.tx.size++⟨#[41]⟩
theorem YN (n:Int) (h0 : -9223372036854775808≤n) (h1:n≤9223372036854775807):(itB n).size≤22:=by
 show (Lib.itoa n).toArray.size≤22
 rw [List.size_toArray];exact itoa_len n h0 h1
theorem chw_size (n:Int) (h0 : -9223372036854775808≤n) (h1:n≤9223372036854775807):(chw n).size≤22:=by
 have:=YN n h0 h1
 unfold chw
 repeat' split
 all_goals first|exact this|(show _≤22;simp [bsz])
theorem WA (o:Ou) (h0 : -9223372036854775808≤o.ch) (h1:o.ch≤9223372036854775807) (ht:o.tg.size≤300) (hx:o.tx.size≤300):(otx o).size≤1000:=by
 have a:=chw_size o.ch h0 h1
 have b:=YN (o.tx.size:Int) (by omega) (by omega)
 simp only [otx,ByteArray.size_append,bsz,List.size_toArray,List.length_cons,List.length_nil]
 omega
theorem WC (n:Int) (h0 : -9223372036854775808≤n) (h1:n≤9223372036854775807):Enters 18∧Spec prog 18 #[.int .i64 n] [P10] [] (RetV (.string (itB n))):=itoa_ok n h0 h1
theorem Y0 (n:Int) (h0 : -9223372036854775808≤n) (h1:n≤9223372036854775807):Enters 21∧Spec prog 21 #[.int .i64 n] [] [] (RetV (.string (itB n))):=Xt (n.natAbs+1) n (by omega) h0 h1
set_option maxHeartbeats 4000000 in
theorem ctext_ok (o:Ou) (h0 : -9223372036854775808≤o.ch) (h1:o.ch≤9223372036854775807) (ht:o.tg.size≤300) (hx:o.tx.size≤300) :
  Enters 19∧Spec prog 19 #[o.v] [P10] [] (RetV (.string (otx o))):=by
 have s1:=WC o.ch h0 h1
 have s2:=WC (o.tx.size:Int) (by omega) (by omega)
 have z1:=YN o.ch h0 h1
 have z2:=YN (o.tx.size:Int) (by omega) (by omega)
 refine Zb [_] func19 ntmps19 fun G w hp=>?_
 repeat' (first|refine ZG ?_|refine ZH ?_|refine ZJ ?_|refine ZF ?_|refine ZP ?_|refine ZK ?_|refine ZN ?_|refine ZQ (fun b=>?_)|refine ZO (fun b=>?_)|refine ZB ?_|refine ZD ?_|refine ZR ?_|refine ZW ?_|refine ZZ ?_|refine Zg ?_|refine Za ?_|refine ZX ?_|refine Ze (fun b=>?_)|refine Zd (fun b=>?_)|refine Zf ?_|refine ZY ?_|refine ZI (s1) (fun _ _=>?_)|refine l_call0 (s1) (fun _ _=>?_)|refine ZU (s1) (fun _ _=>?_)|refine ZI (s2) (fun _ _=>?_)|refine l_call0 (s2) (fun _ _=>?_)|refine ZU (s2) (fun _ _=>?_)|refine l_cat ?_|refine r_cat ?_|(refine ZC (fun hc=>?_) (fun hc=>?_)<;>(try simp at hc))|(refine ZM (fun hc=>?_) (fun hc=>?_)<;>(try simp at hc))|refine ZA 11 [] [(0,0),(1,0),(2,0),(3,0),(4,0),(5,0),(6,0),(7,0),(8,0),(9,4),(10,0),(11,0),(12,0)] [] ?_|(refine ZE (fun hc=>?_) (fun hc=>?_)<;>(try simp at hc)))
 all_goals refine ZV () ?_ trivial
 all_goals show Value.string _=Value.string _
 all_goals congr 1
 all_goals simp_all [otx,chw]
set_option maxHeartbeats 4000000 in
theorem one_ok (o:Ou) (h0 : -9223372036854775808≤o.ch) (h1:o.ch≤9223372036854775807) (ht:o.tg.size≤300) (hx:o.tx.size≤300) :
  Enters 22∧Spec prog 22 #[o.v] [] [] (RetV (.string (otx o))):=by
 have s1:=Y0 o.ch h0 h1
 have s2:=Y0 (o.tx.size:Int) (by omega) (by omega)
 have z1:=YN o.ch h0 h1
 have z2:=YN (o.tx.size:Int) (by omega) (by omega)
 refine Zb [_] func22 ntmps22 fun G w hp=>?_
 repeat' (first|refine ZG ?_|refine ZH ?_|refine ZJ ?_|refine ZF ?_|refine ZP ?_|refine ZK ?_|refine ZN ?_|refine ZQ (fun b=>?_)|refine ZO (fun b=>?_)|refine ZB ?_|refine ZD ?_|refine ZR ?_|refine ZW ?_|refine ZZ ?_|refine Zg ?_|refine Za ?_|refine ZX ?_|refine Ze (fun b=>?_)|refine Zd (fun b=>?_)|refine Zf ?_|refine ZY ?_|refine ZI (s1) (fun _ _=>?_)|refine l_call0 (s1) (fun _ _=>?_)|refine ZU (s1) (fun _ _=>?_)|refine ZI (s2) (fun _ _=>?_)|refine l_call0 (s2) (fun _ _=>?_)|refine ZU (s2) (fun _ _=>?_)|refine l_cat ?_|refine r_cat ?_|(refine ZC (fun hc=>?_) (fun hc=>?_)<;>(try simp at hc))|(refine ZM (fun hc=>?_) (fun hc=>?_)<;>(try simp at hc))|refine ZA 11 [] [(0,0),(1,0),(2,0),(3,0),(4,0),(5,0),(6,0),(7,0),(8,0),(9,4),(10,0),(11,0),(12,0)] [] ?_|(refine ZE (fun hc=>?_) (fun hc=>?_)<;>(try simp at hc)))
 all_goals refine ZV () ?_ trivial
 all_goals show Value.string _=Value.string _
 all_goals congr 1
 all_goals simp_all [otx,chw]
def Cq.v (c:Cq):Value:=.agg #[.int .i64 c.kind,.string c.who,.int .i64 c.nu,.int .i64 c.place,.int .i64 c.old.ch,.string c.old.tg,.string c.old.tx,.int .i64 c.old.us,.int .i64 c.oldAt,.int .i64 c.new.ch,.string c.new.tg,.string c.new.tx,.int .i64 c.new.us,.int .i64 c.newAt]
def cqt (c:Cq):ByteArray:=
 let pl:=itB c.place++⟨#[32]⟩
 let wh:=c.who++⟨#[35]⟩++itB c.nu++⟨#[32]⟩
 if c.kind=1 then ⟨#[115,97,109,101,32]⟩++pl++wh++otx c.old
 else if c.kind=2 then ⟨#[109,105,115,115,105,110,103,32]⟩++pl++wh++otx c.old
 else if c.kind=3 then ⟨#[99,104,97,110,103,101,100,32]⟩++pl++wh++otx c.old++⟨#[32,45,62,32]⟩++otx c.new
 else if c.kind=4 then ⟨#[110,101,119,32]⟩++wh++otx c.new
 else ⟨#[]⟩
structure CqOK (c:Cq):Prop where
 n0 : -9223372036854775808≤c.nu
 n1:c.nu≤9223372036854775807
 p0 : -9223372036854775808≤c.place
 p1:c.place≤9223372036854775807
 o0 : -9223372036854775808≤c.old.ch
 o1:c.old.ch≤9223372036854775807
 w0 : -9223372036854775808≤c.new.ch
 w1:c.new.ch≤9223372036854775807
structure CqSh (c:Cq):Prop where
 wh:c.who.size≤300
 og:c.old.tg.size≤300
 ox:c.old.tx.size≤300
 ng:c.new.tg.size≤300
 nx:c.new.tx.size≤300
theorem jn_len:∀(xs:List (List UInt8)) (m:Nat),(∀x ∈ xs,x.length≤m)→(Lib.join xs [32]).length≤xs.length * (m+1)
 | [],m,_=>by simp [Lib.join]
 | [x],m,h=>by have:=h x (by simp);simp [Lib.join];omega
 | x::y::xs,m,h=>by
  have h1:=h x (by simp)
  have h2:=jn_len (y::xs) m (fun z hz=>h z (by simp at hz ⊢;exact .inr hz))
  simp only [Lib.join,List.intercalate_cons_cons,List.length_append,List.length_cons,List.length_nil] at h2 ⊢
  rw [show (xs.length+1+1) * (m+1)=(xs.length+1) * (m+1)+(m+1) from Nat.succ_mul _ _]
  omega
set_option maxHeartbeats 4000000 in
theorem cText_ok (c:Cq) (h:CqOK c) (hs:CqSh c):Enters 7∧Spec prog 7 #[c.v] [P10] [] (RetV (.string (cqt c))):=by
 have s1:=WC c.nu h.n0 h.n1
 have s2:=WC c.place h.p0 h.p1
 have s3:=ctext_ok c.old h.o0 h.o1 hs.og hs.ox
 have s4:=ctext_ok c.new h.w0 h.w1 hs.ng hs.nx
 have z1:=YN c.nu h.n0 h.n1
 have z2:=YN c.place h.p0 h.p1
 have z3:=WA c.old h.o0 h.o1 hs.og hs.ox
 have z4:=WA c.new h.w0 h.w1 hs.ng hs.nx
 have z5:=hs.wh
 have zb:(c.who++⟨#[35]⟩++itB c.nu).data.toList.length≤1000:=by
  show (c.who++⟨#[35]⟩++itB c.nu).size≤1000
  simp only [ByteArray.size_append,bsz,List.size_toArray,List.length_cons,List.length_nil];omega
 have zp:(itB c.place).data.toList.length≤1000:=Nat.le_trans z2 (by decide)
 have zo:(otx c.old).data.toList.length≤1000:=z3
 have zn:(otx c.new).data.toList.length≤1000:=z4
 have lim:∀(xs:List ByteArray),xs.length≤6→(∀x ∈ xs,x.data.toList.length≤1000)→(Lib.join (xs.map (·.data.toList)) [32]).length≤1000000:=fun xs h1 h2=>by
  have:=jn_len (xs.map (·.data.toList)) 1000 (fun x hx=>by obtain ⟨y,hy,rfl⟩:=List.mem_map.1 hx;exact h2 y hy)
  rw [List.length_map] at this
  omega
 have j1:=fun b=>Xh b [⟨#[115,97,109,101]⟩,itB c.place,c.who++⟨#[35]⟩++itB c.nu,otx c.old] 9 (by simp) (lim _ (by simp) (by simp only [List.forall_mem_cons];exact ⟨by simp,zp,zb,zo,by simp⟩))
 have j2:=fun b=>Xh b [⟨#[109,105,115,115,105,110,103]⟩,itB c.place,c.who++⟨#[35]⟩++itB c.nu,otx c.old] 9 (by simp) (lim _ (by simp) (by simp only [List.forall_mem_cons];exact ⟨by simp,zp,zb,zo,by simp⟩))
 have j3:=fun b=>Xh b [⟨#[99,104,97,110,103,101,100]⟩,itB c.place,c.who++⟨#[35]⟩++itB c.nu,otx c.old,⟨#[45,62]⟩,otx c.new] 9 (by simp) (lim _ (by simp) (by simp only [List.forall_mem_cons];exact ⟨by simp,zp,zb,zo,by simp,zn,by simp⟩))
 have j4:=fun b=>Xh b [⟨#[110,101,119]⟩,c.who++⟨#[35]⟩++itB c.nu,otx c.new] 9 (by simp) (lim _ (by simp) (by simp only [List.forall_mem_cons];exact ⟨by simp,zb,zn,by simp⟩))
 refine Zb [_] func7 ntmps7 fun G w hp=>?_
 repeat' (first|refine ZG ?_|refine ZH ?_|refine ZJ ?_|refine ZF ?_|refine ZP ?_|refine ZK ?_|refine ZN ?_|refine ZQ (fun b=>?_)|refine ZO (fun b=>?_)|refine ZB ?_|refine ZD ?_|refine ZR ?_|refine ZW ?_|refine ZZ ?_|refine Zg ?_|refine Za ?_|refine ZX ?_|refine Ze (fun b=>?_)|refine Zd (fun b=>?_)|refine Zf ?_|refine ZY ?_|refine ZI (s1) (fun _ _=>?_)|refine l_call0 (s1) (fun _ _=>?_)|refine ZU (s1) (fun _ _=>?_)|refine ZI (s2) (fun _ _=>?_)|refine l_call0 (s2) (fun _ _=>?_)|refine ZU (s2) (fun _ _=>?_)|refine ZI (s3) (fun _ _=>?_)|refine l_call0 (s3) (fun _ _=>?_)|refine ZU (s3) (fun _ _=>?_)|refine ZI (s4) (fun _ _=>?_)|refine l_call0 (s4) (fun _ _=>?_)|refine ZU (s4) (fun _ _=>?_)|refine ZI (j1 _) (fun _ _=>?_)|refine l_call0 (j1 _) (fun _ _=>?_)|refine ZU (j1 _) (fun _ _=>?_)|refine ZI (j2 _) (fun _ _=>?_)|refine l_call0 (j2 _) (fun _ _=>?_)|refine ZU (j2 _) (fun _ _=>?_)|refine ZI (j3 _) (fun _ _=>?_)|refine l_call0 (j3 _) (fun _ _=>?_)|refine ZU (j3 _) (fun _ _=>?_)|refine ZI (j4 _) (fun _ _=>?_)|refine l_call0 (j4 _) (fun _ _=>?_)|refine ZU (j4 _) (fun _ _=>?_)|refine ZI (Wb _) (fun _ _=>?_)|refine l_call0 (Wb _) (fun _ _=>?_)|refine ZU (Wb _) (fun _ _=>?_)|refine l_cat ?_|refine r_cat ?_|(refine ZC (fun hc=>?_) (fun hc=>?_)<;>(try simp at hc))|(refine ZM (fun hc=>?_) (fun hc=>?_)<;>(try simp at hc))|refine ZA 1 [] [(0,0),(1,0),(2,0),(3,0),(4,0),(5,4),(6,0),(7,0)] [] ?_|refine ZA 10 [] [(0,0),(1,0),(2,0),(3,0),(5,0),(6,0),(4,4),(7,4),(8,1),(9,0)] [] ?_|(refine ZE (fun hc=>?_) (fun hc=>?_)<;>(try simp at hc)))
 all_goals refine ZV () ?_ trivial
 all_goals show Value.string _=Value.string _
 all_goals congr 1
 all_goals apply ByteArray.ext
 all_goals simp_all [cqt,Lib.join,List.intercalate_cons_cons,ByteArray.data_append]
set_option maxHeartbeats 4000000 in
theorem lText_ok (c:Cq) (h:CqOK c) (hs:CqSh c):Enters 8∧Spec prog 8 #[c.v] [] [] (RetV (.string (cqt c))):=by
 have s1:=Y0 c.nu h.n0 h.n1
 have s2:=Y0 c.place h.p0 h.p1
 have s3:=one_ok c.old h.o0 h.o1 hs.og hs.ox
 have s4:=one_ok c.new h.w0 h.w1 hs.ng hs.nx
 have z1:=YN c.nu h.n0 h.n1
 have z2:=YN c.place h.p0 h.p1
 have z3:=WA c.old h.o0 h.o1 hs.og hs.ox
 have z4:=WA c.new h.w0 h.w1 hs.ng hs.nx
 have z5:=hs.wh
 refine Zb [_] func8 ntmps8 fun G w hp=>?_
 repeat' (first|refine ZG ?_|refine ZH ?_|refine ZJ ?_|refine ZF ?_|refine ZP ?_|refine ZK ?_|refine ZN ?_|refine ZQ (fun b=>?_)|refine ZO (fun b=>?_)|refine ZB ?_|refine ZD ?_|refine ZR ?_|refine ZW ?_|refine ZZ ?_|refine Zg ?_|refine Za ?_|refine ZX ?_|refine Ze (fun b=>?_)|refine Zd (fun b=>?_)|refine Zf ?_|refine ZY ?_|refine ZI (s1) (fun _ _=>?_)|refine l_call0 (s1) (fun _ _=>?_)|refine ZU (s1) (fun _ _=>?_)|refine ZI (s2) (fun _ _=>?_)|refine l_call0 (s2) (fun _ _=>?_)|refine ZU (s2) (fun _ _=>?_)|refine ZI (s3) (fun _ _=>?_)|refine l_call0 (s3) (fun _ _=>?_)|refine ZU (s3) (fun _ _=>?_)|refine ZI (s4) (fun _ _=>?_)|refine l_call0 (s4) (fun _ _=>?_)|refine ZU (s4) (fun _ _=>?_)|refine l_cat ?_|refine r_cat ?_|(refine ZC (fun hc=>?_) (fun hc=>?_)<;>(try simp at hc))|(refine ZM (fun hc=>?_) (fun hc=>?_)<;>(try simp at hc))|refine ZA 1 [] [(0,0),(1,0),(4,0),(5,0),(6,0),(7,0),(8,0),(2,4),(3,0),(9,4),(10,0),(11,0),(12,0),(13,0)] [] ?_|refine ZA 8 [] [(0,0),(1,0),(2,0),(3,0),(4,0),(5,0),(9,0),(10,0),(6,4),(7,0),(8,0),(11,4),(12,0),(13,0)] [] ?_|(refine ZE (fun hc=>?_) (fun hc=>?_)<;>(try simp at hc)))
 all_goals refine ZV () ?_ trivial
 all_goals show Value.string _=Value.string _
 all_goals congr 1
 all_goals simp_all [cqt]
section
variable {n:Nat} {C:Cx} {Q:Exit→Act→World→Prop} {E E':List (Nat×Value)} {F F' F1 Fs F0:List Pf} {R R' R0 Rs N N' A:List HP} {k k':List Fr} {ops l:List Oper} {L L':List (Nat×Nat)} {Tl:List Nat} {i d:Nat} {t t2 ty0:TypeId} {x y:Operand} {pos:String} {aft:Array Edge} {gd:Option (Nat×Bool)}
theorem minN (m j:Nat):(if (j:Int)<(m:Int) then (j:Int) else (m:Int))=((min m j:Nat):Int):=by split<;>omega
theorem l_cut {s:ByteArray} {z:Int} {rs:TRow} (hi:Nat) (nx:Wl n C ops.toArray k Q l ((d,.string (s.extract 0 (min s.size hi)))::E) F R)
  (hw:wantL ops E ⟨some d,.slice t x none (some y) none,ty0,pos,aft,gd⟩=some true:=by rfl) (hn:Nat.blt d n=true:=by rfl) (hx:ev E x=some (.string s):=by rfl) (hy:ev E y=some (.int .i64 z):=by rfl)
  (hts:lookT tab t=some rs:=by rfl) (hrs:rs.k = .str:=by rfl) (hz:z=(if (hi:Int)<(s.size:Int) then (hi:Int) else (s.size:Int)):=by rfl):Wl n C ops.toArray k Q (⟨some d,.slice t x none (some y) none,ty0,pos,aft,gd⟩::l) E F R:=
 l_q (fun a w ha=>by
  simp only [execOp,Option.map_some,Option.map_none,ha.ev (x:=x) (by rw [ZT];exact hx),ha.ev (x:=y) (by rw [ZT];exact hy),Sem.run_bind,Xn (w:=w) (min s.size hi) (Nat.min_le_left _ _) hts hrs (hz.trans (minN _ _)),Result.andThen,Sem.run_pure]) nx (by intro c h;cases h) hw hn
theorem r_cut {s:ByteArray} {z:Int} {rs:TRow} (hi:Nat) (nx:Wr n C ops k Q Tl Fs R L ((d,.string (s.extract 0 (min s.size hi)))::E) F N)
  (ho:nth ops i=some ⟨some d,.slice t x none (some y) none,ty0,pos,aft,gd⟩:=by rfl) (hw:wantL ops E ⟨some d,.slice t x none (some y) none,ty0,pos,aft,gd⟩=some true:=by rfl) (hx:ev E x=some (.string s):=by rfl) (hy:ev E y=some (.int .i64 z):=by rfl)
  (hts:lookT tab t=some rs:=by rfl) (hrs:rs.k = .str:=by rfl) (hz:z=(if (hi:Int)<(s.size:Int) then (hi:Int) else (s.size:Int)):=by rfl):Wr n C ops k Q Tl Fs R ((i,0)::L) E F N:=
 r_q (fun a w ha=>by
  simp only [execOp,Option.map_some,Option.map_none,ha.ev (x:=x) (by rw [ZT];exact hx),ha.ev (x:=y) (by rw [ZT];exact hy),Sem.run_bind,Xn (w:=w) (min s.size hi) (Nat.min_le_left _ _) hts hrs (hz.trans (minN _ _)),Result.andThen,Sem.run_pure]) nx ho hw
end
def cutB (s:ByteArray) (m:Nat):ByteArray:=s.extract 0 (min s.size m)
theorem Y9 (s:ByteArray) (m:Nat):(cutB s m).size≤m:=by
 unfold cutB;rw [ByteArray.size_extract];omega
def cutC (c:Cq):Cq:={c with who:=cutB c.who 300,old:={c.old with tg:=cutB c.old.tg 300,tx:=cutB c.old.tx 300},new:={c.new with tg:=cutB c.new.tg 300,tx:=cutB c.new.tx 300}}
set_option maxHeartbeats 4000000 in
theorem lawTexts_ok (c:Cq) (h:CqOK c):Enters 3∧Spec prog 3 #[c.v] [P10,Usg] [] (RetV (.bool true)):=by
 have h':CqOK (cutC c):=⟨h.n0,h.n1,h.p0,h.p1,h.o0,h.o1,h.w0,h.w1⟩
 have hs:CqSh (cutC c):=⟨Y9 _ _,Y9 _ _,Y9 _ _,Y9 _ _,Y9 _ _⟩
 have s1:=cText_ok (cutC c) h' hs
 have s2:=lText_ok (cutC c) h' hs
 refine Zb [_] func3 ntmps3 fun G w hp=>?_
 repeat' (first|refine ZG ?_|refine ZH ?_|refine ZJ ?_|refine ZF ?_|refine ZP ?_|refine ZK ?_|refine ZN ?_|refine ZQ (fun b=>?_)|refine ZO (fun b=>?_)|refine ZB ?_|refine ZD ?_|refine ZR ?_|refine ZW ?_|refine ZZ ?_|refine Zg ?_|refine Za ?_|refine ZX ?_|refine Ze (fun b=>?_)|refine Zd (fun b=>?_)|refine Zf ?_|refine ZY ?_|refine ZI (X7) (fun _ _=>?_)|refine l_call0 (X7) (fun _ _=>?_)|refine ZU (X7) (fun _ _=>?_)|refine ZI (s1) (fun _ _=>?_)|refine l_call0 (s1) (fun _ _=>?_)|refine ZU (s1) (fun _ _=>?_)|refine ZI (s2) (fun _ _=>?_)|refine l_call0 (s2) (fun _ _=>?_)|refine ZU (s2) (fun _ _=>?_)|refine l_cut 300 ?_|refine r_cut 300 ?_|refine Yg ?_|(refine ZC (fun hc=>?_) (fun hc=>?_)<;>(try simp at hc))|(refine ZM (fun hc=>?_) (fun hc=>?_)<;>(try simp at hc))|refine ZA 1 [Pt _ _] [(0,0),(1,0),(3,0),(4,0),(9,0),(10,0),(12,0),(13,0),(2,3),(5,3),(6,0),(7,0),(8,0),(11,3),(14,3),(15,0),(16,0),(17,0),(18,0),(19,0),(20,4),(21,0),(22,0)] [23] ?_|refine ZA 2 [Pt _ _] [(0,0),(1,0),(3,0),(4,0),(9,0),(10,0),(12,0),(13,0),(2,3),(5,3),(6,0),(7,0),(8,0),(11,3),(14,3),(15,0),(16,0),(17,0),(18,0),(19,0),(20,4),(21,0),(22,0)] [23] ?_|refine ZA 4 [] [(0,4),(1,0),(2,0),(4,0),(3,4),(5,4),(6,0),(7,0),(8,0)] [] ?_|(refine ZE (fun hc=>?_) (fun hc=>?_)<;>(try simp at hc)))
 all_goals refine ZV () ?_ trivial
 all_goals simp [RetV,resV]
section
open Go.ChangeShapes Go.WideShapes Go.ChangeAt
def laidT : List (String × DataW Unit) := [("math/bits.deBruijn32tab", Rows.laid_math_bits_deBruijn32tab), ("math/bits.deBruijn64tab", Rows.laid_math_bits_deBruijn64tab), ("internal/strconv.uint64pow10", Rows.laid_internal_strconv_uint64pow10), ("replevin/object.usages", Rows.laid_replevin_object_usages)]
theorem tP10:(prog.globals[1]?).map (·.type)=some 230:=by kernel_rfl
theorem plP10:plainT prog 5 230=true:=by decide +kernel
theorem rdP10 (w:World):DataW.trod (fun _=>()) prog w 0 (fun _=>true) false 8 230 (Lib.pow10Tab.map fun z=>Value.int .u64 z)=some (Rows.laid_internal_strconv_uint64pow10,[]):=by kernel_rfl
theorem WH {W:World} (h:laidMetH prog laidT W):(Usg.p fun b=>W.heap[b]?)∧P10.p fun b=>W.heap[b]?:=by
 rw [MakeChecks.laidMetH_plain _ _ _ (by kernel_rfl)] at h
 obtain ⟨ps,⟨_,_,_,_,_,_,_,_,_,_,⟨_,_,_,_,_,_,_,_,_,_,⟨g1,t1,cs1,f1,p1,q1,hg1,ht1,hv1,hd1,⟨g0,t0,cs0,f0,p0,q0,hg0,ht0,hv0,hd0,_,_⟩,_⟩,_⟩,_⟩,_,_⟩:=h
 refine ⟨?_,?_⟩
 ·obtain rfl:=Option.some.inj (gUsg.symm.trans hg0)
  obtain rfl:=Option.some.inj (tUsg.symm.trans ht0)
  have hcs:cs0.toList=usages.flatMap uf:=Xd (enc':=fun _=>()) _ _ _ _ W W _ _ _ _ _ _ _ _ _ _ plUsg hd0 (rdUsg W) rfl
  unfold World.var? at hv0
  rw [hg0] at hv0
  simp only [Option.bind_some] at hv0
  split at hv0
  ·rename_i cs t fr hb
   obtain rfl:=Option.some.inj hv0
   exact ⟨t,fr,by rw [←hcs];simpa using hb⟩
  ·cases hv0
 ·obtain rfl:=Option.some.inj (g10.symm.trans hg1)
  obtain rfl:=Option.some.inj (tP10.symm.trans ht1)
  have hcs:cs1.toList=Lib.pow10Tab.map fun z=>Value.int .u64 z:=Xd (enc':=fun _=>()) _ _ _ _ W W _ _ _ _ _ _ _ _ _ _ plP10 hd1 (rdP10 W) rfl
  unfold World.var? at hv1
  rw [hg1] at hv1
  simp only [Option.bind_some] at hv1
  split at hv1
  ·rename_i cs t fr hb
   obtain rfl:=Option.some.inj hv1
   exact ⟨t,fr,by rw [←hcs];simpa using hb⟩
  ·cases hv1
def bits (l:List Int):List Value:=l.map fun z=>Value.int .u8 z
def b32:List Int:=[0,1,28,2,29,14,24,3,30,22,20,15,25,17,4,8,31,27,13,23,21,19,16,7,26,12,18,6,11,5,10,9]
def b64:List Int:=[0,1,56,2,57,49,28,3,61,58,42,50,38,29,17,4,62,47,59,36,45,43,51,22,53,39,33,30,24,18,12,5,63,55,48,27,60,41,37,16,46,35,44,21,52,32,23,11,54,26,40,15,34,20,31,10,25,14,19,9,13,8,7,6]
def layCells (cs:List Value):Obj→Obj
 | .cells _ t frozen=>.cells cs.toArray t frozen
 | o=>o
noncomputable def laidWorldT (os:Os):World:=
 {laidWorld os with heap:=(((laidWorld os).heap.modify 1 (layCells (Lib.pow10Tab.map fun z=>Value.int .u64 z))).modify 3 (layCells (bits b32))).modify 4 (layCells (bits b64))}
theorem plC:plainT prog 5 26=true:=by decide +kernel
theorem skC:sks prog 5 26=some [.i .i64,.s,.i .i64,.i .i64,.i .i64,.s,.s,.i .i64,.i .i64,.i .i64,.s,.s,.i .i64,.i .i64]:=by kernel_rfl
theorem uC:∃fs,prog.underlying 26=some (.struct fs):=⟨_,underlying26⟩
theorem XT {n:Int} (h:(Lit.int .i64 n).wf=true) : -9223372036854775808≤n∧n≤9223372036854775807:=by
 simp [Lit.wf,IntKind.min,IntKind.max,IntKind.bits,IntKind.signed] at h
 omega
theorem open_cq {M:Nat} {cs:List Value} (h:CellsOK M [.i .i64,.s,.i .i64,.i .i64,.i .i64,.s,.s,.i .i64,.i .i64,.i .i64,.s,.s,.i .i64,.i .i64] cs):∃c:Cq,cs=cqf c∧CqOK c:=by
 obtain _|⟨v1,cs⟩:=cs;· exact h.elim
 obtain ⟨⟨z1,rfl,_⟩,h⟩:=h
 obtain _|⟨v2,cs⟩:=cs;· exact h.elim
 obtain ⟨⟨s2,rfl,_⟩,h⟩:=h
 obtain _|⟨v3,cs⟩:=cs;· exact h.elim
 obtain ⟨⟨z3,rfl,h3⟩,h⟩:=h
 obtain _|⟨v4,cs⟩:=cs;· exact h.elim
 obtain ⟨⟨z4,rfl,h4⟩,h⟩:=h
 obtain _|⟨v5,cs⟩:=cs;· exact h.elim
 obtain ⟨⟨z5,rfl,h5⟩,h⟩:=h
 obtain _|⟨v6,cs⟩:=cs;· exact h.elim
 obtain ⟨⟨s6,rfl,_⟩,h⟩:=h
 obtain _|⟨v7,cs⟩:=cs;· exact h.elim
 obtain ⟨⟨s7,rfl,_⟩,h⟩:=h
 obtain _|⟨v8,cs⟩:=cs;· exact h.elim
 obtain ⟨⟨z8,rfl,_⟩,h⟩:=h
 obtain _|⟨v9,cs⟩:=cs;· exact h.elim
 obtain ⟨⟨z9,rfl,_⟩,h⟩:=h
 obtain _|⟨v10,cs⟩:=cs;· exact h.elim
 obtain ⟨⟨z10,rfl,h10⟩,h⟩:=h
 obtain _|⟨v11,cs⟩:=cs;· exact h.elim
 obtain ⟨⟨s11,rfl,_⟩,h⟩:=h
 obtain _|⟨v12,cs⟩:=cs;· exact h.elim
 obtain ⟨⟨s12,rfl,_⟩,h⟩:=h
 obtain _|⟨v13,cs⟩:=cs;· exact h.elim
 obtain ⟨⟨z13,rfl,_⟩,h⟩:=h
 obtain _|⟨v14,cs⟩:=cs;· exact h.elim
 obtain ⟨⟨z14,rfl,_⟩,h⟩:=h
 obtain _|⟨v15,cs⟩:=cs
 ·exact ⟨⟨z1,s2,z3,z4,⟨z5,s6,s7,z8⟩,z9,⟨z10,s11,s12,z13⟩,z14⟩,rfl,⟨(XT h3).1,(XT h3).2,(XT h4).1,(XT h4).2,(XT h5).1,(XT h5).2,(XT h10).1,(XT h10).2⟩⟩
 ·exact h.elim
theorem open_cqr {H:Type} {enc:TypeId×Value→H} {W:World} {base:Nat} {v:Value} {d:DataW H} {p:List MemPlace} (hv:Value.okWide prog W .any base 26 v) (h:DataW.Trod enc prog W 0 (fun _=>true) true 26 v d p) :
  ∃c:Cq,v=c.v∧CqOK c∧p=[]∧∀w' base' sp' hd',DataW.Trod enc prog w' base' sp' hd' 26 v d []:=by
 obtain ⟨fs,hu⟩:=uC
 obtain ⟨cs,rfl,hcs⟩:=okWide_struct hu hv
 obtain ⟨n,hn⟩:=h
 obtain ⟨c,hc,h1⟩:=open_cq (Yq n 5 _ W 0 _ _ _ _ _ plC skC hn)
 obtain ⟨hp,hr⟩:=Ys n 5 _ W 0 _ _ _ _ plC hn
 dsimp only at hp
 subst hp
 refine ⟨c,?_,h1,rfl,fun w' base' sp' hd'=>⟨n,hr w' base' sp' hd'⟩⟩
 show Value.agg cs = .agg _
 congr 1
 rw [←Array.toList_inj]
 exact hc
end
end Go.Proofs.YtfcnicnekddliaaGreatDoor
