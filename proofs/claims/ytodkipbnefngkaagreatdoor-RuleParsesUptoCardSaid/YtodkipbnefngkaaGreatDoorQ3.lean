/-
  The library's contracts, laid at this program: strings.Contains of one byte, strconv.Atoi.
  Package rule: numbers.
  A rule for maps that stay, in a drawn region.
  Package rule: how tests of texts are read.
  The library's contracts, laid at this program: strconv.Itoa.
  Package rule: how tests of numbers are read.
  The parser of rules: what is left is an end of what was there; how many nodes a condition has. No program in sight.
  Package rule: the table of tests; either, both.
  Package rule: both.
  Package rule: factors of conditions.
  The model's parser of rules: its state in memory, and its small steps.
  Rules for the range over a text, and what a rune is.
  A rule for a scope that no jump leaves.
  strings.IndexRune in the text of both braces.
  strings.IndexAny with both braces.
  strings.Cut at a brace; package rule: subject, value.
  Package rule: divide.
  A part of a text between two bounds.
  The statements' model of the language of rules: quote.
  The model's parser of rules: numbers.
  A byte as a text; decimal numerals.
  The statements' model of the language of rules: decimal numerals, subjects, what is possible.
  The statements' model of the language of rules: templates.
  The model's parser of rules: trees in memory, and the words of tests.
  The model's parser of rules: tests.
  Conditions: those that each theorem states.
-/
import Derived.Shelf.Strings.Search3
import Derived.Shelf.Strconv.AtoiAll
import Derived.Test.YtodkipbnefngkaaGreatDoorQ2
import Derived.Shelf.LaysM
import Derived.Shelf.Strconv.Itoa3
import Derived.Test.YtodkipbnefngkaaGreatDoorQ1
import Derived.Scope
import Derived.Shelf.Small.Utf8
import Derived.Shelf.Strings.IndexAnyAll
import Derived.Shelf.Strings.Search2
import Derived.Lib.ItoaNum
set_option maxRecDepth 10000
namespace Go.Proofs
open Go.Shelf
def Tryz.lays144_ren:Go.Shelf.Ren:=⟨fun|144=>53|143=>82|219=>116|217=>48|225=>120|224=>119|267=>148|266=>74|314=>159|n=>n,fun|9=>9|4=>4|3=>3|5=>5|46=>118|146=>149|51=>148|n=>n,fun|1=>0|n=>n⟩
theorem Tryz.lays144:Go.Proofs.Lays.n144 Tryz.prog Tryz.lays144_ren:={
 mixed:=by kernel_rfl
 f143:=Tryz.func82.trans (congrArg some (by kernel_rfl))
 f144:=Tryz.func53.trans (congrArg some (by kernel_rfl))
 f217:=Tryz.func48.trans (congrArg some (by kernel_rfl))
 f219:=Tryz.func116.trans (congrArg some (by kernel_rfl))
 f224:=Tryz.func119.trans (congrArg some (by kernel_rfl))
 f225:=Tryz.func120.trans (congrArg some (by kernel_rfl))
 f266:=Tryz.func74.trans (congrArg some (by kernel_rfl))
 f267:=Tryz.func148.trans (congrArg some (by kernel_rfl))
 f314:=Tryz.func159.trans (congrArg some (by kernel_rfl))
 t3:=Tryz.underlying3
 a3:=Tryz.isAgg3
 z3:=Tryz.sizeOf3
 v3:=Tryz.zeroValue3
 t4:=Tryz.underlying4
 a4:=Tryz.isAgg4
 z4:=Tryz.sizeOf4
 v4:=Tryz.zeroValue4
 t5:=Tryz.underlying5
 a5:=Tryz.isAgg5
 z5:=Tryz.sizeOf5
 v5:=Tryz.zeroValue5
 t9:=Tryz.underlying9
 a9:=Tryz.isAgg9
 z9:=Tryz.sizeOf9
 v9:=Tryz.zeroValue9
 t46:=Tryz.underlying118
 a46:=Tryz.isAgg118
 z46:=Tryz.sizeOf118
 v46:=Tryz.zeroValue118
 t51:=Tryz.underlying148
 a51:=Tryz.isAgg148
 z51:=Tryz.sizeOf148
 v51:=Tryz.zeroValue148
 t146:=Tryz.underlying149
 a146:=Tryz.isAgg149
 z146:=Tryz.sizeOf149
 v146:=Tryz.zeroValue149
 g1:=by kernel_rfl}
def Tryz.laysC172_ren:Go.Shelf.Ren:=⟨fun|172=>153|244=>165|245=>166|247=>171|279=>172|280=>173|281=>174|282=>175|287=>176|316=>177|171=>67|205=>178|321=>179|322=>180|243=>93|246=>121|283=>149|284=>150|285=>151|286=>152|129=>161|317=>160|318=>162|319=>163|320=>164|337=>169|338=>170|n=>n,fun|9=>9|3=>3|75=>84|76=>85|4=>4|5=>5|167=>228|37=>80|0=>0|85=>229|2=>2|168=>231|53=>151|175=>236|46=>118|210=>239|127=>129|145=>244|143=>242|21=>21|171=>201|173=>204|212=>218|51=>148|20=>20|213=>219|232=>234|233=>235|80=>71|n=>n,fun|15=>6|16=>7|17=>3|18=>4|19=>5|n=>n⟩
theorem Tryz.laysC172:Go.Proofs.LaysC.n172 Tryz.prog Tryz.laysC172_ren:={
 mixed:=by kernel_rfl
 f129:=Tryz.func161.trans (congrArg some (by kernel_rfl))
 f171:=Tryz.func67.trans (congrArg some (by kernel_rfl))
 f172:=Tryz.func153.trans (congrArg some (by kernel_rfl))
 f205:=Tryz.func178.trans (congrArg some (by kernel_rfl))
 f243:=Tryz.func93.trans (congrArg some (by kernel_rfl))
 f244:=Tryz.func165.trans (congrArg some (by kernel_rfl))
 f245:=Tryz.func166.trans (congrArg some (by kernel_rfl))
 f246:=Tryz.func121.trans (congrArg some (by kernel_rfl))
 f247:=Tryz.func171.trans (congrArg some (by kernel_rfl))
 f279:=Tryz.func172.trans (congrArg some (by kernel_rfl))
 f280:=Tryz.func173.trans (congrArg some (by kernel_rfl))
 f281:=Tryz.func174.trans (congrArg some (by kernel_rfl))
 f282:=Tryz.func175.trans (congrArg some (by kernel_rfl))
 f283:=Tryz.func149.trans (congrArg some (by kernel_rfl))
 f284:=Tryz.func150.trans (congrArg some (by kernel_rfl))
 f285:=Tryz.func151.trans (congrArg some (by kernel_rfl))
 f286:=Tryz.func152.trans (congrArg some (by kernel_rfl))
 f287:=Tryz.func176.trans (congrArg some (by kernel_rfl))
 f316:=Tryz.func177.trans (congrArg some (by kernel_rfl))
 f317:=Tryz.func160.trans (congrArg some (by kernel_rfl))
 f318:=Tryz.func162.trans (congrArg some (by kernel_rfl))
 f319:=Tryz.func163.trans (congrArg some (by kernel_rfl))
 f320:=Tryz.func164.trans (congrArg some (by kernel_rfl))
 f321:=Tryz.func179.trans (congrArg some (by kernel_rfl))
 f322:=Tryz.func180.trans (congrArg some (by kernel_rfl))
 f337:=Tryz.func169.trans (congrArg some (by kernel_rfl))
 f338:=Tryz.func170.trans (congrArg some (by kernel_rfl))
 t0:=Tryz.underlying0
 a0:=Tryz.isAgg0
 z0:=Tryz.sizeOf0
 v0:=Tryz.zeroValue0
 t2:=Tryz.underlying2
 a2:=Tryz.isAgg2
 z2:=Tryz.sizeOf2
 v2:=Tryz.zeroValue2
 t3:=Tryz.underlying3
 a3:=Tryz.isAgg3
 z3:=Tryz.sizeOf3
 v3:=Tryz.zeroValue3
 t4:=Tryz.underlying4
 a4:=Tryz.isAgg4
 z4:=Tryz.sizeOf4
 v4:=Tryz.zeroValue4
 t5:=Tryz.underlying5
 a5:=Tryz.isAgg5
 z5:=Tryz.sizeOf5
 v5:=Tryz.zeroValue5
 t9:=Tryz.underlying9
 a9:=Tryz.isAgg9
 z9:=Tryz.sizeOf9
 v9:=Tryz.zeroValue9
 t20:=Tryz.underlying20
 a20:=Tryz.isAgg20
 z20:=Tryz.sizeOf20
 v20:=Tryz.zeroValue20
 t21:=Tryz.underlying21
 a21:=Tryz.isAgg21
 z21:=Tryz.sizeOf21
 v21:=Tryz.zeroValue21
 t37:=Tryz.underlying80
 a37:=Tryz.isAgg80
 z37:=Tryz.sizeOf80
 v37:=Tryz.zeroValue80
 t46:=Tryz.underlying118
 a46:=Tryz.isAgg118
 z46:=Tryz.sizeOf118
 v46:=Tryz.zeroValue118
 t51:=Tryz.underlying148
 a51:=Tryz.isAgg148
 z51:=Tryz.sizeOf148
 v51:=Tryz.zeroValue148
 t53:=Tryz.underlying151
 a53:=Tryz.isAgg151
 z53:=Tryz.sizeOf151
 v53:=Tryz.zeroValue151
 t75:=Tryz.underlying84
 a75:=Tryz.isAgg84
 z75:=Tryz.sizeOf84
 v75:=Tryz.zeroValue84
 t76:=Tryz.underlying85
 a76:=Tryz.isAgg85
 z76:=Tryz.sizeOf85
 v76:=Tryz.zeroValue85
 t85:=Tryz.underlying229
 a85:=Tryz.isAgg229
 z85:=Tryz.sizeOf229
 v85:=Tryz.zeroValue229
 t127:=Tryz.underlying129
 a127:=Tryz.isAgg129
 z127:=Tryz.sizeOf129
 v127:=Tryz.zeroValue129
 t143:=Tryz.underlying242
 a143:=Tryz.isAgg242
 z143:=Tryz.sizeOf242
 v143:=Tryz.zeroValue242
 t145:=Tryz.underlying244
 a145:=Tryz.isAgg244
 z145:=Tryz.sizeOf244
 v145:=Tryz.zeroValue244
 t167:=Tryz.underlying228
 a167:=Tryz.isAgg228
 z167:=Tryz.sizeOf228
 v167:=Tryz.zeroValue228
 t168:=Tryz.underlying231
 a168:=Tryz.isAgg231
 z168:=Tryz.sizeOf231
 v168:=Tryz.zeroValue231
 t171:=Tryz.underlying201
 a171:=Tryz.isAgg201
 z171:=Tryz.sizeOf201
 v171:=Tryz.zeroValue201
 t173:=Tryz.underlying204
 a173:=Tryz.isAgg204
 z173:=Tryz.sizeOf204
 v173:=Tryz.zeroValue204
 t175:=Tryz.underlying236
 a175:=Tryz.isAgg236
 z175:=Tryz.sizeOf236
 v175:=Tryz.zeroValue236
 t210:=Tryz.underlying239
 a210:=Tryz.isAgg239
 z210:=Tryz.sizeOf239
 v210:=Tryz.zeroValue239
 t212:=Tryz.underlying218
 a212:=Tryz.isAgg218
 z212:=Tryz.sizeOf218
 v212:=Tryz.zeroValue218
 t213:=Tryz.underlying219
 a213:=Tryz.isAgg219
 z213:=Tryz.sizeOf219
 t232:=Tryz.underlying234
 a232:=Tryz.isAgg234
 z232:=Tryz.sizeOf234
 v232:=Tryz.zeroValue234
 t233:=Tryz.underlying235
 a233:=Tryz.isAgg235
 z233:=Tryz.sizeOf235
 v233:=Tryz.zeroValue235
 g15:=by kernel_rfl
 g16:=by kernel_rfl
 g17:=by kernel_rfl
 g18:=by kernel_rfl
 g19:=by kernel_rfl
 t80:=Tryz.underlying71
 a80:=Tryz.isAgg71
 z80:=Tryz.sizeOf71
 v80:=Tryz.zeroValue71
 i0:=by kernel_rfl
 i2:=by kernel_rfl
 i3:=by kernel_rfl
 i4:=by kernel_rfl
 i5:=by kernel_rfl
 i9:=by kernel_rfl
 i20:=by kernel_rfl
 i21:=by kernel_rfl
 i37:=by kernel_rfl
 i46:=by kernel_rfl
 i51:=by kernel_rfl
 i53:=by kernel_rfl
 i75:=by kernel_rfl
 i76:=by kernel_rfl
 i80:=by kernel_rfl
 i85:=by kernel_rfl
 i127:=by kernel_rfl
 i143:=by kernel_rfl
 i145:=by kernel_rfl
 i167:=by kernel_rfl
 i168:=by kernel_rfl
 i171:=by kernel_rfl
 i173:=by kernel_rfl
 i175:=by kernel_rfl
 i210:=by kernel_rfl
 i212:=by kernel_rfl
 i232:=by kernel_rfl
 i233:=by kernel_rfl
 m15:=by kernel_rfl
 m16:=by kernel_rfl
 m17:=by kernel_rfl
 m18:=by kernel_rfl
 m19:=by kernel_rfl
 c0:=by kernel_rfl
 c2:=by kernel_rfl
 c3:=by kernel_rfl
 c4:=by kernel_rfl
 c5:=by kernel_rfl
 c9:=by kernel_rfl
 c20:=by kernel_rfl
 c21:=by kernel_rfl
 c37:=by kernel_rfl
 c46:=by kernel_rfl
 c51:=by kernel_rfl
 c53:=by kernel_rfl
 c75:=by kernel_rfl
 c76:=by kernel_rfl
 c80:=by kernel_rfl
 c85:=by kernel_rfl
 c127:=by kernel_rfl
 c143:=by kernel_rfl
 c145:=by kernel_rfl
 c167:=by kernel_rfl
 c168:=by kernel_rfl
 c171:=by kernel_rfl
 c173:=by kernel_rfl
 c175:=by kernel_rfl
 c210:=by kernel_rfl
 c212:=by kernel_rfl
 c213:=by kernel_rfl
 c232:=by kernel_rfl
 c233:=by kernel_rfl}
end Go.Proofs
namespace Go.Proofs.YtodkipbnefngkaaGreatDoor
open Go.Proofs.Tryz
open Go.RowKit
theorem contains1_ok (s:ByteArray) (c:UInt8):Enters 53∧Spec prog 53 #[.string s,.string ⟨#[c]⟩] [] [] (RetV (.bool (decide (0≤Lib.indexByte s.data.toList c)))):=by
 refine ⟨enters_of func53 (by kernel_rfl) rfl,fun G w hp hs=>?_⟩
 refine (Any.strings_Contains_one Tryz.lays144 s c w).mono ?_
 rintro e w' ⟨rfl,rfl⟩
 exact ⟨(),rfl,trivial,hs⟩
def isEr:Value→Prop:=fun v=>v = .nilIface∨∃te pe,v = .iface te pe
def ErA:Pf:=⟨fun h=>(∃v T fz,isEr v∧h 6=some (.cells #[v] T fz))∧(∃v T fz,isEr v∧h 7=some (.cells #[v] T fz)),
 fun _ _ s ⟨⟨v,T,fz,h1,h2⟩,⟨u,U,gz,h3,h4⟩⟩=>⟨⟨v,T,fz,h1,s _ _ h2⟩,⟨u,U,gz,h3,s _ _ h4⟩⟩⟩
theorem WF (l:List UInt8) (c:UInt8):decide (0≤Lib.indexByte l c)=l.contains c:=by
 induction l with
 | nil=>rfl
 | cons d l ih=>
  have hg:=Lib.indexByte_ge l c
  rw [Lib.indexByte,List.contains_cons]
  by_cases h:d=c
  ·simp [h]
  ·have e1:(d == c)=false:=by simpa using h
   have e2:(c == d)=false:=by simpa using Ne.symm h
   rw [e1,e2,Bool.false_or,←ih]
   simp only [Bool.false_eq_true,if_false,beq_iff_eq]
   by_cases h2:Lib.indexByte l c = -1
   ·rw [if_pos h2,h2]
   ·rw [if_neg h2]
    rw [Bool.eq_iff_iff]
    simp only [decide_eq_true_eq]
    omega
theorem Wt {w w':World} (h:Below w.heap.size w w'):Ext w w':=⟨h.os,h.tape,h.output,h.size,h.block⟩
theorem cell_of {w:World} {g:Nat} {v:Value} {T:TypeId} {fz:Nat×Nat} (h:w.heap[g]? = some (.cells #[v] T fz)):w.cell? ⟨g,0,none⟩=some v:=by
 simp [World.cell?,h]
theorem atoi_ok (s:ByteArray) (hs:s.size≤281474976710656):Enters 153∧Spec prog 153 #[.string s] [ErA] []
  ⟨Value,fun v=>.tuple #[.int .i64 (atoF s).1,v],fun v=>(v = .nilIface∧(atoF s).2=true)∨((∃T u,v = .iface T u)∧(atoF s).2=false),fun _=>[],fun _=>[]⟩:=by
 refine ⟨enters_of func153 (by kernel_rfl) rfl,fun G w hp hs0=>?_⟩
 obtain ⟨hp',hr,st⟩:=hs0
 obtain ⟨⟨v1,T1,z1,e1,h1⟩,⟨v2,T2,z2,e2,h2⟩⟩:=st.f ErA (by simp)
 unfold atoF
 cases ha:Lib.atoiAll s.data.toList with
 | ok v=>
  refine (Any.strconv_Atoi_ok Tryz.laysC172 s (by omega) v ha w).mono ?_
  rintro e w' ⟨rfl,hw⟩
  have hx:Ext w w':=by
   rcases hw with rfl|⟨t,rfl⟩
   ·exact Wt (Below.refl _ _)
   ·exact Wt (Lib.bytesWorld_below w _ t)
  exact ⟨.nilIface,rfl,.inl ⟨rfl,rfl⟩,(Sat.ext ⟨hp',hr,st⟩ hx).facts fun _ _ x hx=>by cases hx⟩
 | range=>
  refine (Any.strconv_Atoi_range Tryz.laysC172 s hs ha v2 w (cell_of (st.inp _ _ h2)) e2).mono ?_
  rintro e w' ⟨N,rfl,h3,h4,h5⟩
  exact ⟨_,rfl,.inr ⟨⟨_,_,rfl⟩,rfl⟩,(Sat.ext ⟨hp',hr,st⟩ (Wt h5)).facts fun _ _ x hx=>by cases hx⟩
 | _=>
  refine (Any.strconv_Atoi_syntax Tryz.laysC172 s hs ha v1 w (cell_of (st.inp _ _ h1)) e1).mono ?_
  rintro e w' ⟨N,rfl,h3,h4,h5⟩
  exact ⟨_,rfl,.inr ⟨⟨_,_,rfl⟩,rfl⟩,(Sat.ext ⟨hp',hr,st⟩ (Wt h5)).facts fun _ _ x hx=>by cases hx⟩
end Go.Proofs.YtodkipbnefngkaaGreatDoor
set_option maxRecDepth 10000
namespace Go.Proofs.YtodkipbnefngkaaGreatDoor
open Go.RowKit Go.Proofs.Tryz
set_option maxHeartbeats 4000000 in
theorem ruNumber_ok (b r:Nat) (x:Ps) (o:Option Addr) (cap:Nat) (hk:KdOK x):Enters 138∧Spec prog 138 #[.pointer (some ⟨b,0,none⟩)] [TkS (o,cap) x.tk,ErA] [Pt b (psC x o cap r)] (PsP (.int .i64 (numF x).1) b r (numF x).2):=by
 have n1:=Yg b r x o cap hk 2
 have n2:=fun (q:Option Addr×Nat)=>Z8 b r (x.need 2) q.1 q.2 x.peek.pl 3
 have hz:=hk.peek
 unfold numF
 generalize hp:x.peek=t at *
 obtain ⟨kd,tx,pl⟩:=t
 dsimp only at hz ⊢
 have n3:=contains1_ok tx 46
 rw [WF] at n3
 have n4:=atoi_ok tx (by omega)
 have hsz:tx.data.toList.length=tx.size:=by show _=tx.data.size;simp
 generalize hy:(if badN tx=true then (x.need 2).fail pl 3 else x.need 2)=y
 have n5:=fun (q:Option Addr×Nat)=>Z8 b r y q.1 q.2 pl 2
 generalize b=bp at *
 generalize hA:atoF tx=z at *
 obtain ⟨zv,ok⟩:=z
 dsimp only at n4 ⊢
 by_cases c1:tx.data.toList.contains 46=true
 ·rw [c1] at n3
  have hb:badN tx=true:=by unfold badN;rw [c1];rfl
  rw [if_pos hb] at hy
  subst hy
  refine ZR [_] func138 ntmps138 fun G w hp=>?_
  repeat' (first|refine ZF ?_|refine ZI ?_|refine ZG ?_|refine ZH ?_|refine ZL ?_|refine ZJ ?_|refine ZN ?_|refine ZK (fun b=>?_)|refine ZM (fun b=>?_)|refine ZC ?_|refine ZA ?_|refine ZO ?_|refine ZD (n1) (fun _ _=>?_)|refine l_call0 (n1) (fun _ _=>?_)|refine ZD (n2 _) (fun _ _=>?_)|refine l_call0 (n2 _) (fun _ _=>?_)|refine ZD (n3) (fun _ _=>?_)|refine l_call0 (n3) (fun _ _=>?_)|refine ZD (n4) (fun _ _=>?_)|refine l_call0 (n4) (fun _ _=>?_)|(refine ZB (fun hc=>?_) (fun hc=>?_)<;>(try simp at hc)<;>(try omega))|(refine ZE (fun hc=>?_) (fun hc=>?_)<;>(try simp at hc)<;>(try omega)))
  rename_i q _ _ _ qq _ v hv
  rcases hv with ⟨rfl,rfl⟩|⟨⟨T,u,rfl⟩,rfl⟩
  ·by_cases c3:1073741824<zv
   ·rw [if_pos (.inr c3)]
    repeat' (first|refine Ya underlying84 (.inl ⟨rfl,rfl⟩) ?_|refine ZF ?_|refine ZI ?_|refine ZG ?_|refine ZH ?_|refine ZL ?_|refine ZJ ?_|refine ZN ?_|refine ZK (fun b=>?_)|refine ZM (fun b=>?_)|refine ZC ?_|refine ZA ?_|refine ZO ?_|refine ZD (n5 _) (fun _ _=>?_)|refine l_call0 (n5 _) (fun _ _=>?_)|(refine ZB (fun hc=>?_) (fun hc=>?_)<;>(try simp at hc)<;>(try omega))|(refine ZE (fun hc=>?_) (fun hc=>?_)<;>(try simp at hc)<;>(try omega)))
    rename_i q2 _
    exact ZP q2 rfl trivial
   ·rw [if_neg (by rintro (h|h);cases h;exact c3 h)]
    repeat' (first|refine Ya underlying84 (.inl ⟨rfl,rfl⟩) ?_|refine ZF ?_|refine ZI ?_|refine ZG ?_|refine ZH ?_|refine ZL ?_|refine ZJ ?_|refine ZN ?_|refine ZK (fun b=>?_)|refine ZM (fun b=>?_)|refine ZC ?_|refine ZA ?_|refine ZO ?_|refine ZD (n5 _) (fun _ _=>?_)|refine l_call0 (n5 _) (fun _ _=>?_)|(refine ZB (fun hc=>?_) (fun hc=>?_)<;>(try simp at hc)<;>(try omega))|(refine ZE (fun hc=>?_) (fun hc=>?_)<;>(try simp at hc)<;>(try omega)))
    exact ZP qq rfl trivial
  ·rw [if_pos (.inl rfl)]
   repeat' (first|refine Ya underlying84 (.inr ⟨⟨_,_,rfl⟩,rfl⟩) ?_|refine ZF ?_|refine ZI ?_|refine ZG ?_|refine ZH ?_|refine ZL ?_|refine ZJ ?_|refine ZN ?_|refine ZK (fun b=>?_)|refine ZM (fun b=>?_)|refine ZC ?_|refine ZA ?_|refine ZO ?_|refine ZD (n5 _) (fun _ _=>?_)|refine l_call0 (n5 _) (fun _ _=>?_)|(refine ZB (fun hc=>?_) (fun hc=>?_)<;>(try simp at hc)<;>(try omega))|(refine ZE (fun hc=>?_) (fun hc=>?_)<;>(try simp at hc)<;>(try omega)))
   rename_i q2 _
   exact ZP q2 rfl trivial
 ·have c1:tx.data.toList.contains 46=false:=by simpa using c1
  rw [c1] at n3
  by_cases c4:1<tx.size
  ·have hlt:0<tx.data.toList.length:=by omega
   have hc0:=List.getElem?_eq_getElem hlt
   generalize hce:tx.data.toList[0]=c at *
   have hh:tx.data.toList.head? = some c:=by rw [List.head?_eq_getElem?,hc0]
   by_cases c5:c=48
   ·have k5:(c.toNat:Int)=48:=by rw [c5];rfl
    have hb:badN tx=true:=by unfold badN;rw [c1,hh,c5];simp [c4]
    rw [if_pos hb] at hy
    subst hy
    refine ZR [_] func138 ntmps138 fun G w hp=>?_
    repeat' (first|refine ZF ?_|refine ZI ?_|refine ZG ?_|refine ZH ?_|refine ZL ?_|refine ZJ ?_|refine ZN ?_|refine ZK (fun b=>?_)|refine ZM (fun b=>?_)|refine ZC ?_|refine ZA ?_|refine ZO ?_|refine ZD (n1) (fun _ _=>?_)|refine l_call0 (n1) (fun _ _=>?_)|refine ZD (n2 _) (fun _ _=>?_)|refine l_call0 (n2 _) (fun _ _=>?_)|refine ZD (n3) (fun _ _=>?_)|refine l_call0 (n3) (fun _ _=>?_)|refine ZD (n4) (fun _ _=>?_)|refine l_call0 (n4) (fun _ _=>?_)|refine Zh (s:=tx) 0 c hc0 ?_|(refine ZB (fun hc=>?_) (fun hc=>?_)<;>(try simp at hc)<;>(try omega))|(refine ZE (fun hc=>?_) (fun hc=>?_)<;>(try simp at hc)<;>(try omega)))
    rename_i q _ _ _ qq _ v hv
    rcases hv with ⟨rfl,rfl⟩|⟨⟨T,u,rfl⟩,rfl⟩
    ·by_cases c3:1073741824<zv
     ·rw [if_pos (.inr c3)]
      repeat' (first|refine Ya underlying84 (.inl ⟨rfl,rfl⟩) ?_|refine ZF ?_|refine ZI ?_|refine ZG ?_|refine ZH ?_|refine ZL ?_|refine ZJ ?_|refine ZN ?_|refine ZK (fun b=>?_)|refine ZM (fun b=>?_)|refine ZC ?_|refine ZA ?_|refine ZO ?_|refine ZD (n5 _) (fun _ _=>?_)|refine l_call0 (n5 _) (fun _ _=>?_)|(refine ZB (fun hc=>?_) (fun hc=>?_)<;>(try simp at hc)<;>(try omega))|(refine ZE (fun hc=>?_) (fun hc=>?_)<;>(try simp at hc)<;>(try omega)))
      rename_i q2 _
      exact ZP q2 rfl trivial
     ·rw [if_neg (by rintro (h|h);cases h;exact c3 h)]
      repeat' (first|refine Ya underlying84 (.inl ⟨rfl,rfl⟩) ?_|refine ZF ?_|refine ZI ?_|refine ZG ?_|refine ZH ?_|refine ZL ?_|refine ZJ ?_|refine ZN ?_|refine ZK (fun b=>?_)|refine ZM (fun b=>?_)|refine ZC ?_|refine ZA ?_|refine ZO ?_|refine ZD (n5 _) (fun _ _=>?_)|refine l_call0 (n5 _) (fun _ _=>?_)|(refine ZB (fun hc=>?_) (fun hc=>?_)<;>(try simp at hc)<;>(try omega))|(refine ZE (fun hc=>?_) (fun hc=>?_)<;>(try simp at hc)<;>(try omega)))
      exact ZP qq rfl trivial
    ·rw [if_pos (.inl rfl)]
     repeat' (first|refine Ya underlying84 (.inr ⟨⟨_,_,rfl⟩,rfl⟩) ?_|refine ZF ?_|refine ZI ?_|refine ZG ?_|refine ZH ?_|refine ZL ?_|refine ZJ ?_|refine ZN ?_|refine ZK (fun b=>?_)|refine ZM (fun b=>?_)|refine ZC ?_|refine ZA ?_|refine ZO ?_|refine ZD (n5 _) (fun _ _=>?_)|refine l_call0 (n5 _) (fun _ _=>?_)|(refine ZB (fun hc=>?_) (fun hc=>?_)<;>(try simp at hc)<;>(try omega))|(refine ZE (fun hc=>?_) (fun hc=>?_)<;>(try simp at hc)<;>(try omega)))
     rename_i q2 _
     exact ZP q2 rfl trivial
   ·have k5:¬(c.toNat:Int)=48:=fun h=>c5 ((u8i (k:=48) (by decide)).2 h)
    have hb:¬badN tx=true:=by unfold badN;rw [c1,hh];simp [c5]
    rw [if_neg hb] at hy
    subst hy
    refine ZR [_] func138 ntmps138 fun G w hp=>?_
    repeat' (first|refine ZF ?_|refine ZI ?_|refine ZG ?_|refine ZH ?_|refine ZL ?_|refine ZJ ?_|refine ZN ?_|refine ZK (fun b=>?_)|refine ZM (fun b=>?_)|refine ZC ?_|refine ZA ?_|refine ZO ?_|refine ZD (n1) (fun _ _=>?_)|refine l_call0 (n1) (fun _ _=>?_)|refine ZD (n2 _) (fun _ _=>?_)|refine l_call0 (n2 _) (fun _ _=>?_)|refine ZD (n3) (fun _ _=>?_)|refine l_call0 (n3) (fun _ _=>?_)|refine ZD (n4) (fun _ _=>?_)|refine l_call0 (n4) (fun _ _=>?_)|refine Zh (s:=tx) 0 c hc0 ?_|(refine ZB (fun hc=>?_) (fun hc=>?_)<;>(try simp at hc)<;>(try omega))|(refine ZE (fun hc=>?_) (fun hc=>?_)<;>(try simp at hc)<;>(try omega)))
    rename_i q _ _ _ _ v hv
    rcases hv with ⟨rfl,rfl⟩|⟨⟨T,u,rfl⟩,rfl⟩
    ·by_cases c3:1073741824<zv
     ·rw [if_pos (.inr c3)]
      repeat' (first|refine Ya underlying84 (.inl ⟨rfl,rfl⟩) ?_|refine ZF ?_|refine ZI ?_|refine ZG ?_|refine ZH ?_|refine ZL ?_|refine ZJ ?_|refine ZN ?_|refine ZK (fun b=>?_)|refine ZM (fun b=>?_)|refine ZC ?_|refine ZA ?_|refine ZO ?_|refine ZD (n5 _) (fun _ _=>?_)|refine l_call0 (n5 _) (fun _ _=>?_)|(refine ZB (fun hc=>?_) (fun hc=>?_)<;>(try simp at hc)<;>(try omega))|(refine ZE (fun hc=>?_) (fun hc=>?_)<;>(try simp at hc)<;>(try omega)))
      rename_i q2 _
      exact ZP q2 rfl trivial
     ·rw [if_neg (by rintro (h|h);cases h;exact c3 h)]
      repeat' (first|refine Ya underlying84 (.inl ⟨rfl,rfl⟩) ?_|refine ZF ?_|refine ZI ?_|refine ZG ?_|refine ZH ?_|refine ZL ?_|refine ZJ ?_|refine ZN ?_|refine ZK (fun b=>?_)|refine ZM (fun b=>?_)|refine ZC ?_|refine ZA ?_|refine ZO ?_|refine ZD (n5 _) (fun _ _=>?_)|refine l_call0 (n5 _) (fun _ _=>?_)|(refine ZB (fun hc=>?_) (fun hc=>?_)<;>(try simp at hc)<;>(try omega))|(refine ZE (fun hc=>?_) (fun hc=>?_)<;>(try simp at hc)<;>(try omega)))
      exact ZP q rfl trivial
    ·rw [if_pos (.inl rfl)]
     repeat' (first|refine Ya underlying84 (.inr ⟨⟨_,_,rfl⟩,rfl⟩) ?_|refine ZF ?_|refine ZI ?_|refine ZG ?_|refine ZH ?_|refine ZL ?_|refine ZJ ?_|refine ZN ?_|refine ZK (fun b=>?_)|refine ZM (fun b=>?_)|refine ZC ?_|refine ZA ?_|refine ZO ?_|refine ZD (n5 _) (fun _ _=>?_)|refine l_call0 (n5 _) (fun _ _=>?_)|(refine ZB (fun hc=>?_) (fun hc=>?_)<;>(try simp at hc)<;>(try omega))|(refine ZE (fun hc=>?_) (fun hc=>?_)<;>(try simp at hc)<;>(try omega)))
     rename_i q2 _
     exact ZP q2 rfl trivial
  ·have hb:¬badN tx=true:=by unfold badN;rw [c1];simp [c4]
   rw [if_neg hb] at hy
   subst hy
   refine ZR [_] func138 ntmps138 fun G w hp=>?_
   repeat' (first|refine ZF ?_|refine ZI ?_|refine ZG ?_|refine ZH ?_|refine ZL ?_|refine ZJ ?_|refine ZN ?_|refine ZK (fun b=>?_)|refine ZM (fun b=>?_)|refine ZC ?_|refine ZA ?_|refine ZO ?_|refine ZD (n1) (fun _ _=>?_)|refine l_call0 (n1) (fun _ _=>?_)|refine ZD (n2 _) (fun _ _=>?_)|refine l_call0 (n2 _) (fun _ _=>?_)|refine ZD (n3) (fun _ _=>?_)|refine l_call0 (n3) (fun _ _=>?_)|refine ZD (n4) (fun _ _=>?_)|refine l_call0 (n4) (fun _ _=>?_)|(refine ZB (fun hc=>?_) (fun hc=>?_)<;>(try simp at hc)<;>(try omega))|(refine ZE (fun hc=>?_) (fun hc=>?_)<;>(try simp at hc)<;>(try omega)))
   rename_i q _ _ _ v hv
   rcases hv with ⟨rfl,rfl⟩|⟨⟨T,u,rfl⟩,rfl⟩
   ·by_cases c3:1073741824<zv
    ·rw [if_pos (.inr c3)]
     repeat' (first|refine Ya underlying84 (.inl ⟨rfl,rfl⟩) ?_|refine ZF ?_|refine ZI ?_|refine ZG ?_|refine ZH ?_|refine ZL ?_|refine ZJ ?_|refine ZN ?_|refine ZK (fun b=>?_)|refine ZM (fun b=>?_)|refine ZC ?_|refine ZA ?_|refine ZO ?_|refine ZD (n5 _) (fun _ _=>?_)|refine l_call0 (n5 _) (fun _ _=>?_)|(refine ZB (fun hc=>?_) (fun hc=>?_)<;>(try simp at hc)<;>(try omega))|(refine ZE (fun hc=>?_) (fun hc=>?_)<;>(try simp at hc)<;>(try omega)))
     rename_i q2 _
     exact ZP q2 rfl trivial
    ·rw [if_neg (by rintro (h|h);cases h;exact c3 h)]
     repeat' (first|refine Ya underlying84 (.inl ⟨rfl,rfl⟩) ?_|refine ZF ?_|refine ZI ?_|refine ZG ?_|refine ZH ?_|refine ZL ?_|refine ZJ ?_|refine ZN ?_|refine ZK (fun b=>?_)|refine ZM (fun b=>?_)|refine ZC ?_|refine ZA ?_|refine ZO ?_|refine ZD (n5 _) (fun _ _=>?_)|refine l_call0 (n5 _) (fun _ _=>?_)|(refine ZB (fun hc=>?_) (fun hc=>?_)<;>(try simp at hc)<;>(try omega))|(refine ZE (fun hc=>?_) (fun hc=>?_)<;>(try simp at hc)<;>(try omega)))
     exact ZP q rfl trivial
   ·rw [if_pos (.inl rfl)]
    repeat' (first|refine Ya underlying84 (.inr ⟨⟨_,_,rfl⟩,rfl⟩) ?_|refine ZF ?_|refine ZI ?_|refine ZG ?_|refine ZH ?_|refine ZL ?_|refine ZJ ?_|refine ZN ?_|refine ZK (fun b=>?_)|refine ZM (fun b=>?_)|refine ZC ?_|refine ZA ?_|refine ZO ?_|refine ZD (n5 _) (fun _ _=>?_)|refine l_call0 (n5 _) (fun _ _=>?_)|(refine ZB (fun hc=>?_) (fun hc=>?_)<;>(try simp at hc)<;>(try omega))|(refine ZE (fun hc=>?_) (fun hc=>?_)<;>(try simp at hc)<;>(try omega)))
    rename_i q2 _
    exact ZP q2 rfl trivial
section
variable {n:Nat} {C:Cx} {Q:Exit→Act→World→Prop} {E E':List (Nat×Value)} {F F' F1 Fs F0:List Pf} {R R' R0 Rs N N' A:List HP} {k k':List Fr} {ops l:List Oper} {L L':List (Nat×Nat)} {Tl:List Nat} {i d:Nat} {t ty0:TypeId} {x y z:Operand} {pos:String} {aft:Array Edge} {gd:Option (Nat×Bool)} {α β:Type} [DecidableEq α] {K:α→Value} {V:β→Value}
theorem r_mgetG {kt et r:Nat} {rs te:TRow} {m:List (α×β)} {zv:Value} (hk:KeyOK kt K) (a:α) (o:Option β) (ho:mget a m=o) (nx:Wr n C ops k Q Tl Fs R L ((d,(o.map V).getD zv)::E) F N)
  (hop:nth ops i=some ⟨some d,.lookup t x y false,ty0,pos,aft,gd⟩:=by rfl) (hw:wantL ops E ⟨some d,.lookup t x y false,ty0,pos,aft,gd⟩=some true:=by rfl)
  (hx:ev E x=some (.map (some r)):=by rfl) (hy:ev E y=some (K a):=by rfl) (hts:lookT tab t=some rs:=by rfl) (hrs:rs.k = .map kt et:=by rfl) (hte:lookT tab et=some te:=by rfl) (hzv:zval te=some zv:=by rfl)
  (hs:Sel (Mp K V r m) R R0:=by (repeat (first|exact Sel.here|apply Sel.there));first|done|fail):Wr n C ops k Q Tl Fs R ((i,0)::L) E F N:=
 Yx hop fun hp hr w st hz sb=>by
  simp only [Z0 hw]
  refine ⟨(o.map V).getD zv,fun ac w ha hin=>?_,nx hp hr w st hz sb⟩
  obtain ⟨h1,h2,_,s1,_,hmp,_⟩:=hs.sep st.r
  obtain ⟨es,clock,hes,he,hB⟩:=hmp
  have hb:w.heap[r]? = some (.map es clock):=hin _ _ (sb _ _ (ZZ _ _ _ _ (s1 _ _ hes)))
  have hu:=WP (w:=w) hts hrs
  have hg:(getObj r).run prog w = .ok (.map es clock) w:=by simp [getObj,Sem.run,hb]
  have hc:=hk.chk a es.isEmpty w
  have hf:=XM hk a es.toList m w he
  have hz0:=Vh hte hzv w
  have hfg:=Xu a m 0
  simp only [execOp,ha.ev (x:=x) (by rw [ZS];exact hx),ha.ev (x:=y) (by rw [ZS];exact hy),Instr.lookup,Sem.run_bind,hu,Result.andThen,hg,hc,hf,Sem.run_pure]
  cases hm:mfind a m 0 with
  | none=>
   rw [hm] at hfg
   simp only [Option.map_none,Sem.run_bind,hz0,Result.andThen,Sem.run_pure,Bool.false_eq_true,if_false]
   rw [←ho,←hfg];rfl
  | some q=>
   rw [hm] at hfg
   simp only [Option.map_some,Bool.false_eq_true,if_false]
   rw [←ho,←hfg];rfl
theorem Xm {kt et r:Nat} {rs te:TRow} {m:List (α×β)} {zv:Value} (hk:KeyOK kt K) (a:α) (o:Option β) (ho:mget a m=o) (nx:Wr n C ops k Q Tl Fs R L ((d,.tuple #[(o.map V).getD zv,.bool o.isSome])::E) F N)
  (hop:nth ops i=some ⟨some d,.lookup t x y true,ty0,pos,aft,gd⟩:=by rfl) (hw:wantL ops E ⟨some d,.lookup t x y true,ty0,pos,aft,gd⟩=some true:=by rfl)
  (hx:ev E x=some (.map (some r)):=by rfl) (hy:ev E y=some (K a):=by rfl) (hts:lookT tab t=some rs:=by rfl) (hrs:rs.k = .map kt et:=by rfl) (hte:lookT tab et=some te:=by rfl) (hzv:zval te=some zv:=by rfl)
  (hs:Sel (Mp K V r m) R R0:=by (repeat (first|exact Sel.here|apply Sel.there));first|done|fail):Wr n C ops k Q Tl Fs R ((i,0)::L) E F N:=
 Yx hop fun hp hr w st hz sb=>by
  simp only [Z0 hw]
  refine ⟨.tuple #[(o.map V).getD zv,.bool o.isSome],fun ac w ha hin=>?_,nx hp hr w st hz sb⟩
  obtain ⟨h1,h2,_,s1,_,hmp,_⟩:=hs.sep st.r
  obtain ⟨es,clock,hes,he,hB⟩:=hmp
  have hb:w.heap[r]? = some (.map es clock):=hin _ _ (sb _ _ (ZZ _ _ _ _ (s1 _ _ hes)))
  have hu:=WP (w:=w) hts hrs
  have hg:(getObj r).run prog w = .ok (.map es clock) w:=by simp [getObj,Sem.run,hb]
  have hc:=hk.chk a es.isEmpty w
  have hf:=XM hk a es.toList m w he
  have hz0:=Vh hte hzv w
  have hfg:=Xu a m 0
  simp only [execOp,ha.ev (x:=x) (by rw [ZS];exact hx),ha.ev (x:=y) (by rw [ZS];exact hy),Instr.lookup,Sem.run_bind,hu,Result.andThen,hg,hc,hf,Sem.run_pure]
  cases hm:mfind a m 0 with
  | none=>
   rw [hm] at hfg
   simp only [Option.map_none,Sem.run_bind,hz0,Result.andThen,Sem.run_pure,if_true]
   rw [←ho,←hfg];rfl
  | some q=>
   rw [hm] at hfg
   simp only [Option.map_some,if_true]
   rw [←ho,←hfg];rfl
end
def vid (v:Value):Value:=v
theorem mget_cts (w:ByteArray) (a b c:Value):(mget w (mset (⟨#[98,101,103,105,110,115]⟩:ByteArray) c (mset (⟨#[104,97,115]⟩:ByteArray) b (mset (⟨#[105,115]⟩:ByteArray) a []))))=if idx w wCts=0 then some a else if idx w wCts=1 then some b else if idx w wCts=2 then some c else none:=by
 have e:(mset (⟨#[98,101,103,105,110,115]⟩:ByteArray) c (mset (⟨#[104,97,115]⟩:ByteArray) b (mset (⟨#[105,115]⟩:ByteArray) a [])))=[(⟨#[105,115]⟩,a),(⟨#[104,97,115]⟩,b),(⟨#[98,101,103,105,110,115]⟩,c)]:=rfl
 rw [e]
 by_cases h1:w=⟨#[105,115]⟩
 ·subst h1;rfl
 by_cases h2:w=⟨#[104,97,115]⟩
 ·subst h2;rfl
 by_cases h3:w=⟨#[98,101,103,105,110,115]⟩
 ·subst h3;rfl
 have e2:idx w wCts=3:=by simp [wCts,idx,Ne.symm h1,Ne.symm h2,Ne.symm h3]
 rw [e2]
 simp [mget,h1,h2,h3]
theorem mget_txs (w:ByteArray) (a b c:Value):(mget w (mset (⟨#[97,102,116,101,114]⟩:ByteArray) c (mset (⟨#[98,101,102,111,114,101]⟩:ByteArray) b (mset (⟨#[116,97,114,103,101,116]⟩:ByteArray) a []))))=if idx w wTxs=0 then some a else if idx w wTxs=1 then some b else if idx w wTxs=2 then some c else none:=by
 have e:(mset (⟨#[97,102,116,101,114]⟩:ByteArray) c (mset (⟨#[98,101,102,111,114,101]⟩:ByteArray) b (mset (⟨#[116,97,114,103,101,116]⟩:ByteArray) a [])))=[(⟨#[116,97,114,103,101,116]⟩,a),(⟨#[98,101,102,111,114,101]⟩,b),(⟨#[97,102,116,101,114]⟩,c)]:=rfl
 rw [e]
 by_cases h1:w=⟨#[116,97,114,103,101,116]⟩
 ·subst h1;rfl
 by_cases h2:w=⟨#[98,101,102,111,114,101]⟩
 ·subst h2;rfl
 by_cases h3:w=⟨#[97,102,116,101,114]⟩
 ·subst h3;rfl
 have e2:idx w wTxs=3:=by simp [wTxs,idx,Ne.symm h1,Ne.symm h2,Ne.symm h3]
 rw [e2]
 simp [mget,h1,h2,h3]
theorem testF_tx {w:ByteArray} (hw:idx w wTxs<3) (p:Ps):testF w p=(let p2:=if idx p.peek.tx wCts<3 then p.need 1 else (p.need 1).fail p.peek.pl 30;(.tx (w++wSp++p.peek.tx++wSp++quoF p2.peek.tx) (idx w wTxs) (idx p.peek.tx wCts) p2.peek.tx,p2.need 3)):=by
 have h1:¬idx w wKinds<3:=fun h=>(VV w (Zg.1 h)).2.1 hw
 have h2:¬w=wChan:=fun h=>by rw [h] at hw;exact chan_x.1 hw
 unfold testF
 rw [if_neg h1,if_neg h2,if_pos hw]
set_option maxHeartbeats 4000000 in
theorem V5 (b r:Nat) (wd:ByteArray) (hw:idx wd wTxs<3) (x:Ps) (o:Option Addr) (cap:Nat) (hk:KdOK x):Enters 103∧Spec prog 103 #[.pointer (some ⟨b,0,none⟩),.string wd] [TkS (o,cap) x.tk] [Pt b (psC x o cap r)] (RdP b r (testF wd x)):=by
 have n1:=Yg b r x o cap hk 1
 have n2:=fun (q:Option Addr×Nat)=>Z8 b r (x.need 1) q.1 q.2 x.peek.pl 30
 have hws:wd.size≤10:=by
  have h:=Zg.1 hw
  exact (show ∀w ∈ wTxs,w.size≤10 by decide) wd h
 have hz:=hk.peek
 rw [testF_tx hw]
 generalize hp:x.peek=t at *
 obtain ⟨kd,tx,pl⟩:=t
 dsimp only at hz ⊢
 generalize hy:(if idx tx wCts<3 then x.need 1 else (x.need 1).fail pl 30)=y
 have hky:KdOK y:=by
  rw [←hy];split
  ·exact hk.need 1
  ·exact (hk.need 1).fail _ _
 have n3:=fun (q:Option Addr×Nat)=>Yg b r y q.1 q.2 hky 3
 have hz2:=hky.peek
 generalize hp2:y.peek=u at *
 obtain ⟨kd2,tx2,pl2⟩:=u
 dsimp only at hz2 ⊢
 have n4:=W6 tx2 (by omega)
 have hg1:=mget_cts tx (fnv 129) (fnv 53) (fnv 55)
 have hg2:=mget_txs wd (fnv 126) (fnv 127) (fnv 128)
 have hq:=Xp tx2
 have hss:wSp.size=1:=by decide
 have q1:wd.size+wSp.size≤9223372036854775807:=by omega
 have q2:(wd++wSp).size+tx.size≤9223372036854775807:=by rw [ByteArray.size_append];omega
 have q3:(wd++wSp++tx).size+wSp.size≤9223372036854775807:=by simp only [ByteArray.size_append];omega
 have q4:(wd++wSp++tx++wSp).size+(quoF tx2).size≤9223372036854775807:=by simp only [ByteArray.size_append];omega
 obtain ⟨fv,hfv,hfm⟩:∃fv,mget wd (mset (⟨#[97,102,116,101,114]⟩:ByteArray) (fnv 128) (mset (⟨#[98,101,102,111,114,101]⟩:ByteArray) (fnv 127) (mset (⟨#[116,97,114,103,101,116]⟩:ByteArray) (fnv 126) [])))=some (fnv fv)∧fdT (idx wd wTxs)=fnv fv:=by
  rw [hg2]
  generalize idx wd wTxs=kk at hw
  match kk,hw with
  | 0,_=>exact ⟨_,rfl,rfl⟩
  | 1,_=>exact ⟨_,rfl,rfl⟩
  | 2,_=>exact ⟨_,rfl,rfl⟩
 generalize b=bp at *
 by_cases hi:idx tx wCts<3
 ·obtain ⟨cf,hcv,hcm⟩:∃cf,mget tx (mset (⟨#[98,101,103,105,110,115]⟩:ByteArray) (fnv 55) (mset (⟨#[104,97,115]⟩:ByteArray) (fnv 53) (mset (⟨#[105,115]⟩:ByteArray) (fnv 129) [])))=some (fnv cf)∧cmT (idx tx wCts)=fnv cf:=by
   rw [hg1]
   generalize idx tx wCts=kk at hi
   match kk,hi with
   | 0,_=>exact ⟨_,rfl,rfl⟩
   | 1,_=>exact ⟨_,rfl,rfl⟩
   | 2,_=>exact ⟨_,rfl,rfl⟩
  rw [if_pos hi] at hy
  subst hy
  refine ZR [_,_] func103 ntmps103 fun G w hp=>?_
  repeat' (first|refine Yc (V:=vid) Zl tx (some (fnv cf)) hcv ?_|refine Y9 (V:=vid) Zl _ _ ?_|refine WC Zl vid (fun r=>?_)|refine ZF ?_|refine ZI ?_|refine ZG ?_|refine ZH ?_|refine ZL ?_|refine ZJ ?_|refine ZN ?_|refine ZK (fun b=>?_)|refine ZM (fun b=>?_)|refine ZC ?_|refine ZA ?_|refine ZO ?_|refine Zb ?_|refine Zc ?_|refine Zq ?_|refine Zd ?_|refine r_ldN ?_|refine Zr (fun b=>?_)|refine Zo (fun b=>?_)|refine Zp ?_|refine Za ?_|refine ZD (n1) (fun _ _=>?_)|refine l_call0 (n1) (fun _ _=>?_)|refine ZQ (n1) (fun _ _=>?_)|refine YQ (n1) (fun _ _=>?_)|refine ZD (n3 _) (fun _ _=>?_)|refine l_call0 (n3 _) (fun _ _=>?_)|refine ZQ (n3 _) (fun _ _=>?_)|refine YQ (n3 _) (fun _ _=>?_)|refine ZD (n4) (fun _ _=>?_)|refine l_call0 (n4) (fun _ _=>?_)|refine ZQ (n4) (fun _ _=>?_)|refine YQ (n4) (fun _ _=>?_)|refine r_mgetG (V:=vid) Zl wd (some (fnv fv)) hfv ?_|refine Z7 (a:=wd) (b:=wSp) ?_ (h:=q1)|refine Z7 (a:=wd++wSp) (b:=tx) ?_ (h:=q2)|refine Z7 (a:=wd++wSp++tx) (b:=wSp) ?_ (h:=q3)|refine Z7 (a:=wd++wSp++tx++wSp) (b:=quoF tx2) ?_ (h:=q4)|(refine ZB (fun hc=>?_) (fun hc=>?_)<;>(try simp at hc)<;>(try omega))|(refine ZU (fun hc=>?_) (fun hc=>?_)<;>(try simp at hc)<;>(try omega))|refine ZT 7 [Pt bp _] [(0,0),(3,0),(4,0),(5,0),(1,4),(2,0),(6,1),(7,1),(8,4),(9,4)] [] ?_|refine ZT 8 [] [(0,0),(1,0),(2,0),(3,0),(4,0),(5,0),(6,0),(9,0),(7,5),(8,0),(10,0),(11,0),(12,0)] [] ?_|(refine ZE (fun hc=>?_) (fun hc=>?_)<;>(try simp at hc)<;>(try omega)))
  rename_i b8 q _ b10 _ _
  refine Yo (b:=b8) ?_
  refine Yo (b:=b10) ?_
  refine Yo (b:=b) ?_
  refine Zn (F1:=[Blk b8 (.cells #[fnv cf] 116),Blk b (.cells #[fnv fv] 187),Blk b10 (.cells #[.string tx2] 9)]) (f:=CdF (.tx (wd++wSp++tx++wSp++quoF tx2) (idx wd wTxs) (idx tx wCts) tx2) (tsv (wd++wSp++tx++wSp++quoF tx2) 130 #[pv0 b8,pv0 b,pv0 b10])) (fun hp hF=>?_) ?_
  ·show CdP hp _ _
   rw [CdP,hcm,hfm]
   exact ⟨b8,b,b10,rfl,hF _ (.head _),hF _ (.tail _ (.head _)),hF _ (.tail _ (.tail _ (.head _)))⟩
  exact ZP (tsi (wd++wSp++tx++wSp++quoF tx2) 130 #[pv0 b8,pv0 b,pv0 b10],q) rfl trivial
 ·have hcv:mget tx (mset (⟨#[98,101,103,105,110,115]⟩:ByteArray) (fnv 55) (mset (⟨#[104,97,115]⟩:ByteArray) (fnv 53) (mset (⟨#[105,115]⟩:ByteArray) (fnv 129) [])))=none:=by
   rw [hg1,if_neg (by omega),if_neg (by omega),if_neg (by omega)]
  have hcm:cmT (idx tx wCts) = .nilFunc:=by
   unfold cmT;rw [if_neg (by omega),if_neg (by omega),if_neg (by omega)]
  rw [if_neg hi] at hy
  subst hy
  refine ZR [_,_] func103 ntmps103 fun G w hp=>?_
  repeat' (first|refine Yc (V:=vid) Zl tx none hcv ?_|refine Y9 (V:=vid) Zl _ _ ?_|refine WC Zl vid (fun r=>?_)|refine ZF ?_|refine ZI ?_|refine ZG ?_|refine ZH ?_|refine ZL ?_|refine ZJ ?_|refine ZN ?_|refine ZK (fun b=>?_)|refine ZM (fun b=>?_)|refine ZC ?_|refine ZA ?_|refine ZO ?_|refine Zb ?_|refine Zc ?_|refine Zq ?_|refine Zd ?_|refine r_ldN ?_|refine Zr (fun b=>?_)|refine Zo (fun b=>?_)|refine Zp ?_|refine Za ?_|refine ZD (n1) (fun _ _=>?_)|refine l_call0 (n1) (fun _ _=>?_)|refine ZQ (n1) (fun _ _=>?_)|refine YQ (n1) (fun _ _=>?_)|refine ZD (n2 _) (fun _ _=>?_)|refine l_call0 (n2 _) (fun _ _=>?_)|refine ZQ (n2 _) (fun _ _=>?_)|refine YQ (n2 _) (fun _ _=>?_)|refine ZD (n3 _) (fun _ _=>?_)|refine l_call0 (n3 _) (fun _ _=>?_)|refine ZQ (n3 _) (fun _ _=>?_)|refine YQ (n3 _) (fun _ _=>?_)|refine ZD (n4) (fun _ _=>?_)|refine l_call0 (n4) (fun _ _=>?_)|refine ZQ (n4) (fun _ _=>?_)|refine YQ (n4) (fun _ _=>?_)|refine r_mgetG (V:=vid) Zl wd (some (fnv fv)) hfv ?_|refine Z7 (a:=wd) (b:=wSp) ?_ (h:=q1)|refine Z7 (a:=wd++wSp) (b:=tx) ?_ (h:=q2)|refine Z7 (a:=wd++wSp++tx) (b:=wSp) ?_ (h:=q3)|refine Z7 (a:=wd++wSp++tx++wSp) (b:=quoF tx2) ?_ (h:=q4)|(refine ZB (fun hc=>?_) (fun hc=>?_)<;>(try simp at hc)<;>(try omega))|(refine ZU (fun hc=>?_) (fun hc=>?_)<;>(try simp at hc)<;>(try omega))|refine ZT 7 [Pt bp _] [(0,0),(3,0),(4,0),(5,0),(1,4),(2,0),(6,1),(7,1),(8,4),(9,4)] [] ?_|refine ZT 8 [] [(0,0),(1,0),(2,0),(3,0),(4,0),(5,0),(6,0),(9,0),(7,5),(8,0),(10,0),(11,0),(12,0)] [] ?_|(refine ZE (fun hc=>?_) (fun hc=>?_)<;>(try simp at hc)<;>(try omega)))
  rename_i b8 _ _ q _ b10 _ _
  refine Yo (b:=b8) ?_
  refine Yo (b:=b10) ?_
  refine Yo (b:=b) ?_
  refine Zn (F1:=[Blk b8 (.cells #[.nilFunc] 116),Blk b (.cells #[fnv fv] 187),Blk b10 (.cells #[.string tx2] 9)]) (f:=CdF (.tx (wd++wSp++tx++wSp++quoF tx2) (idx wd wTxs) (idx tx wCts) tx2) (tsv (wd++wSp++tx++wSp++quoF tx2) 130 #[pv0 b8,pv0 b,pv0 b10])) (fun hp hF=>?_) ?_
  ·show CdP hp _ _
   rw [CdP,hcm,hfm]
   exact ⟨b8,b,b10,rfl,hF _ (.head _),hF _ (.tail _ (.head _)),hF _ (.tail _ (.tail _ (.head _)))⟩
  exact ZP (tsi (wd++wSp++tx++wSp++quoF tx2) 130 #[pv0 b8,pv0 b,pv0 b10],q) rfl trivial
end Go.Proofs.YtodkipbnefngkaaGreatDoor
set_option maxRecDepth 10000
namespace Go.Proofs
open Go.Shelf
def Tryz.laysM171_ren:Go.Shelf.Ren:=⟨fun|171=>67|243=>93|246=>121|283=>149|284=>150|285=>151|286=>152|129=>161|317=>160|318=>162|319=>163|320=>164|337=>169|338=>170|n=>n,fun|3=>3|9=>9|2=>2|4=>4|171=>201|0=>0|53=>151|37=>80|5=>5|173=>204|212=>218|51=>148|20=>20|213=>219|46=>118|232=>234|233=>235|n=>n,fun|17=>3|18=>4|19=>5|n=>n⟩
theorem Tryz.laysM171:Go.Proofs.LaysM.n171 Tryz.prog Tryz.laysM171_ren:={
 mixed:=by kernel_rfl
 f129:=Tryz.func161.trans (congrArg some (by kernel_rfl))
 f171:=Tryz.func67.trans (congrArg some (by kernel_rfl))
 f243:=Tryz.func93.trans (congrArg some (by kernel_rfl))
 f246:=Tryz.func121.trans (congrArg some (by kernel_rfl))
 f283:=Tryz.func149.trans (congrArg some (by kernel_rfl))
 f284:=Tryz.func150.trans (congrArg some (by kernel_rfl))
 f285:=Tryz.func151.trans (congrArg some (by kernel_rfl))
 f286:=Tryz.func152.trans (congrArg some (by kernel_rfl))
 f317:=Tryz.func160.trans (congrArg some (by kernel_rfl))
 f318:=Tryz.func162.trans (congrArg some (by kernel_rfl))
 f319:=Tryz.func163.trans (congrArg some (by kernel_rfl))
 f320:=Tryz.func164.trans (congrArg some (by kernel_rfl))
 f337:=Tryz.func169.trans (congrArg some (by kernel_rfl))
 f338:=Tryz.func170.trans (congrArg some (by kernel_rfl))
 t0:=Tryz.underlying0
 a0:=Tryz.isAgg0
 z0:=Tryz.sizeOf0
 v0:=Tryz.zeroValue0
 t2:=Tryz.underlying2
 a2:=Tryz.isAgg2
 z2:=Tryz.sizeOf2
 v2:=Tryz.zeroValue2
 t3:=Tryz.underlying3
 a3:=Tryz.isAgg3
 z3:=Tryz.sizeOf3
 v3:=Tryz.zeroValue3
 t4:=Tryz.underlying4
 a4:=Tryz.isAgg4
 z4:=Tryz.sizeOf4
 v4:=Tryz.zeroValue4
 t5:=Tryz.underlying5
 a5:=Tryz.isAgg5
 z5:=Tryz.sizeOf5
 v5:=Tryz.zeroValue5
 t9:=Tryz.underlying9
 a9:=Tryz.isAgg9
 z9:=Tryz.sizeOf9
 v9:=Tryz.zeroValue9
 t20:=Tryz.underlying20
 a20:=Tryz.isAgg20
 z20:=Tryz.sizeOf20
 v20:=Tryz.zeroValue20
 t37:=Tryz.underlying80
 a37:=Tryz.isAgg80
 z37:=Tryz.sizeOf80
 v37:=Tryz.zeroValue80
 t46:=Tryz.underlying118
 a46:=Tryz.isAgg118
 z46:=Tryz.sizeOf118
 v46:=Tryz.zeroValue118
 t51:=Tryz.underlying148
 a51:=Tryz.isAgg148
 z51:=Tryz.sizeOf148
 v51:=Tryz.zeroValue148
 t53:=Tryz.underlying151
 a53:=Tryz.isAgg151
 z53:=Tryz.sizeOf151
 v53:=Tryz.zeroValue151
 t171:=Tryz.underlying201
 a171:=Tryz.isAgg201
 z171:=Tryz.sizeOf201
 v171:=Tryz.zeroValue201
 t173:=Tryz.underlying204
 a173:=Tryz.isAgg204
 z173:=Tryz.sizeOf204
 v173:=Tryz.zeroValue204
 t212:=Tryz.underlying218
 a212:=Tryz.isAgg218
 z212:=Tryz.sizeOf218
 v212:=Tryz.zeroValue218
 t213:=Tryz.underlying219
 a213:=Tryz.isAgg219
 z213:=Tryz.sizeOf219
 t232:=Tryz.underlying234
 a232:=Tryz.isAgg234
 z232:=Tryz.sizeOf234
 v232:=Tryz.zeroValue234
 t233:=Tryz.underlying235
 a233:=Tryz.isAgg235
 z233:=Tryz.sizeOf235
 v233:=Tryz.zeroValue235
 g17:=by kernel_rfl
 g18:=by kernel_rfl
 g19:=by kernel_rfl
 i0:=by kernel_rfl
 i2:=by kernel_rfl
 i3:=by kernel_rfl
 i4:=by kernel_rfl
 i5:=by kernel_rfl
 i9:=by kernel_rfl
 i20:=by kernel_rfl
 i37:=by kernel_rfl
 i46:=by kernel_rfl
 i51:=by kernel_rfl
 i53:=by kernel_rfl
 i171:=by kernel_rfl
 i173:=by kernel_rfl
 i212:=by kernel_rfl
 i232:=by kernel_rfl
 i233:=by kernel_rfl
 m17:=by kernel_rfl
 m18:=by kernel_rfl
 m19:=by kernel_rfl}
end Go.Proofs
namespace Go.Proofs.YtodkipbnefngkaaGreatDoor
open Go.Proofs.Tryz
open Go.RowKit
theorem ext_grow (w:World) (k:Nat) (os:Array Obj):Ext w (Sort.grow (w.drewN k) os):=
 ⟨rfl,rfl,rfl,by simp [Sort.grow,World.drewN],fun j hj=>by
  show (w.heap++os)[j]? = _
  rw [Array.getElem?_append_left hj]⟩
def P10:Pf:=⟨fun h=>∃T fz,h 3=some (.cells (Lib.pow10Tab.map fun z=>Value.int .u64 z).toArray T fz),fun _ _ s ⟨T,fz,h⟩=>⟨T,fz,s _ _ h⟩⟩
theorem g10 : prog.globalNamed "internal/strconv.uint64pow10" = some 3 := by kernel_rfl
theorem tab10 {w : World} {T : TypeId} {fz : Nat × Nat} (h : w.heap[3]? = some (.cells (Lib.pow10Tab.map fun z => Value.int .u64 z).toArray T fz)) : Lib.TabIs prog w "internal/strconv.uint64pow10" .u64 Lib.pow10Tab := by
 unfold Lib.TabIs World.var?
 rw [g10]
 simp only [Option.bind_some]
 rw [h]
theorem itoa_ok (n:Int) (h0 : -9223372036854775808≤n) (h1:n≤9223372036854775807):Enters 67∧Spec prog 67 #[.int .i64 n] [P10] [] (RetV (.string ⟨(Lib.itoa n).toArray⟩)):=by
 refine ⟨enters_of func67 (by kernel_rfl) rfl,fun G w hp hs=>?_⟩
 obtain ⟨hp',hr,st⟩:=hs
 obtain ⟨T,fz,h⟩:=st.f P10 (by simp)
 refine (Any.strconv_Itoa Tryz.laysM171 n h0 h1 w (tab10 (st.inp _ _ h))).mono ?_
 rintro e w' ⟨rfl,k,os,rfl⟩
 exact ⟨(),rfl,trivial,(Sat.ext ⟨hp',hr,st⟩ (ext_grow w k os)).facts fun _ _ x hx=>by simp [RetV] at hx⟩
end Go.Proofs.YtodkipbnefngkaaGreatDoor
namespace Go.Proofs.YtodkipbnefngkaaGreatDoor
open Go.RowKit Go.Proofs.Tryz
theorem mget_cns (w:ByteArray) (a b c:Value):(mget w (mset (⟨#[62]⟩:ByteArray) c (mset (⟨#[60]⟩:ByteArray) b (mset (⟨#[61]⟩:ByteArray) a []))))=if idx w yCns=0 then some a else if idx w yCns=1 then some b else if idx w yCns=2 then some c else none:=by
 have e:(mset (⟨#[62]⟩:ByteArray) c (mset (⟨#[60]⟩:ByteArray) b (mset (⟨#[61]⟩:ByteArray) a [])))=[(⟨#[61]⟩,a),(⟨#[60]⟩,b),(⟨#[62]⟩,c)]:=rfl
 rw [e]
 by_cases h1:w=⟨#[61]⟩
 ·subst h1;rfl
 by_cases h2:w=⟨#[60]⟩
 ·subst h2;rfl
 by_cases h3:w=⟨#[62]⟩
 ·subst h3;rfl
 have e2:idx w yCns=3:=by simp [yCns,idx,Ne.symm h1,Ne.symm h2,Ne.symm h3]
 rw [e2]
 simp [mget,h1,h2,h3]
theorem mget_nms (w:ByteArray) (a b c d:Value):(mget w (mset (⟨#[116,105,99,107]⟩:ByteArray) d (mset (⟨#[115,105,122,101]⟩:ByteArray) c (mset (⟨#[110,117,109,98,101,114]⟩:ByteArray) b (mset (⟨#[117,115,101,114]⟩:ByteArray) a [])))))=if idx w wNms=0 then some a else if idx w wNms=1 then some b else if idx w wNms=2 then some c else if idx w wNms=3 then some d else none:=by
 have e:(mset (⟨#[116,105,99,107]⟩:ByteArray) d (mset (⟨#[115,105,122,101]⟩:ByteArray) c (mset (⟨#[110,117,109,98,101,114]⟩:ByteArray) b (mset (⟨#[117,115,101,114]⟩:ByteArray) a []))))=[(⟨#[117,115,101,114]⟩,a),(⟨#[110,117,109,98,101,114]⟩,b),(⟨#[115,105,122,101]⟩,c),(⟨#[116,105,99,107]⟩,d)]:=rfl
 rw [e]
 by_cases h1:w=⟨#[117,115,101,114]⟩
 ·subst h1;rfl
 by_cases h2:w=⟨#[110,117,109,98,101,114]⟩
 ·subst h2;rfl
 by_cases h3:w=⟨#[115,105,122,101]⟩
 ·subst h3;rfl
 by_cases h4:w=⟨#[116,105,99,107]⟩
 ·subst h4;rfl
 have e2:idx w wNms=4:=by simp [wNms,idx,Ne.symm h1,Ne.symm h2,Ne.symm h3,Ne.symm h4]
 rw [e2]
 simp [mget,h1,h2,h3,h4]
theorem nms_x:∀w ∈ wNms,¬idx w wKinds<3∧w≠wChan∧¬idx w wTxs<3∧w.size≤10:=by decide
theorem testF_nm {w:ByteArray} (hw:idx w wNms<4) (p:Ps):testF w p=(let p2:=if idx p.peek.tx yCns<3 then p.need 4 else (p.need 4).fail p.peek.pl 30;(.nm (w++wSp++p.peek.tx++wSp++ofL (Lib.itoa (numF p2).1)) (idx w wNms) (idx p.peek.tx yCns) (numF p2).1,(numF p2).2)):=by
 obtain ⟨h1,h2,h3,_⟩:=nms_x w (Zg.1 hw)
 unfold testF
 rw [if_neg h1,if_neg h2,if_neg h3,if_pos hw]
theorem atoF_bd (s:ByteArray) : -9223372036854775808≤(atoF s).1∧(atoF s).1≤9223372036854775807:=by
 unfold atoF
 cases ha:Lib.atoiAll s.data.toList with
 | ok v=>
  dsimp only
  unfold Lib.atoiAll at ha
  split at ha
  ·cases ha
  ·dsimp only at ha
   split at ha
   ·cases ha
   ·cases ha
   ·split at ha
    ·cases ha
    ·split at ha
     ·cases ha
     ·rename_i c1 c2
      obtain rfl:=Lib.NumEnd.ok.inj ha
      split<;>omega
 | range=>
  dsimp only
  unfold Lib.atoiSat
  split<;>omega
 | _=>simp
theorem numF_bd (p:Ps) : -9223372036854775808≤(numF p).1∧(numF p).1≤9223372036854775807:=atoF_bd _
theorem dec_len3:∀(k n:Nat),n<10 ^ k→(Lib.decDigits n).length≤k+1
 | 0,n,h=>by rw [Lib.decDigits,dif_pos (by omega)];simp
 | k+1,n,h=>by
  rw [Lib.decDigits]
  split
  ·simp
  ·have:=dec_len3 k (n / 10) (by rw [Nat.pow_succ] at h;omega)
   simp only [List.length_append,List.length_cons,List.length_nil]
   omega
theorem VU (n:Int) (h0 : -9223372036854775808≤n) (h1:n≤9223372036854775807):(ofL (Lib.itoa n)).size≤100:=by
 show (Lib.itoa n).toArray.size≤100
 simp only [List.size_toArray]
 unfold Lib.itoa
 split
 ·have:=dec_len3 20 n.natAbs (by omega)
  simp;omega
 ·have:=dec_len3 20 n.toNat (by omega)
  omega
set_option maxHeartbeats 4000000 in
theorem VD (b r:Nat) (wd:ByteArray) (hw:idx wd wNms<4) (x:Ps) (o:Option Addr) (cap:Nat) (hk:KdOK x):Enters 104∧Spec prog 104 #[.pointer (some ⟨b,0,none⟩),.string wd] [TkS (o,cap) x.tk,ErA,P10] [Pt b (psC x o cap r)] (RdP b r (testF wd x)):=by
 have n1:=Yg b r x o cap hk 4
 have n2:=fun (q:Option Addr×Nat)=>Z8 b r (x.need 4) q.1 q.2 x.peek.pl 30
 have hws:wd.size≤10:=by
  have h:=Zg.1 hw
  exact (nms_x wd h).2.2.2
 have hz:=hk.peek
 rw [testF_nm hw]
 generalize hp:x.peek=t at *
 obtain ⟨kd,tx,pl⟩:=t
 dsimp only at hz ⊢
 generalize hy:(if idx tx yCns<3 then x.need 4 else (x.need 4).fail pl 30)=y
 have hky:KdOK y:=by
  rw [←hy];split
  ·exact hk.need 4
  ·exact (hk.need 4).fail _ _
 have n3:=fun (q:Option Addr×Nat)=>ruNumber_ok b r y q.1 q.2 hky
 have hbd:=numF_bd y
 generalize hnf:numF y=nf at *
 obtain ⟨nv,y2⟩:=nf
 dsimp only at hbd n3 ⊢
 have n4:=itoa_ok nv hbd.1 hbd.2
 have hq:=VU nv hbd.1 hbd.2
 have hg1:=mget_cns tx (fnv 135) (fnv 136) (fnv 137)
 have hg2:=mget_nms wd (fnv 131) (fnv 132) (fnv 133) (fnv 134)
 have hss:wSp.size=1:=by decide
 have q1:wd.size+wSp.size≤9223372036854775807:=by omega
 have q2:(wd++wSp).size+tx.size≤9223372036854775807:=by rw [ByteArray.size_append];omega
 have q3:(wd++wSp++tx).size+wSp.size≤9223372036854775807:=by simp only [ByteArray.size_append];omega
 have q4:(wd++wSp++tx++wSp).size+(ofL (Lib.itoa nv)).size≤9223372036854775807:=by simp only [ByteArray.size_append];omega
 obtain ⟨fv,hfv,hfm⟩:∃fv,mget wd (mset (⟨#[116,105,99,107]⟩:ByteArray) (fnv 134) (mset (⟨#[115,105,122,101]⟩:ByteArray) (fnv 133) (mset (⟨#[110,117,109,98,101,114]⟩:ByteArray) (fnv 132) (mset (⟨#[117,115,101,114]⟩:ByteArray) (fnv 131) []))))=some (fnv fv)∧fdN (idx wd wNms)=fnv fv:=by
  rw [hg2]
  generalize idx wd wNms=kk at hw
  match kk,hw with
  | 0,_=>exact ⟨_,rfl,rfl⟩
  | 1,_=>exact ⟨_,rfl,rfl⟩
  | 2,_=>exact ⟨_,rfl,rfl⟩
  | 3,_=>exact ⟨_,rfl,rfl⟩
 generalize b=bp at *
 by_cases hi:idx tx yCns<3
 ·obtain ⟨cf,hcv,hcm⟩:∃cf,mget tx (mset (⟨#[62]⟩:ByteArray) (fnv 137) (mset (⟨#[60]⟩:ByteArray) (fnv 136) (mset (⟨#[61]⟩:ByteArray) (fnv 135) [])))=some (fnv cf)∧cmN (idx tx yCns)=fnv cf:=by
   rw [hg1]
   generalize idx tx yCns=kk at hi
   match kk,hi with
   | 0,_=>exact ⟨_,rfl,rfl⟩
   | 1,_=>exact ⟨_,rfl,rfl⟩
   | 2,_=>exact ⟨_,rfl,rfl⟩
  rw [if_pos hi] at hy
  subst hy
  refine ZR [_,_] func104 ntmps104 fun G w hp=>?_
  repeat' (first|refine Yc (V:=vid) Zl tx (some (fnv cf)) hcv ?_|refine Y9 (V:=vid) Zl _ _ ?_|refine WC Zl vid (fun r=>?_)|refine ZF ?_|refine ZI ?_|refine ZG ?_|refine ZH ?_|refine ZL ?_|refine ZJ ?_|refine ZN ?_|refine ZK (fun b=>?_)|refine ZM (fun b=>?_)|refine ZC ?_|refine ZA ?_|refine ZO ?_|refine Zb ?_|refine Zc ?_|refine Zq ?_|refine Zd ?_|refine r_ldN ?_|refine Zr (fun b=>?_)|refine Zo (fun b=>?_)|refine Zp ?_|refine Za ?_|refine ZD (n1) (fun _ _=>?_)|refine l_call0 (n1) (fun _ _=>?_)|refine ZQ (n1) (fun _ _=>?_)|refine YQ (n1) (fun _ _=>?_)|refine ZD (n3 _) (fun _ _=>?_)|refine l_call0 (n3 _) (fun _ _=>?_)|refine ZQ (n3 _) (fun _ _=>?_)|refine YQ (n3 _) (fun _ _=>?_)|refine ZD (n4) (fun _ _=>?_)|refine l_call0 (n4) (fun _ _=>?_)|refine ZQ (n4) (fun _ _=>?_)|refine YQ (n4) (fun _ _=>?_)|refine r_mgetG (V:=vid) Zl wd (some (fnv fv)) hfv ?_|refine Z7 (a:=wd) (b:=wSp) ?_ (h:=q1)|refine Z7 (a:=wd++wSp) (b:=tx) ?_ (h:=q2)|refine Z7 (a:=wd++wSp++tx) (b:=wSp) ?_ (h:=q3)|refine Z7 (a:=wd++wSp++tx++wSp) (b:=ofL (Lib.itoa nv)) ?_ (h:=q4)|(refine ZB (fun hc=>?_) (fun hc=>?_)<;>(try simp at hc)<;>(try omega))|(refine ZU (fun hc=>?_) (fun hc=>?_)<;>(try simp at hc)<;>(try omega))|refine ZT 7 [Pt bp _] [(0,0),(2,0),(3,0),(4,0),(1,4),(5,1),(6,1),(7,4),(8,4)] [] ?_|refine ZT 8 [] [(0,0),(1,0),(2,0),(3,0),(4,0),(5,0),(6,0),(9,0),(7,5),(8,0),(10,0),(11,0),(12,0)] [] ?_|(refine ZE (fun hc=>?_) (fun hc=>?_)<;>(try simp at hc)<;>(try omega)))
  rename_i b8 q _ b10 _ _
  refine Yo (b:=b8) ?_
  refine Yo (b:=b10) ?_
  refine Yo (b:=b) ?_
  refine Zn (F1:=[Blk b8 (.cells #[fnv cf] 37),Blk b (.cells #[fnv fv] 191),Blk b10 (.cells #[.int .i64 nv] 3)]) (f:=CdF (.nm (wd++wSp++tx++wSp++ofL (Lib.itoa nv)) (idx wd wNms) (idx tx yCns) nv) (tsv (wd++wSp++tx++wSp++ofL (Lib.itoa nv)) 139 #[pv0 b8,pv0 b,pv0 b10])) (fun hp hF=>?_) ?_
  ·show CdP hp _ _
   rw [CdP,hcm,hfm]
   exact ⟨b8,b,b10,rfl,hF _ (.head _),hF _ (.tail _ (.head _)),hF _ (.tail _ (.tail _ (.head _)))⟩
  exact ZP (tsi (wd++wSp++tx++wSp++ofL (Lib.itoa nv)) 139 #[pv0 b8,pv0 b,pv0 b10],q) rfl trivial
 ·have hcv:mget tx (mset (⟨#[62]⟩:ByteArray) (fnv 137) (mset (⟨#[60]⟩:ByteArray) (fnv 136) (mset (⟨#[61]⟩:ByteArray) (fnv 135) [])))=none:=by
   rw [hg1,if_neg (by omega),if_neg (by omega),if_neg (by omega)]
  have hcm:cmN (idx tx yCns) = .nilFunc:=by
   unfold cmN;rw [if_neg (by omega),if_neg (by omega),if_neg (by omega)]
  rw [if_neg hi] at hy
  subst hy
  refine ZR [_,_] func104 ntmps104 fun G w hp=>?_
  repeat' (first|refine Yc (V:=vid) Zl tx none hcv ?_|refine Y9 (V:=vid) Zl _ _ ?_|refine WC Zl vid (fun r=>?_)|refine ZF ?_|refine ZI ?_|refine ZG ?_|refine ZH ?_|refine ZL ?_|refine ZJ ?_|refine ZN ?_|refine ZK (fun b=>?_)|refine ZM (fun b=>?_)|refine ZC ?_|refine ZA ?_|refine ZO ?_|refine Zb ?_|refine Zc ?_|refine Zq ?_|refine Zd ?_|refine r_ldN ?_|refine Zr (fun b=>?_)|refine Zo (fun b=>?_)|refine Zp ?_|refine Za ?_|refine ZD (n1) (fun _ _=>?_)|refine l_call0 (n1) (fun _ _=>?_)|refine ZQ (n1) (fun _ _=>?_)|refine YQ (n1) (fun _ _=>?_)|refine ZD (n2 _) (fun _ _=>?_)|refine l_call0 (n2 _) (fun _ _=>?_)|refine ZQ (n2 _) (fun _ _=>?_)|refine YQ (n2 _) (fun _ _=>?_)|refine ZD (n3 _) (fun _ _=>?_)|refine l_call0 (n3 _) (fun _ _=>?_)|refine ZQ (n3 _) (fun _ _=>?_)|refine YQ (n3 _) (fun _ _=>?_)|refine ZD (n4) (fun _ _=>?_)|refine l_call0 (n4) (fun _ _=>?_)|refine ZQ (n4) (fun _ _=>?_)|refine YQ (n4) (fun _ _=>?_)|refine r_mgetG (V:=vid) Zl wd (some (fnv fv)) hfv ?_|refine Z7 (a:=wd) (b:=wSp) ?_ (h:=q1)|refine Z7 (a:=wd++wSp) (b:=tx) ?_ (h:=q2)|refine Z7 (a:=wd++wSp++tx) (b:=wSp) ?_ (h:=q3)|refine Z7 (a:=wd++wSp++tx++wSp) (b:=ofL (Lib.itoa nv)) ?_ (h:=q4)|(refine ZB (fun hc=>?_) (fun hc=>?_)<;>(try simp at hc)<;>(try omega))|(refine ZU (fun hc=>?_) (fun hc=>?_)<;>(try simp at hc)<;>(try omega))|refine ZT 7 [Pt bp _] [(0,0),(2,0),(3,0),(4,0),(1,4),(5,1),(6,1),(7,4),(8,4)] [] ?_|refine ZT 8 [] [(0,0),(1,0),(2,0),(3,0),(4,0),(5,0),(6,0),(9,0),(7,5),(8,0),(10,0),(11,0),(12,0)] [] ?_|(refine ZE (fun hc=>?_) (fun hc=>?_)<;>(try simp at hc)<;>(try omega)))
  rename_i b8 _ _ q _ b10 _ _
  refine Yo (b:=b8) ?_
  refine Yo (b:=b10) ?_
  refine Yo (b:=b) ?_
  refine Zn (F1:=[Blk b8 (.cells #[.nilFunc] 37),Blk b (.cells #[fnv fv] 191),Blk b10 (.cells #[.int .i64 nv] 3)]) (f:=CdF (.nm (wd++wSp++tx++wSp++ofL (Lib.itoa nv)) (idx wd wNms) (idx tx yCns) nv) (tsv (wd++wSp++tx++wSp++ofL (Lib.itoa nv)) 139 #[pv0 b8,pv0 b,pv0 b10])) (fun hp hF=>?_) ?_
  ·show CdP hp _ _
   rw [CdP,hcm,hfm]
   exact ⟨b8,b,b10,rfl,hF _ (.head _),hF _ (.tail _ (.head _)),hF _ (.tail _ (.tail _ (.head _)))⟩
  exact ZP (tsi (wd++wSp++tx++wSp++ofL (Lib.itoa nv)) 139 #[pv0 b8,pv0 b,pv0 b10],q) rfl trivial
def Sfx (p q:Ps):Prop:=q.tk <:+ p.tk
namespace Sfx
theorem refl (p:Ps):Sfx p p:=List.suffix_refl _
theorem trans {p q r:Ps} (h:Sfx p q) (k:Sfx q r):Sfx p r:=List.IsSuffix.trans k h
theorem pass (p:Ps):Sfx p p.pass:=List.tail_suffix _
theorem fail (p:Ps) (i e:Int):Sfx p (p.fail i e):=by
 unfold Ps.fail
 split
 ·exact List.nil_suffix
 ·exact refl p
theorem need (p:Ps) (k:Int):Sfx p (p.need k):=by
 unfold Ps.need
 split
 ·exact pass p
 ·exact (pass p).trans (fail _ _ _)
theorem symb (p:Ps) (s:ByteArray):Sfx p (p.symb s):=by
 unfold Ps.symb
 split
 ·exact pass p
 ·exact fail _ _ _
theorem ite {c:Prop} [Decidable c] {p q r:Ps} (h:Sfx p q) (k:Sfx p r):Sfx p (if c then q else r):=by split<;>assumption
theorem num (p:Ps):Sfx p (numF p).2:=by
 unfold numF
 dsimp only
 exact ite ((ite ((need p 2).trans (fail _ _ _)) (need p 2)).trans (fail _ _ _)) (ite ((need p 2).trans (fail _ _ _)) (need p 2))
theorem test (w:ByteArray) (p:Ps):Sfx p (testF w p).2:=by
 unfold testF
 split
 ·exact refl p
 ·split
  ·dsimp only
   exact ite (need p 1) ((need p 1).trans (fail _ _ _))
  ·split
   ·dsimp only
    exact (ite (need p 1) ((need p 1).trans (fail _ _ _))).trans (need _ 3)
   ·split
    ·dsimp only
     exact (ite (need p 4) ((need p 4).trans (fail _ _ _))).trans (num _)
    ·dsimp only
     exact ite (need p 2) ((need p 2).trans (fail _ _ _))
theorem len {p q:Ps} (h:Sfx p q):q.tk.length≤p.tk.length:=h.length_le
end Sfx
theorem sfx_op2 {p q:Ps} {d:Int} (h:Sfx {p with op:=d} q):Sfx p q:=h
theorem Yq:∀n:Nat,(∀p,Sfx p (factorF n p).2)∧(∀p,Sfx p (termF n p).2)∧(∀l p,Sfx p (termL n l p).2)∧(∀p,Sfx p (condF n p).2)∧(∀l p,Sfx p (condL n l p).2)
 | 0=>⟨fun p=>Sfx.fail p _ _,fun p=>Sfx.fail p _ _,fun _ p=>Sfx.fail p _ _,fun p=>Sfx.fail p _ _,fun _ p=>Sfx.fail p _ _⟩
 | n+1=>by
  obtain ⟨h1,h2,h3,h4,h5⟩:=Yq n
  refine ⟨fun p=>?_,fun p=>?_,fun l p=>?_,fun p=>?_,fun l p=>?_⟩
  ·unfold factorF
   dsimp only
   split
   ·exact (Sfx.pass p).trans (h1 _)
   ·split
    ·have a:Sfx p (if p.pass.op=32 then p.pass.fail p.peek.pl 9 else p.pass):=Sfx.ite ((Sfx.pass p).trans (Sfx.fail _ _ _)) (Sfx.pass p)
     generalize (if p.pass.op=32 then p.pass.fail p.peek.pl 9 else p.pass)=q at a
     exact a.trans ((sfx_op2 (h4 {q with op:=q.op+1})).trans (Sfx.symb _ _))
    ·split
     ·exact (Sfx.pass p).trans (Sfx.test _ _)
     ·exact (Sfx.pass p).trans (Sfx.fail _ _ _)
  ·exact (h1 p).trans (h3 _ _)
  ·unfold termL
   split
   ·exact (Sfx.pass p).trans ((h1 _).trans (h3 _ _))
   ·exact Sfx.refl p
  ·exact (h2 p).trans (h5 _ _)
  ·unfold condL
   split
   ·exact (Sfx.pass p).trans ((h2 _).trans (h5 _ _))
   ·exact Sfx.refl p
mutual
def lv:Cnd→Nat
 | .any l=>1+lvs l
 | .all l=>1+lvs l
 | .nt c=>1+lv c
 | .nul=>1
 | .kd _ _=>1
 | .ch _ _=>1
 | .tx _ _ _ _=>1
 | .nm _ _ _ _=>1
 | .by_ _ _=>1
def lvs:List Cnd→Nat
 | []=>0
 | c::l=>lv c+lvs l
end
theorem X0:∀l m:List Cnd,lvs (l++m)=lvs l+lvs m
 | [],m=>by simp [lvs]
 | c::l,m=>by simp [lvs,X0 l m];omega
theorem lv_pos (c:Cnd):1≤lv c:=by cases c<;>simp [lv]<;>omega
theorem XD:∀l:List Cnd,l.length≤lvs l
 | []=>Nat.le_refl _
 | c::l=>by
  have:=lv_pos c
  have:=XD l
  rw [lvs,List.length_cons];omega
theorem lvs_any (c:Cnd):lvs (anyP c)≤lv c:=by
 cases c<;>simp [anyP,lv,lvs]
theorem lvs_all (c:Cnd):lvs (allP c)≤lv c:=by
 cases c<;>simp [allP,lv,lvs]
theorem lvs_anys:∀l:List Cnd,lvs (l.flatMap anyP)≤lvs l
 | []=>by simp [lvs]
 | c::l=>by
  have:=lvs_any c
  have:=lvs_anys l
  rw [List.flatMap_cons,X0,lvs];omega
theorem lvs_alls:∀l:List Cnd,lvs (l.flatMap allP)≤lvs l
 | []=>by simp [lvs]
 | c::l=>by
  have:=lvs_all c
  have:=lvs_alls l
  rw [List.flatMap_cons,X0,lvs];omega
theorem lv_either (l:List Cnd):lv (eitherF l)≤1+lvs l:=by
 have h:=lvs_anys l
 unfold eitherF
 split
 ·rename_i d hd
  rw [hd] at h;simp [lvs] at h;omega
 ·rw [lv];omega
theorem lv_both (l:List Cnd):lv (bothF l)≤1+lvs l:=by
 have h:=lvs_alls l
 unfold bothF
 split
 ·rename_i d hd
  rw [hd] at h;simp [lvs] at h;omega
 ·rw [lv];omega
theorem lv_test (w:ByteArray) (p:Ps):lv (testF w p).1=1:=by
 unfold testF
 split
 ·rfl
 ·split
  ·rfl
  ·split
   ·rfl
   ·split<;>rfl
theorem is_pass {p:Ps} {k:Int} {s:ByteArray} (hk:k≠0) (h:p.is k s=true):p.pass.tk.length+1=p.tk.length:=by
 unfold Ps.is Ps.peek at h
 unfold Ps.pass
 cases ht:p.tk with
 | nil=>rw [ht] at h;simp [Ne.symm hk] at h
 | cons t l=>simp
theorem Xq {p:Ps} (h:p.peek.kd≠0):p.pass.tk.length+1=p.tk.length:=by
 unfold Ps.peek at h
 unfold Ps.pass
 cases ht:p.tk with
 | nil=>rw [ht] at h;simp at h
 | cons t l=>simp
theorem lv_all:∀n:Nat,(∀p,lv (factorF n p).1+3 * (factorF n p).2.tk.length≤3 * p.tk.length+2)∧(∀p,lv (termF n p).1+3 * (termF n p).2.tk.length≤3 * p.tk.length+3)∧(∀l p,lvs (termL n l p).1+3 * (termL n l p).2.tk.length≤lvs l+3 * p.tk.length)∧
  (∀p,lv (condF n p).1+3 * (condF n p).2.tk.length≤3 * p.tk.length+5)∧(∀l p,lvs (condL n l p).1+3 * (condL n l p).2.tk.length≤lvs l+3 * p.tk.length)
 | 0=>by
  have hf:∀p:Ps,(p.fail p.peek.pl 99).tk.length≤p.tk.length:=fun p=>(Sfx.fail p _ _).len
  refine ⟨fun p=>?_,fun p=>?_,fun l p=>?_,fun p=>?_,fun l p=>?_⟩
  ·have:=hf p;simp only [factorF,lv];omega
  ·have:=hf p;simp only [termF,lv];omega
  ·have:=hf p;simp only [termL];omega
  ·have:=hf p;simp only [condF,lv];omega
  ·have:=hf p;simp only [condL];omega
 | n+1=>by
  obtain ⟨h1,h2,h3,h4,h5⟩:=lv_all n
  refine ⟨fun p=>?_,fun p=>?_,fun l p=>?_,fun p=>?_,fun l p=>?_⟩
  ·unfold factorF
   dsimp only
   have hp:=(Sfx.pass p).len
   split
   ·rename_i hc
    have hp:=Xq (p:=p) (by rw [hc.1];decide)
    have:=h1 p.pass
    simp only [lv];omega
   ·split
    ·rename_i hc
     have hp:=Xq (p:=p) (by rw [hc.1];decide)
     have a:(if p.pass.op=32 then p.pass.fail p.peek.pl 9 else p.pass).tk.length≤p.pass.tk.length:=(Sfx.ite (Sfx.fail _ _ _) (Sfx.refl _)).len
     generalize (if p.pass.op=32 then p.pass.fail p.peek.pl 9 else p.pass)=q at a
     have b:=h4 {q with op:=q.op+1}
     have c:=(Sfx.symb (condF n {q with op:=q.op+1}).2 yCls).len
     dsimp only at b ⊢
     omega
    ·split
     ·have a:=(Sfx.test p.peek.tx p.pass).len
      have b:=lv_test p.peek.tx p.pass
      omega
     ·have a:=(Sfx.fail p.pass p.peek.pl 30).len
      simp only [lv];omega
  ·have a:=h1 p
   have b:=h3 [(factorF n p).1] (factorF n p).2
   have c:=lv_both (termL n [(factorF n p).1] (factorF n p).2).1
   simp only [termF]
   simp only [lvs] at b
   omega
  ·unfold termL
   split
   ·rename_i hc
    have hp:=is_pass (by decide) hc
    have a:=h1 p.pass
    have b:=h3 (l++[(factorF n p.pass).1]) (factorF n p.pass).2
    rw [X0] at b
    simp only [lvs] at b
    dsimp only
    omega
   ·exact Nat.le_refl _
  ·have a:=h2 p
   have b:=h5 [(termF n p).1] (termF n p).2
   have c:=lv_either (condL n [(termF n p).1] (termF n p).2).1
   simp only [condF]
   simp only [lvs] at b
   omega
  ·unfold condL
   split
   ·rename_i hc
    have hp:=is_pass (by decide) hc
    have a:=h2 p.pass
    have b:=h5 (l++[(termF n p.pass).1]) (termF n p.pass).2
    rw [X0] at b
    simp only [lvs] at b
    dsimp only
    omega
   ·exact Nat.le_refl _
def Sop (p q:Ps):Prop:=q.op=p.op
namespace Sop
theorem refl (p:Ps):Sop p p:=rfl
theorem trans {p q r:Ps} (h:Sop p q) (k:Sop q r):Sop p r:=Eq.trans k h
theorem pass (p:Ps):Sop p p.pass:=rfl
theorem fail (p:Ps) (i e:Int):Sop p (p.fail i e):=by
 unfold Ps.fail
 split<;>rfl
theorem need (p:Ps) (k:Int):Sop p (p.need k):=by
 unfold Ps.need
 split
 ·exact pass p
 ·exact (pass p).trans (fail _ _ _)
theorem symb (p:Ps) (s:ByteArray):Sop p (p.symb s):=by
 unfold Ps.symb
 split
 ·exact pass p
 ·exact fail _ _ _
theorem ite {c:Prop} [Decidable c] {p q r:Ps} (h:Sop p q) (k:Sop p r):Sop p (if c then q else r):=by split<;>assumption
theorem num (p:Ps):Sop p (numF p).2:=by
 unfold numF
 dsimp only
 exact ite ((ite ((need p 2).trans (fail _ _ _)) (need p 2)).trans (fail _ _ _)) (ite ((need p 2).trans (fail _ _ _)) (need p 2))
theorem test (w:ByteArray) (p:Ps):Sop p (testF w p).2:=by
 unfold testF
 split
 ·exact refl p
 ·split
  ·dsimp only
   exact ite (need p 1) ((need p 1).trans (fail _ _ _))
  ·split
   ·dsimp only
    exact (ite (need p 1) ((need p 1).trans (fail _ _ _))).trans (need _ 3)
   ·split
    ·dsimp only
     exact (ite (need p 4) ((need p 4).trans (fail _ _ _))).trans (num _)
    ·dsimp only
     exact ite (need p 2) ((need p 2).trans (fail _ _ _))
end Sop
theorem X6:∀n:Nat,(∀p,Sop p (factorF n p).2)∧(∀p,Sop p (termF n p).2)∧(∀l p,Sop p (termL n l p).2)∧(∀p,Sop p (condF n p).2)∧(∀l p,Sop p (condL n l p).2)
 | 0=>⟨fun p=>Sop.fail p _ _,fun p=>Sop.fail p _ _,fun _ p=>Sop.fail p _ _,fun p=>Sop.fail p _ _,fun _ p=>Sop.fail p _ _⟩
 | n+1=>by
  obtain ⟨h1,h2,h3,h4,h5⟩:=X6 n
  refine ⟨fun p=>?_,fun p=>?_,fun l p=>?_,fun p=>?_,fun l p=>?_⟩
  ·unfold factorF
   dsimp only
   split
   ·exact (Sop.pass p).trans (h1 _)
   ·split
    ·have a:Sop p (if p.pass.op=32 then p.pass.fail p.peek.pl 9 else p.pass):=Sop.ite ((Sop.pass p).trans (Sop.fail _ _ _)) (Sop.pass p)
     generalize (if p.pass.op=32 then p.pass.fail p.peek.pl 9 else p.pass)=q at a
     have b:=h4 {q with op:=q.op+1}
     have c:=Sop.symb (condF n {q with op:=q.op+1}).2 yCls
     unfold Sop at a b c ⊢
     dsimp only at b c ⊢
     omega
    ·split
     ·exact (Sop.pass p).trans (Sop.test _ _)
     ·exact (Sop.pass p).trans (Sop.fail _ _ _)
  ·exact (h1 p).trans (h3 _ _)
  ·unfold termL
   split
   ·exact (Sop.pass p).trans ((h1 _).trans (h3 _ _))
   ·exact Sop.refl p
  ·exact (h2 p).trans (h5 _ _)
  ·unfold condL
   split
   ·exact (Sop.pass p).trans ((h2 _).trans (h5 _ _))
   ·exact Sop.refl p
def tstL:List (ByteArray×Value):=[(⟨#[109,105,115,115,105,110,103]⟩,fnv 101),(⟨#[99,104,97,110,103,101,100]⟩,fnv 101),(⟨#[110,101,119]⟩,fnv 101),(wChan,fnv 102),
 (⟨#[116,97,114,103,101,116]⟩,fnv 103),(⟨#[98,101,102,111,114,101]⟩,fnv 103),(⟨#[97,102,116,101,114]⟩,fnv 103),
 (⟨#[117,115,101,114]⟩,fnv 104),(⟨#[110,117,109,98,101,114]⟩,fnv 104),(⟨#[115,105,122,101]⟩,fnv 104),(⟨#[116,105,99,107]⟩,fnv 104),(wBy,fnv 105)]
theorem mget_ne {w k:ByteArray} {v:Value} {m:List (ByteArray×Value)} (h:w≠k):mget w ((k,v)::m)=mget w m:=by rw [mget,if_neg h]
theorem tst_kind {w:ByteArray} (h:idx w wKinds<3):mget w tstL=some (fnv 101):=by
 have:=Zg.1 h
 simp only [wKinds,List.mem_cons,List.not_mem_nil,or_false] at this
 rcases this with rfl|rfl|rfl<;>rfl
theorem tst_chan:mget wChan tstL=some (fnv 102):=rfl
theorem tst_by:mget wBy tstL=some (fnv 105):=rfl
theorem tst_tx {w:ByteArray} (h:idx w wTxs<3):mget w tstL=some (fnv 103):=by
 have:=Zg.1 h
 simp only [wTxs,List.mem_cons,List.not_mem_nil,or_false] at this
 rcases this with rfl|rfl|rfl<;>rfl
theorem tst_nm {w:ByteArray} (h:idx w wNms<4):mget w tstL=some (fnv 104):=by
 have:=Zg.1 h
 simp only [wNms,List.mem_cons,List.not_mem_nil,or_false] at this
 rcases this with rfl|rfl|rfl|rfl<;>rfl
theorem tst_none {w:ByteArray} (h:isTst w=false):mget w tstL=none:=by
 have e:∀(m:List (ByteArray×Value)),(∀p ∈ m,isTst p.1=true)→mget w m=none:=by
  intro m
  induction m with
  | nil=>intro _;rfl
  | cons p m ih=>
   intro hm
   obtain ⟨k,v⟩:=p
   have hk:=hm (k,v) (.head _)
   rw [mget_ne (by rintro rfl;rw [h] at hk;cases hk)]
   exact ih fun p hp=>hm p (.tail _ hp)
 refine e _ ?_
 intro p hp
 have:∀k ∈ tstL.map (·.1),isTst k=true:=by decide
 exact this _ (List.mem_map_of_mem hp)
set_option maxHeartbeats 2000000 in
theorem ruTests_ok:Enters 70∧Spec prog 70 #[] [] [] ⟨Nat,fun r=>.map (some r),fun _=>True,fun _=>[],fun r=>[Mp skv vid r tstL]⟩:=by
 refine ZR [] func70 ntmps70 fun G w hp=>?_
 repeat' (first|refine Y9 (V:=vid) Zl _ _ ?_|refine WC Zl vid (fun r=>?_)|refine ZF ?_|refine ZI ?_|refine ZG ?_|refine ZH ?_|refine ZL ?_|refine ZJ ?_|refine ZN ?_|refine ZK (fun b=>?_)|refine ZM (fun b=>?_)|refine ZC ?_|refine ZA ?_|refine ZO ?_|(refine ZB (fun hc=>?_) (fun hc=>?_)<;>(try simp at hc))|(refine ZE (fun hc=>?_) (fun hc=>?_)<;>(try simp at hc)))
 exact ZP r rfl trivial
theorem XT {h:H}:∀{l:List Cnd} {vs:List Value} {j:Nat} {c:Cnd} {v:Value},CdsP h l vs→l[j]? = some c→vs[j]? = some v→CdP h c v
 | [],_,_,_,_,_,h1,_=>by simp at h1
 | c::l,vs,j,d,v,hh,h1,h2=>by
  rw [CdsP] at hh
  obtain ⟨u,ws,rfl,h3,h4⟩:=hh
  cases j with
  | zero=>simp at h1 h2;subst h1;subst h2;exact h3
  | succ j=>exact XT (j:=j) h4 (by simpa using h1) (by simpa using h2)
theorem Ws {h:H} {c:Cnd} {v:Value} (hh:CdP h c v):v = .nilIface∨∃T u,v = .iface T u∧((∀l,c≠.any l)→T≠211)∧((∀l,c≠.all l)→T≠225):=by
 cases c with
 | any l=>
  rw [CdP] at hh
  obtain ⟨o,cap,vs,rfl,_⟩:=hh
  exact .inr ⟨_,_,rfl,fun h=>absurd rfl (h l),fun _=>by decide⟩
 | all l=>
  rw [CdP] at hh
  obtain ⟨o,cap,vs,rfl,_⟩:=hh
  exact .inr ⟨_,_,rfl,fun _=>by decide,fun h=>absurd rfl (h l)⟩
 | nt d=>
  rw [CdP] at hh
  obtain ⟨u,rfl,_⟩:=hh
  exact .inr ⟨_,_,rfl,fun _=>by decide,fun _=>by decide⟩
 | nul=>
  rw [CdP] at hh
  exact .inl hh
 | kd w k=>
  rw [CdP] at hh
  obtain ⟨b,rfl,_⟩:=hh
  exact .inr ⟨_,_,rfl,fun _=>by decide,fun _=>by decide⟩
 | ch w k=>
  rw [CdP] at hh
  obtain ⟨b,rfl,_⟩:=hh
  exact .inr ⟨_,_,rfl,fun _=>by decide,fun _=>by decide⟩
 | tx w f k s=>
  rw [CdP] at hh
  obtain ⟨b1,b2,b3,rfl,_⟩:=hh
  exact .inr ⟨_,_,rfl,fun _=>by decide,fun _=>by decide⟩
 | nm w f k n=>
  rw [CdP] at hh
  obtain ⟨b1,b2,b3,rfl,_⟩:=hh
  exact .inr ⟨_,_,rfl,fun _=>by decide,fun _=>by decide⟩
 | by_ w s=>
  rw [CdP] at hh
  obtain ⟨b,rfl,_⟩:=hh
  exact .inr ⟨_,_,rfl,fun _=>by decide,fun _=>by decide⟩
theorem either_one {l:List Cnd} {c:Cnd} (h:l.flatMap anyP=[c]):eitherF l=c:=by unfold eitherF;rw [h]
theorem either_many {l:List Cnd} (h:(l.flatMap anyP).length≠1):eitherF l = .any (l.flatMap anyP):=by
 unfold eitherF
 split
 ·rename_i c hc;rw [hc] at h;exact absurd rfl h
 ·rfl
theorem anyP_not {c:Cnd} (h:∀l,c≠.any l):anyP c=[c]:=by
 cases c<;>first|rfl|exact absurd rfl (h _)
set_option maxHeartbeats 4000000 in
theorem ruEither_ok (o:Option Addr) (cap:Nat) (l:List Cnd) (vs:List IV) (hl:vs.length=l.length) (hbd:(l.flatMap anyP).length≤1000000) (hbl:l.length≤1000000):Enters 143∧Spec prog 143 #[.slice o vs.length cap] [Sl 100 ivl o cap vs,CdsF l (vs.map ivOf)] []
  ⟨IV,fun v=>ivOf v,fun _=>True,fun v=>[CdF (eitherF l) (ivOf v)],fun _=>[]⟩:=by
 refine ZR [_] func143 ntmps143 fun G w hp=>?_
 repeat' (first|refine ZF ?_|refine ZI ?_|refine ZG ?_|refine ZH ?_|refine ZL ?_|refine ZJ ?_|refine ZN ?_|refine ZK (fun b=>?_)|refine ZM (fun b=>?_)|refine ZC ?_|refine ZA ?_|(refine ZB (fun hc=>?_) (fun hc=>?_)<;>(try simp at hc))|(refine ZE (fun hc=>?_) (fun hc=>?_)<;>(try simp at hc)))
 refine k_add (f:=CdsF [] []) (fun hp=>by show CdsP hp [] [];rw [CdsP]) ?_
 refine Z1 (Lx:=[]) (r:=Row 100 1 none 0 0 []) (fun h _=>XC _ _ h) ?_
 refine YK (X:={q:Nat×List IV×Option Addr×Nat // q.1≤vs.length∧q.2.1.length=((l.take q.1).flatMap anyP).length}) (fun q=>[(0,.slice o vs.length cap),(3,.slice q.1.2.2.1 q.1.2.1.length q.1.2.2.2),(8,.slice o vs.length cap),(9,.int .i64 (vs.length:Int)),(10,.int .i64 (q.1.1:Int))]) (fun q=>[Sl 100 ivl o cap vs,CdsF l (vs.map ivOf),CdsF ((l.take q.1.1).flatMap anyP) (q.1.2.1.map ivOf)]) (fun q=>[Row 100 1 q.1.2.2.1 q.1.2.1.length q.1.2.2.2 (q.1.2.1.flatMap ivl)]) (fun q=>vs.length - q.1.1) ⟨(0,[],none,0),Nat.zero_le _,rfl⟩ ⟨rfl,rfl,rfl,rfl,rfl,trivial⟩ ?_
 rintro ⟨⟨j,rs,o',cap'⟩,hj,hrl⟩
 dsimp only at hj hrl ⊢
 have hpre:∀i,((l.take i).flatMap anyP).length≤(l.flatMap anyP).length:=fun i=>by
  have:l.flatMap anyP=(l.take i).flatMap anyP++(l.drop i).flatMap anyP:=by rw [←List.flatMap_append,List.take_append_drop]
  rw [this,List.length_append];omega
 have hpj:=hpre j
 by_cases hlt:j<vs.length
 ·have hxj:=List.getElem?_eq_getElem hlt
  have hltc:j<l.length:=by omega
  have hcj:=List.getElem?_eq_getElem hltc
  have htk:=List.take_succ_eq_append_getElem hltc
  generalize hxe:vs[j]=x at *
  generalize hce:l[j]=c at *
  have hfm:(l.take (j+1)).flatMap anyP=(l.take j).flatMap anyP++anyP c:=by rw [htk,List.flatMap_append];simp
  have hpj1:=hpre (j+1)
  rw [hfm,List.length_append] at hpj1
  have w1:=wrapi (z:=(j:Int)+1) (by omega) (by omega)
  obtain ⟨T,u⟩:=x
  refine Zn (F1:=[CdsF l (vs.map ivOf)]) (f:=CdF c (ivOf (T,u))) (fun hp hF=>XT (hF _ (.head _)) hcj (by rw [List.getElem?_map,hxj];rfl)) ?_
  by_cases ha:∃la,c = .any la
  ·obtain ⟨la,rfl⟩:=ha
   refine Yb (X:=Option Addr×Nat×List IV) (Fx:=fun q=>[Sl 100 ivl q.1 q.2.1 q.2.2,CdsF la (q.2.2.map ivOf)]) (p:=fun q=>ivOf (T,u) = .iface 211 (.agg #[.slice q.1 q.2.2.length q.2.1])∧q.2.2.length=la.length) (f:=CdF (.any la) (ivOf (T,u))) .here (fun h hh=>?_) (fun q hq=>?_)
   ·have hh:CdP h (.any la) (ivOf (T,u)):=hh
    rw [CdP] at hh
    obtain ⟨o2,c2,ws,h1,h2,h3⟩:=hh
    exact ⟨(o2,c2,ws),⟨h1,by have:=XZ h3;simpa using this⟩,fun f hf=>by
     simp only [List.mem_cons,List.not_mem_nil,or_false] at hf
     rcases hf with rfl|rfl
     ·exact h2
     ·exact h3⟩
   obtain ⟨o2,c2,ws⟩:=q
   obtain ⟨hq1,hq2⟩:=hq
   dsimp only at hq1 hq2 ⊢
   obtain ⟨rfl,rfl⟩:=Value.iface.inj hq1
   have hwl:(anyP (.any la)).length=la.length:=rfl
   have hroom:(2 * (rs.length+ws.length)+200) * 16≤281474976710656:=by omega
   repeat' (first|refine l_appF (es:=ws) (f:=ivl) (m:=rs.length) (fun o3 cap3=>?_) (hone:=iv_one) (hroom:=hroom)|refine ZF ?_|refine ZI ?_|refine ZG ?_|refine ZH ?_|refine ZL ?_|refine ZJ ?_|refine ZN ?_|refine ZK (fun b=>?_)|refine ZM (fun b=>?_)|refine ZC ?_|refine ZA ?_|refine ZW (es:=vs) (f:=ivl) j _ hxj (fun b off=>?_)|refine ZX ?_|refine l_taY ?_|rw [w1]|(refine ZB (fun hc=>?_) (fun hc=>?_)<;>(try simp at hc)<;>(try omega))|(refine ZE (fun hc=>?_) (fun hc=>?_)<;>(try simp at hc)<;>(try omega)))
   have e1:rs.length+ws.length=(rs++ws).length:=by simp
   have e2:rs.flatMap ivl++ws.flatMap ivl=(rs++ws).flatMap ivl:=by simp
   refine YD (T:=100) (sz:=1) (o:=o3) (cap:=cap3) (m:=rs.length+ws.length) _ _ e1 e2 ?_
   rw [e1]
   refine Zn (F1:=[CdsF ((l.take j).flatMap anyP) (rs.map ivOf),CdsF la (ws.map ivOf)]) (f:=CdsF ((l.take (j+1)).flatMap anyP) ((rs++ws).map ivOf)) (fun hp hF=>?_) ?_
   ·show CdsP hp _ _
    rw [hfm,List.map_append]
    exact XQ (hF _ (.head _)) (hF _ (.tail _ (.head _)))
   exact ZV ⟨(j+1,rs++ws,o3,cap3),by show j+1≤vs.length;omega,by show (rs++ws).length=_;rw [hfm,List.length_append,List.length_append,hrl,hq2];rfl⟩ (by show vs.length - (j+1)<vs.length - j;omega) ⟨rfl,rfl,rfl,rfl,rfl,trivial⟩
  ·have ha:∀la,c≠.any la:=fun la h=>ha ⟨la,h⟩
   have hac:=anyP_not ha
   rw [hac] at hfm hpj1
   refine Yb (X:=Unit) (Fx:=fun _=>[]) (p:=fun _=>T≠211) (f:=CdF c (ivOf (T,u))) .here (fun h hh=>⟨(),?_,fun _ hx=>by cases hx⟩) (fun _ hne=>?_)
   ·rcases Ws hh with h1|⟨T',u',h1,h2,_⟩
    ·cases h1
    ·obtain ⟨rfl,_⟩:=Value.iface.inj h1
     exact h2 ha
   simp only [List.length_cons,List.length_nil] at hpj1
   have hroom:(2 * (rs.length+1)+200) * 16≤281474976710656:=by omega
   have hne':ivOf (T,u) = .nilIface∨∃T' v,ivOf (T,u) = .iface T' v∧T'≠211:=.inr ⟨T,u,rfl,hne⟩
   repeat' (first|refine YY (m:=rs.length) (m2:=1) (fun o3 cap3=>?_) (hroom:=hroom)|refine ZF ?_|refine ZI ?_|refine ZG ?_|refine ZH ?_|refine ZL ?_|refine ZJ ?_|refine ZN ?_|refine ZK (fun b=>?_)|refine ZM (fun b=>?_)|refine ZC ?_|refine ZA ?_|refine ZW (es:=vs) (f:=ivl) j _ hxj (fun b off=>?_)|refine ZX ?_|refine l_taN hne' ?_|rw [w1]|(refine ZB (fun hc=>?_) (fun hc=>?_)<;>(try simp at hc)<;>(try omega))|(refine ZE (fun hc=>?_) (fun hc=>?_)<;>(try simp at hc)<;>(try omega)))
   have e1:rs.length+1=(rs++[(T,u)]).length:=by simp
   have e2:rs.flatMap ivl++[ivOf (T,u)]=(rs++[(T,u)]).flatMap ivl:=by simp
   refine YD (T:=100) (sz:=1) (o:=o3) (cap:=cap3) (m:=rs.length+1) _ _ e1 e2 ?_
   rw [e1]
   refine Zn (F1:=[CdsF ((l.take j).flatMap anyP) (rs.map ivOf),CdF c (ivOf (T,u))]) (f:=CdsF ((l.take (j+1)).flatMap anyP) ((rs++[(T,u)]).map ivOf)) (fun hp hF=>?_) ?_
   ·show CdsP hp _ _
    rw [hfm,List.map_append]
    exact XQ (hF _ (.head _)) (Y7.2 (hF _ (.tail _ (.head _))))
   exact ZV ⟨(j+1,rs++[(T,u)],o3,cap3),by show j+1≤vs.length;omega,by show (rs++[(T,u)]).length=_;rw [hfm,List.length_append,List.length_append,hrl];rfl⟩ (by show vs.length - (j+1)<vs.length - j;omega) ⟨rfl,rfl,rfl,rfl,rfl,trivial⟩
 ·have htl:l.take j=l:=List.take_of_length_le (show l.length≤j by omega)
  refine Zn (F1:=[CdsF ((l.take j).flatMap anyP) (rs.map ivOf)]) (f:=CdsF (l.flatMap anyP) (rs.map ivOf)) (fun hp hF=>by have:=hF _ (.head _);rwa [htl] at this) ?_
  rw [htl] at hrl
  refine Xc (T:=100) (sz:=1) (f:=ivl) (o:=o') (cap:=cap') rs ?_ rfl rfl
  by_cases h1:rs.length=1
  ·obtain ⟨x,rfl⟩:=List.length_eq_one_iff.1 h1
   obtain ⟨c,hc1⟩:=List.length_eq_one_iff.1 (show (l.flatMap anyP).length=1 by rw [←hrl];rfl)
   rw [either_one hc1]
   have hx0:[x][0]? = some x:=rfl
   refine Zn (F1:=[CdsF (l.flatMap anyP) ([x].map ivOf)]) (f:=CdF c (ivOf x)) (fun hp hF=>by have:=hF _ (.head _);rw [hc1] at this;exact Y7.1 this) ?_
   repeat' (first|refine ZF ?_|refine ZI ?_|refine ZG ?_|refine ZH ?_|refine ZL ?_|refine ZJ ?_|refine ZN ?_|refine ZK (fun b=>?_)|refine ZM (fun b=>?_)|refine ZC ?_|refine ZA ?_|refine ZO ?_|refine ZW (es:=[x]) (f:=ivl) 0 x hx0 (fun b off=>?_)|refine ZX ?_|(refine ZB (fun hc=>?_) (fun hc=>?_)<;>(try simp at hc)<;>(try omega))|(refine ZE (fun hc=>?_) (fun hc=>?_)<;>(try simp at hc)<;>(try omega)))
   exact ZP x rfl trivial
  ·rw [either_many (by rw [←hrl];exact h1)]
   refine Zn (F1:=[Sl 100 ivl o' cap' rs,CdsF (l.flatMap anyP) (rs.map ivOf)]) (f:=CdF (.any (l.flatMap anyP)) (ivOf (211,.agg #[.slice o' rs.length cap']))) (fun hp hF=>?_) ?_
   ·show CdP hp _ _
    rw [CdP]
    exact ⟨o',cap',rs,rfl,hF _ (.head _),hF _ (.tail _ (.head _))⟩
   repeat' (first|refine ZF ?_|refine ZI ?_|refine ZG ?_|refine ZH ?_|refine ZL ?_|refine ZJ ?_|refine ZN ?_|refine ZK (fun b=>?_)|refine ZM (fun b=>?_)|refine ZC ?_|refine ZA ?_|refine ZO ?_|(refine ZB (fun hc=>?_) (fun hc=>?_)<;>(try simp at hc)<;>(try omega))|(refine ZE (fun hc=>?_) (fun hc=>?_)<;>(try simp at hc)<;>(try omega)))
   exact ZP (211,.agg #[.slice o' rs.length cap']) rfl trivial
theorem both_one {l:List Cnd} {c:Cnd} (h:l.flatMap allP=[c]):bothF l=c:=by unfold bothF;rw [h]
theorem both_many {l:List Cnd} (h:(l.flatMap allP).length≠1):bothF l = .all (l.flatMap allP):=by
 unfold bothF
 split
 ·rename_i c hc;rw [hc] at h;exact absurd rfl h
 ·rfl
theorem allP_not {c:Cnd} (h:∀l,c≠.all l):allP c=[c]:=by
 cases c<;>first|rfl|exact absurd rfl (h _)
set_option maxHeartbeats 4000000 in
theorem ruBoth_ok (o:Option Addr) (cap:Nat) (l:List Cnd) (vs:List IV) (hl:vs.length=l.length) (hbd:(l.flatMap allP).length≤1000000) (hbl:l.length≤1000000):Enters 155∧Spec prog 155 #[.slice o vs.length cap] [Sl 100 ivl o cap vs,CdsF l (vs.map ivOf)] []
  ⟨IV,fun v=>ivOf v,fun _=>True,fun v=>[CdF (bothF l) (ivOf v)],fun _=>[]⟩:=by
 refine ZR [_] func155 ntmps155 fun G w hp=>?_
 repeat' (first|refine ZF ?_|refine ZI ?_|refine ZG ?_|refine ZH ?_|refine ZL ?_|refine ZJ ?_|refine ZN ?_|refine ZK (fun b=>?_)|refine ZM (fun b=>?_)|refine ZC ?_|refine ZA ?_|(refine ZB (fun hc=>?_) (fun hc=>?_)<;>(try simp at hc))|(refine ZE (fun hc=>?_) (fun hc=>?_)<;>(try simp at hc)))
 refine k_add (f:=CdsF [] []) (fun hp=>by show CdsP hp [] [];rw [CdsP]) ?_
 refine Z1 (Lx:=[]) (r:=Row 100 1 none 0 0 []) (fun h _=>XC _ _ h) ?_
 refine YK (X:={q:Nat×List IV×Option Addr×Nat // q.1≤vs.length∧q.2.1.length=((l.take q.1).flatMap allP).length}) (fun q=>[(0,.slice o vs.length cap),(3,.slice q.1.2.2.1 q.1.2.1.length q.1.2.2.2),(8,.slice o vs.length cap),(9,.int .i64 (vs.length:Int)),(10,.int .i64 (q.1.1:Int))]) (fun q=>[Sl 100 ivl o cap vs,CdsF l (vs.map ivOf),CdsF ((l.take q.1.1).flatMap allP) (q.1.2.1.map ivOf)]) (fun q=>[Row 100 1 q.1.2.2.1 q.1.2.1.length q.1.2.2.2 (q.1.2.1.flatMap ivl)]) (fun q=>vs.length - q.1.1) ⟨(0,[],none,0),Nat.zero_le _,rfl⟩ ⟨rfl,rfl,rfl,rfl,rfl,trivial⟩ ?_
 rintro ⟨⟨j,rs,o',cap'⟩,hj,hrl⟩
 dsimp only at hj hrl ⊢
 have hpre:∀i,((l.take i).flatMap allP).length≤(l.flatMap allP).length:=fun i=>by
  have:l.flatMap allP=(l.take i).flatMap allP++(l.drop i).flatMap allP:=by rw [←List.flatMap_append,List.take_append_drop]
  rw [this,List.length_append];omega
 have hpj:=hpre j
 by_cases hlt:j<vs.length
 ·have hxj:=List.getElem?_eq_getElem hlt
  have hltc:j<l.length:=by omega
  have hcj:=List.getElem?_eq_getElem hltc
  have htk:=List.take_succ_eq_append_getElem hltc
  generalize hxe:vs[j]=x at *
  generalize hce:l[j]=c at *
  have hfm:(l.take (j+1)).flatMap allP=(l.take j).flatMap allP++allP c:=by rw [htk,List.flatMap_append];simp
  have hpj1:=hpre (j+1)
  rw [hfm,List.length_append] at hpj1
  have w1:=wrapi (z:=(j:Int)+1) (by omega) (by omega)
  obtain ⟨T,u⟩:=x
  refine Zn (F1:=[CdsF l (vs.map ivOf)]) (f:=CdF c (ivOf (T,u))) (fun hp hF=>XT (hF _ (.head _)) hcj (by rw [List.getElem?_map,hxj];rfl)) ?_
  by_cases ha:∃la,c = .all la
  ·obtain ⟨la,rfl⟩:=ha
   refine Yb (X:=Option Addr×Nat×List IV) (Fx:=fun q=>[Sl 100 ivl q.1 q.2.1 q.2.2,CdsF la (q.2.2.map ivOf)]) (p:=fun q=>ivOf (T,u) = .iface 225 (.agg #[.slice q.1 q.2.2.length q.2.1])∧q.2.2.length=la.length) (f:=CdF (.all la) (ivOf (T,u))) .here (fun h hh=>?_) (fun q hq=>?_)
   ·have hh:CdP h (.all la) (ivOf (T,u)):=hh
    rw [CdP] at hh
    obtain ⟨o2,c2,ws,h1,h2,h3⟩:=hh
    exact ⟨(o2,c2,ws),⟨h1,by have:=XZ h3;simpa using this⟩,fun f hf=>by
     simp only [List.mem_cons,List.not_mem_nil,or_false] at hf
     rcases hf with rfl|rfl
     ·exact h2
     ·exact h3⟩
   obtain ⟨o2,c2,ws⟩:=q
   obtain ⟨hq1,hq2⟩:=hq
   dsimp only at hq1 hq2 ⊢
   obtain ⟨rfl,rfl⟩:=Value.iface.inj hq1
   have hwl:(allP (.all la)).length=la.length:=rfl
   have hroom:(2 * (rs.length+ws.length)+200) * 16≤281474976710656:=by omega
   repeat' (first|refine l_appF (es:=ws) (f:=ivl) (m:=rs.length) (fun o3 cap3=>?_) (hone:=iv_one) (hroom:=hroom)|refine ZF ?_|refine ZI ?_|refine ZG ?_|refine ZH ?_|refine ZL ?_|refine ZJ ?_|refine ZN ?_|refine ZK (fun b=>?_)|refine ZM (fun b=>?_)|refine ZC ?_|refine ZA ?_|refine ZW (es:=vs) (f:=ivl) j _ hxj (fun b off=>?_)|refine ZX ?_|refine l_taY ?_|rw [w1]|(refine ZB (fun hc=>?_) (fun hc=>?_)<;>(try simp at hc)<;>(try omega))|(refine ZE (fun hc=>?_) (fun hc=>?_)<;>(try simp at hc)<;>(try omega)))
   have e1:rs.length+ws.length=(rs++ws).length:=by simp
   have e2:rs.flatMap ivl++ws.flatMap ivl=(rs++ws).flatMap ivl:=by simp
   refine YD (T:=100) (sz:=1) (o:=o3) (cap:=cap3) (m:=rs.length+ws.length) _ _ e1 e2 ?_
   rw [e1]
   refine Zn (F1:=[CdsF ((l.take j).flatMap allP) (rs.map ivOf),CdsF la (ws.map ivOf)]) (f:=CdsF ((l.take (j+1)).flatMap allP) ((rs++ws).map ivOf)) (fun hp hF=>?_) ?_
   ·show CdsP hp _ _
    rw [hfm,List.map_append]
    exact XQ (hF _ (.head _)) (hF _ (.tail _ (.head _)))
   exact ZV ⟨(j+1,rs++ws,o3,cap3),by show j+1≤vs.length;omega,by show (rs++ws).length=_;rw [hfm,List.length_append,List.length_append,hrl,hq2];rfl⟩ (by show vs.length - (j+1)<vs.length - j;omega) ⟨rfl,rfl,rfl,rfl,rfl,trivial⟩
  ·have ha:∀la,c≠.all la:=fun la h=>ha ⟨la,h⟩
   have hac:=allP_not ha
   rw [hac] at hfm hpj1
   refine Yb (X:=Unit) (Fx:=fun _=>[]) (p:=fun _=>T≠225) (f:=CdF c (ivOf (T,u))) .here (fun h hh=>⟨(),?_,fun _ hx=>by cases hx⟩) (fun _ hne=>?_)
   ·rcases Ws hh with h1|⟨T',u',h1,_,h3⟩
    ·cases h1
    ·obtain ⟨rfl,_⟩:=Value.iface.inj h1
     exact h3 ha
   simp only [List.length_cons,List.length_nil] at hpj1
   have hroom:(2 * (rs.length+1)+200) * 16≤281474976710656:=by omega
   have hne':ivOf (T,u) = .nilIface∨∃T' v,ivOf (T,u) = .iface T' v∧T'≠225:=.inr ⟨T,u,rfl,hne⟩
   repeat' (first|refine YY (m:=rs.length) (m2:=1) (fun o3 cap3=>?_) (hroom:=hroom)|refine ZF ?_|refine ZI ?_|refine ZG ?_|refine ZH ?_|refine ZL ?_|refine ZJ ?_|refine ZN ?_|refine ZK (fun b=>?_)|refine ZM (fun b=>?_)|refine ZC ?_|refine ZA ?_|refine ZW (es:=vs) (f:=ivl) j _ hxj (fun b off=>?_)|refine ZX ?_|refine l_taN hne' ?_|rw [w1]|(refine ZB (fun hc=>?_) (fun hc=>?_)<;>(try simp at hc)<;>(try omega))|(refine ZE (fun hc=>?_) (fun hc=>?_)<;>(try simp at hc)<;>(try omega)))
   have e1:rs.length+1=(rs++[(T,u)]).length:=by simp
   have e2:rs.flatMap ivl++[ivOf (T,u)]=(rs++[(T,u)]).flatMap ivl:=by simp
   refine YD (T:=100) (sz:=1) (o:=o3) (cap:=cap3) (m:=rs.length+1) _ _ e1 e2 ?_
   rw [e1]
   refine Zn (F1:=[CdsF ((l.take j).flatMap allP) (rs.map ivOf),CdF c (ivOf (T,u))]) (f:=CdsF ((l.take (j+1)).flatMap allP) ((rs++[(T,u)]).map ivOf)) (fun hp hF=>?_) ?_
   ·show CdsP hp _ _
    rw [hfm,List.map_append]
    exact XQ (hF _ (.head _)) (Y7.2 (hF _ (.tail _ (.head _))))
   exact ZV ⟨(j+1,rs++[(T,u)],o3,cap3),by show j+1≤vs.length;omega,by show (rs++[(T,u)]).length=_;rw [hfm,List.length_append,List.length_append,hrl];rfl⟩ (by show vs.length - (j+1)<vs.length - j;omega) ⟨rfl,rfl,rfl,rfl,rfl,trivial⟩
 ·have htl:l.take j=l:=List.take_of_length_le (show l.length≤j by omega)
  refine Zn (F1:=[CdsF ((l.take j).flatMap allP) (rs.map ivOf)]) (f:=CdsF (l.flatMap allP) (rs.map ivOf)) (fun hp hF=>by have:=hF _ (.head _);rwa [htl] at this) ?_
  rw [htl] at hrl
  refine Xc (T:=100) (sz:=1) (f:=ivl) (o:=o') (cap:=cap') rs ?_ rfl rfl
  by_cases h1:rs.length=1
  ·obtain ⟨x,rfl⟩:=List.length_eq_one_iff.1 h1
   obtain ⟨c,hc1⟩:=List.length_eq_one_iff.1 (show (l.flatMap allP).length=1 by rw [←hrl];rfl)
   rw [both_one hc1]
   have hx0:[x][0]? = some x:=rfl
   refine Zn (F1:=[CdsF (l.flatMap allP) ([x].map ivOf)]) (f:=CdF c (ivOf x)) (fun hp hF=>by have:=hF _ (.head _);rw [hc1] at this;exact Y7.1 this) ?_
   repeat' (first|refine ZF ?_|refine ZI ?_|refine ZG ?_|refine ZH ?_|refine ZL ?_|refine ZJ ?_|refine ZN ?_|refine ZK (fun b=>?_)|refine ZM (fun b=>?_)|refine ZC ?_|refine ZA ?_|refine ZO ?_|refine ZW (es:=[x]) (f:=ivl) 0 x hx0 (fun b off=>?_)|refine ZX ?_|(refine ZB (fun hc=>?_) (fun hc=>?_)<;>(try simp at hc)<;>(try omega))|(refine ZE (fun hc=>?_) (fun hc=>?_)<;>(try simp at hc)<;>(try omega)))
   exact ZP x rfl trivial
  ·rw [both_many (by rw [←hrl];exact h1)]
   refine Zn (F1:=[Sl 100 ivl o' cap' rs,CdsF (l.flatMap allP) (rs.map ivOf)]) (f:=CdF (.all (l.flatMap allP)) (ivOf (225,.agg #[.slice o' rs.length cap']))) (fun hp hF=>?_) ?_
   ·show CdP hp _ _
    rw [CdP]
    exact ⟨o',cap',rs,rfl,hF _ (.head _),hF _ (.tail _ (.head _))⟩
   repeat' (first|refine ZF ?_|refine ZI ?_|refine ZG ?_|refine ZH ?_|refine ZL ?_|refine ZJ ?_|refine ZN ?_|refine ZK (fun b=>?_)|refine ZM (fun b=>?_)|refine ZC ?_|refine ZA ?_|refine ZO ?_|(refine ZB (fun hc=>?_) (fun hc=>?_)<;>(try simp at hc)<;>(try omega))|(refine ZE (fun hc=>?_) (fun hc=>?_)<;>(try simp at hc)<;>(try omega)))
   exact ZP (225,.agg #[.slice o' rs.length cap']) rfl trivial
theorem beqT {a b:ByteArray} (h:a=b):(a.toList == b.toList)=true:=by rw [h];simp
theorem beqF {a b:ByteArray} (h:a≠b):(a.toList == b.toList)=false:=by
 rw [Bool.eq_false_iff];simpa using fun e=>h (XI.1 e)
theorem KdOK.sfx {x y:Ps} (h:KdOK x) (s:Sfx x y):KdOK y:=fun t ht=>h t (List.IsSuffix.subset s ht)
abbrev RdQ (b r:Nat) (y:Cnd×Ps):Post:=⟨IV×Option Addr×Nat,fun q=>ivOf q.1,fun _=>True,fun q=>[CdF y.1 (ivOf q.1),TkS q.2 y.2.tk],fun q=>[Pt b (psC y.2 q.2.1 q.2.2 r),Mp skv vid r tstL]⟩
def OpI (x:Ps):Prop:=0≤x.op∧x.op+(x.tk.length:Int)≤300000
structure PkOK (x:Ps):Prop where
 kd:KdOK x
 op:OpI x
 ln:x.tk.length≤100000
theorem PkOK.sfx {x y:Ps} (h:PkOK x) (s:Sfx x y) (e:Sop x y):PkOK y:=by
 refine ⟨h.kd.sfx s,?_,Nat.le_trans s.len h.ln⟩
 obtain ⟨a,b⟩:=h.op
 have l:=s.len
 unfold Sop at e
 unfold OpI
 rw [e]
 exact ⟨a,by omega⟩
def SpF (F:FuncId) (b r:Nat) (x:Ps) (o:Option Addr) (cap:Nat) (y:Cnd×Ps):Prop:=Enters F∧Spec prog F #[.pointer (some ⟨b,0,none⟩)] [TkS (o,cap) x.tk,ErA,P10] [Pt b (psC x o cap r),Mp skv vid r tstL] (RdQ b r y)
set_option maxHeartbeats 4000000 in
theorem ruFactor_not (n b r:Nat) (x:Ps) (o:Option Addr) (cap:Nat) (hx:PkOK x) (h1:x.peek.kd=1) (h2:x.peek.tx=wNot) (ih:∀o cap,SpF 154 b r x.pass o cap (factorF n x.pass)) :
  SpF 154 b r x o cap (factorF (n+1) x):=by
 have n1:=XG b r x o cap hx.kd
 have e:factorF (n+1) x=(.nt (factorF n x.pass).1,(factorF n x.pass).2):=by
  rw [factorF];dsimp only;rw [if_pos ⟨h1,h2⟩]
 rw [e]
 have n2:=fun (q:Option Addr×Nat)=>ih q.1 q.2
 unfold SpF at n2
 generalize factorF n x.pass=y at n2 ⊢
 generalize hp:x.peek=t at *
 obtain ⟨kd,tx,pl⟩:=t
 dsimp only at h1 h2
 subst h1
 have hb:=beqT (a:=tx) (b:=⟨#[110,111,116]⟩) h2
 generalize b=bp at *
 unfold SpF
 refine ZR [_] func154 ntmps154 fun G w hp=>?_
 repeat' (first|refine ZF ?_|refine ZI ?_|refine ZG ?_|refine ZH ?_|refine ZL ?_|refine ZJ ?_|refine ZN ?_|refine ZK (fun b=>?_)|refine ZM (fun b=>?_)|refine ZC ?_|refine ZA ?_|refine ZO ?_|refine ZD (n1) (fun _ _=>?_)|refine l_call0 (n1) (fun _ _=>?_)|refine ZD (n2 _) (fun _ _=>?_)|refine l_call0 (n2 _) (fun _ _=>?_)|rw [hb]|(refine ZB (fun hc=>?_) (fun hc=>?_)<;>(try simp at hc)<;>(try omega))|(refine ZE (fun hc=>?_) (fun hc=>?_)<;>(try simp at hc)<;>(try omega)))
 rename_i q _
 obtain ⟨⟨T,u⟩,q2⟩:=q
 refine Zn (F1:=[CdF y.1 (ivOf (T,u))]) (f:=CdF (.nt y.1) (ivOf (223,.agg #[ivOf (T,u)]))) (fun hp hF=>?_) ?_
 ·show CdP hp _ _
  rw [CdP]
  exact ⟨_,rfl,hF _ (.head _)⟩
 exact ZP ((223,.agg #[ivOf (T,u)]),q2) rfl trivial
theorem factor_bad {n:Nat} {x:Ps} (h1:¬(x.peek.kd=1∧x.peek.tx=wNot)) (h2:¬(x.peek.kd=4∧x.peek.tx=yOpn)) (h3:¬(x.peek.kd=1∧isTst x.peek.tx=true)):factorF (n+1) x=(.nt .nul,x.pass.fail x.peek.pl 30):=by
 rw [factorF];dsimp only;rw [if_neg h1,if_neg h2,if_neg h3]
set_option maxHeartbeats 4000000 in
theorem ruFactor_bad (n b r:Nat) (x:Ps) (o:Option Addr) (cap:Nat) (hx:PkOK x) (h1:¬(x.peek.kd=1∧x.peek.tx=wNot)) (h2:¬(x.peek.kd=4∧x.peek.tx=yOpn)) (h3:¬(x.peek.kd=1∧isTst x.peek.tx=true)) :
  SpF 154 b r x o cap (factorF (n+1) x):=by
 have n1:=XG b r x o cap hx.kd
 have n2:=fun (q:Option Addr×Nat)=>Z8 b r x.pass q.1 q.2 x.peek.pl 30
 rw [factor_bad h1 h2 h3]
 generalize x.pass.fail x.peek.pl 30=y at n2 ⊢
 generalize hp:x.peek=t at *
 obtain ⟨kd,tx,pl⟩:=t
 dsimp only at h1 h2 h3 n2
 have fin:∀hp:H,CdP hp (.nt .nul) (ivOf (223,.agg #[.nilIface])):=fun hp=>by
  rw [CdP];exact ⟨_,rfl,by rw [CdP]⟩
 generalize b=bp at *
 unfold SpF
 by_cases k1:kd=1
 ·subst k1
  have hb:=beqF (a:=tx) (b:=⟨#[110,111,116]⟩) (fun e=>h1 ⟨rfl,e⟩)
  have hm:=tst_none (w:=tx) (by simpa using fun e=>h3 ⟨rfl,e⟩)
  refine ZR [_] func154 ntmps154 fun G w hp=>?_
  repeat' (first|refine ZF ?_|refine ZI ?_|refine ZG ?_|refine ZH ?_|refine ZL ?_|refine ZJ ?_|refine ZN ?_|refine ZK (fun b=>?_)|refine ZM (fun b=>?_)|refine ZC ?_|refine ZA ?_|refine ZO ?_|refine Zb ?_|refine Zc ?_|refine Zq ?_|refine Zd ?_|refine r_ldN ?_|refine Zr (fun b=>?_)|refine Zo (fun b=>?_)|refine Zp ?_|refine Za ?_|refine ZD (n1) (fun _ _=>?_)|refine l_call0 (n1) (fun _ _=>?_)|refine ZQ (n1) (fun _ _=>?_)|refine ZD (n2 _) (fun _ _=>?_)|refine l_call0 (n2 _) (fun _ _=>?_)|refine ZQ (n2 _) (fun _ _=>?_)|rw [hb]|refine Xm (V:=vid) Zl tx none hm ?_|(refine ZB (fun hc=>?_) (fun hc=>?_)<;>(try simp at hc)<;>(try omega))|(refine ZU (fun hc=>?_) (fun hc=>?_)<;>(try simp at hc)<;>(try omega))|refine ZT 13 [] [(0,0),(1,0),(2,0),(3,0),(4,0),(5,0),(6,0),(7,0),(8,0),(9,0),(10,0),(11,0)] [] ?_|(refine ZE (fun hc=>?_) (fun hc=>?_)<;>(try simp at hc)<;>(try omega)))
  rename_i q _
  refine k_add (f:=CdF (.nt .nul) (ivOf (223,.agg #[.nilIface]))) fin ?_
  exact ZP ((223,.agg #[.nilIface]),q) rfl trivial
 ·by_cases k4:kd=4
  ·subst k4
   have hb:=beqF (a:=tx) (b:=⟨#[40]⟩) (fun e=>h2 ⟨rfl,e⟩)
   refine ZR [_] func154 ntmps154 fun G w hp=>?_
   repeat' (first|refine ZF ?_|refine ZI ?_|refine ZG ?_|refine ZH ?_|refine ZL ?_|refine ZJ ?_|refine ZN ?_|refine ZK (fun b=>?_)|refine ZM (fun b=>?_)|refine ZC ?_|refine ZA ?_|refine ZO ?_|refine ZD (n1) (fun _ _=>?_)|refine l_call0 (n1) (fun _ _=>?_)|refine ZD (n2 _) (fun _ _=>?_)|refine l_call0 (n2 _) (fun _ _=>?_)|rw [hb]|(refine ZB (fun hc=>?_) (fun hc=>?_)<;>(try simp at hc)<;>(try omega))|(refine ZE (fun hc=>?_) (fun hc=>?_)<;>(try simp at hc)<;>(try omega)))
   rename_i q _
   refine k_add (f:=CdF (.nt .nul) (ivOf (223,.agg #[.nilIface]))) fin ?_
   exact ZP ((223,.agg #[.nilIface]),q) rfl trivial
  ·refine ZR [_] func154 ntmps154 fun G w hp=>?_
   repeat' (first|refine ZF ?_|refine ZI ?_|refine ZG ?_|refine ZH ?_|refine ZL ?_|refine ZJ ?_|refine ZN ?_|refine ZK (fun b=>?_)|refine ZM (fun b=>?_)|refine ZC ?_|refine ZA ?_|refine ZO ?_|refine ZD (n1) (fun _ _=>?_)|refine l_call0 (n1) (fun _ _=>?_)|refine ZD (n2 _) (fun _ _=>?_)|refine l_call0 (n2 _) (fun _ _=>?_)|(refine ZB (fun hc=>?_) (fun hc=>?_)<;>(try simp at hc)<;>(try omega))|(refine ZE (fun hc=>?_) (fun hc=>?_)<;>(try simp at hc)<;>(try omega)))
   rename_i q _
   refine k_add (f:=CdF (.nt .nul) (ivOf (223,.agg #[.nilIface]))) fin ?_
   exact ZP ((223,.agg #[.nilIface]),q) rfl trivial
theorem factor_test {n:Nat} {x:Ps} (h1:x.peek.kd=1) (h3:isTst x.peek.tx=true):factorF (n+1) x=testF x.peek.tx x.pass:=by
 rw [factorF];dsimp only
 rw [if_neg (fun h=>(tst_ne h3).2.2 h.2),if_neg (by rintro ⟨h,_⟩;rw [h1] at h;cases h),if_pos ⟨h1,h3⟩]
theorem ruFactor_test (n b r:Nat) (x:Ps) (o:Option Addr) (cap:Nat) (hx:PkOK x) (h1:x.peek.kd=1) (h3:isTst x.peek.tx=true) :
  SpF 154 b r x o cap (factorF (n+1) x):=by
 have n1:=XG b r x o cap hx.kd
 rw [factor_test h1 h3]
 have hkd:=hx.kd.pass
 generalize hp:x.peek=t at *
 obtain ⟨kd,tx,pl⟩:=t
 dsimp only at h1 h3 ⊢
 subst h1
 have hb:=beqF (a:=tx) (b:=⟨#[110,111,116]⟩) (tst_ne h3).2.2
 generalize b=bp at *
 unfold SpF
 by_cases c1:idx tx wKinds<3
 ·have hm:=tst_kind c1
  have n2:=ruKind_ok bp tx c1
  have e:testF tx x.pass=(.kd tx ((idx tx wKinds:Nat)+2),x.pass):=by unfold testF;rw [if_pos c1]
  rw [e]
  refine ZR [_] func154 ntmps154 fun G w hp=>?_
  repeat' (first|refine ZF ?_|refine ZI ?_|refine ZG ?_|refine ZH ?_|refine ZL ?_|refine ZJ ?_|refine ZN ?_|refine ZK (fun b=>?_)|refine ZM (fun b=>?_)|refine ZC ?_|refine ZA ?_|refine ZO ?_|refine Zb ?_|refine Zc ?_|refine Zq ?_|refine Zd ?_|refine r_ldN ?_|refine Zr (fun b=>?_)|refine Zo (fun b=>?_)|refine Zp ?_|refine Za ?_|refine ZD (n1) (fun _ _=>?_)|refine l_call0 (n1) (fun _ _=>?_)|refine ZQ (n1) (fun _ _=>?_)|rw [hb]|refine Xm (V:=vid) Zl tx _ hm ?_|refine WB n2 (fun _ _=>?_)|(refine ZB (fun hc=>?_) (fun hc=>?_)<;>(try simp at hc)<;>(try omega))|(refine ZU (fun hc=>?_) (fun hc=>?_)<;>(try simp at hc)<;>(try omega))|refine ZT 13 [] [(0,0),(1,0),(2,0),(3,0),(4,0),(5,0),(6,0),(7,0),(8,0),(9,0),(10,0),(11,0)] [] ?_|(refine ZE (fun hc=>?_) (fun hc=>?_)<;>(try simp at hc)<;>(try omega)))
  rename_i q _ v _
  exact ZP (v,q) rfl trivial
 by_cases c2:tx=wChan
 ·subst c2
  have n2:=fun (q:Option Addr×Nat)=>ruChannel_ok bp r x.pass q.1 q.2 hkd
  have hm:=tst_chan
  generalize testF wChan x.pass=y at n2 ⊢
  refine ZR [_] func154 ntmps154 fun G w hp=>?_
  repeat' (first|refine ZF ?_|refine ZI ?_|refine ZG ?_|refine ZH ?_|refine ZL ?_|refine ZJ ?_|refine ZN ?_|refine ZK (fun b=>?_)|refine ZM (fun b=>?_)|refine ZC ?_|refine ZA ?_|refine ZO ?_|refine Zb ?_|refine Zc ?_|refine Zq ?_|refine Zd ?_|refine r_ldN ?_|refine Zr (fun b=>?_)|refine Zo (fun b=>?_)|refine Zp ?_|refine Za ?_|refine ZD (n1) (fun _ _=>?_)|refine l_call0 (n1) (fun _ _=>?_)|refine ZQ (n1) (fun _ _=>?_)|rw [hb]|refine Xm (V:=vid) Zl wChan _ hm ?_|refine WB (n2 _) (fun _ _=>?_)|(refine ZB (fun hc=>?_) (fun hc=>?_)<;>(try simp at hc)<;>(try omega))|(refine ZU (fun hc=>?_) (fun hc=>?_)<;>(try simp at hc)<;>(try omega))|refine ZT 13 [] [(0,0),(1,0),(2,0),(3,0),(4,0),(5,0),(6,0),(7,0),(8,0),(9,0),(10,0),(11,0)] [] ?_|(refine ZE (fun hc=>?_) (fun hc=>?_)<;>(try simp at hc)<;>(try omega)))
  rename_i q _
  exact ZP q rfl trivial
 by_cases c3:idx tx wTxs<3
 ·have n2:=fun (q:Option Addr×Nat)=>V5 bp r tx c3 x.pass q.1 q.2 hkd
  have hm:=tst_tx c3
  generalize testF tx x.pass=y at n2 ⊢
  refine ZR [_] func154 ntmps154 fun G w hp=>?_
  repeat' (first|refine ZF ?_|refine ZI ?_|refine ZG ?_|refine ZH ?_|refine ZL ?_|refine ZJ ?_|refine ZN ?_|refine ZK (fun b=>?_)|refine ZM (fun b=>?_)|refine ZC ?_|refine ZA ?_|refine ZO ?_|refine Zb ?_|refine Zc ?_|refine Zq ?_|refine Zd ?_|refine r_ldN ?_|refine Zr (fun b=>?_)|refine Zo (fun b=>?_)|refine Zp ?_|refine Za ?_|refine ZD (n1) (fun _ _=>?_)|refine l_call0 (n1) (fun _ _=>?_)|refine ZQ (n1) (fun _ _=>?_)|rw [hb]|refine Xm (V:=vid) Zl tx _ hm ?_|refine WB (n2 _) (fun _ _=>?_)|(refine ZB (fun hc=>?_) (fun hc=>?_)<;>(try simp at hc)<;>(try omega))|(refine ZU (fun hc=>?_) (fun hc=>?_)<;>(try simp at hc)<;>(try omega))|refine ZT 13 [] [(0,0),(1,0),(2,0),(3,0),(4,0),(5,0),(6,0),(7,0),(8,0),(9,0),(10,0),(11,0)] [] ?_|(refine ZE (fun hc=>?_) (fun hc=>?_)<;>(try simp at hc)<;>(try omega)))
  rename_i q _
  exact ZP q rfl trivial
 by_cases c4:idx tx wNms<4
 ·have n2:=fun (q:Option Addr×Nat)=>VD bp r tx c4 x.pass q.1 q.2 hkd
  have hm:=tst_nm c4
  generalize testF tx x.pass=y at n2 ⊢
  refine ZR [_] func154 ntmps154 fun G w hp=>?_
  repeat' (first|refine ZF ?_|refine ZI ?_|refine ZG ?_|refine ZH ?_|refine ZL ?_|refine ZJ ?_|refine ZN ?_|refine ZK (fun b=>?_)|refine ZM (fun b=>?_)|refine ZC ?_|refine ZA ?_|refine ZO ?_|refine Zb ?_|refine Zc ?_|refine Zq ?_|refine Zd ?_|refine r_ldN ?_|refine Zr (fun b=>?_)|refine Zo (fun b=>?_)|refine Zp ?_|refine Za ?_|refine ZD (n1) (fun _ _=>?_)|refine l_call0 (n1) (fun _ _=>?_)|refine ZQ (n1) (fun _ _=>?_)|rw [hb]|refine Xm (V:=vid) Zl tx _ hm ?_|refine WB (n2 _) (fun _ _=>?_)|(refine ZB (fun hc=>?_) (fun hc=>?_)<;>(try simp at hc)<;>(try omega))|(refine ZU (fun hc=>?_) (fun hc=>?_)<;>(try simp at hc)<;>(try omega))|refine ZT 13 [] [(0,0),(1,0),(2,0),(3,0),(4,0),(5,0),(6,0),(7,0),(8,0),(9,0),(10,0),(11,0)] [] ?_|(refine ZE (fun hc=>?_) (fun hc=>?_)<;>(try simp at hc)<;>(try omega)))
  rename_i q _
  exact ZP q rfl trivial
 have c5:tx=wBy:=by
  simp only [isTst,Bool.or_eq_true,decide_eq_true_eq] at h3
  rcases h3 with (((h|h)|h)|h)|h
  ·exact absurd h c1
  ·exact absurd h c2
  ·exact absurd h c3
  ·exact absurd h c4
  ·exact h
 subst c5
 have n2:=fun (q:Option Addr×Nat)=>ruBy_ok bp r x.pass q.1 q.2 hkd
 have hm:=tst_by
 generalize testF wBy x.pass=y at n2 ⊢
 refine ZR [_] func154 ntmps154 fun G w hp=>?_
 repeat' (first|refine ZF ?_|refine ZI ?_|refine ZG ?_|refine ZH ?_|refine ZL ?_|refine ZJ ?_|refine ZN ?_|refine ZK (fun b=>?_)|refine ZM (fun b=>?_)|refine ZC ?_|refine ZA ?_|refine ZO ?_|refine Zb ?_|refine Zc ?_|refine Zq ?_|refine Zd ?_|refine r_ldN ?_|refine Zr (fun b=>?_)|refine Zo (fun b=>?_)|refine Zp ?_|refine Za ?_|refine ZD (n1) (fun _ _=>?_)|refine l_call0 (n1) (fun _ _=>?_)|refine ZQ (n1) (fun _ _=>?_)|rw [hb]|refine Xm (V:=vid) Zl wBy _ hm ?_|refine WB (n2 _) (fun _ _=>?_)|(refine ZB (fun hc=>?_) (fun hc=>?_)<;>(try simp at hc)<;>(try omega))|(refine ZU (fun hc=>?_) (fun hc=>?_)<;>(try simp at hc)<;>(try omega))|refine ZT 13 [] [(0,0),(1,0),(2,0),(3,0),(4,0),(5,0),(6,0),(7,0),(8,0),(9,0),(10,0),(11,0)] [] ?_|(refine ZE (fun hc=>?_) (fun hc=>?_)<;>(try simp at hc)<;>(try omega)))
 rename_i q _
 exact ZP q rfl trivial
set_option maxHeartbeats 4000000 in
theorem ruFactor_par (n b r:Nat) (x:Ps) (o:Option Addr) (cap:Nat) (hx:PkOK x) (h1:x.peek.kd=4) (h2:x.peek.tx=yOpn) (ih:∀q o cap,PkOK q→q.tk.length+1≤x.tk.length→SpF 107 b r q o cap (condF n q)) :
  SpF 154 b r x o cap (factorF (n+1) x):=by
 have n1:=XG b r x o cap hx.kd
 have hln:=Xq (p:=x) (by rw [h1];decide)
 have n2:=fun (q:Option Addr×Nat)=>Z8 b r x.pass q.1 q.2 x.peek.pl 9
 obtain ⟨p1,p2⟩:=hx.op
 have hk1:=(hx.kd).pass
 have hl:=hx.ln
 rw [factorF];dsimp only
 rw [if_neg (by rw [h1];rintro ⟨h,_⟩;cases h),if_pos ⟨h1,h2⟩]
 have hpo:x.pass.op=x.op:=rfl
 generalize hp:x.peek=t at *
 obtain ⟨kd,tx,pl⟩:=t
 dsimp only at h1 h2 n2 ⊢
 subst h1
 have hb:=beqT (a:=tx) (b:=⟨#[40]⟩) h2
 generalize hxp:x.pass=xp at *
 have key:∀q:Ps,Sfx xp q→Sop xp q→∃hz:PkOK {q with op:=q.op+1},True:=fun q s e=>by
  have l:=s.len
  unfold Sop at e
  refine ⟨⟨hk1.sfx s,⟨by show 0≤q.op+1;omega,?_⟩,by show q.tk.length≤_;omega⟩,trivial⟩
  show q.op+1+(q.tk.length:Int)≤_
  omega
 have key2:∀q:Ps,Sfx xp q→Sop xp q→KdOK (condF n {q with op:=q.op+1}).2∧(((condF n {q with op:=q.op+1}).2.symb yCls).op=xp.op+1):=fun q s e=>by
  have a:=(Yq n).2.2.2.1 {q with op:=q.op+1}
  have b:(condF n {q with op:=q.op+1}).2.op=q.op+1:=(X6 n).2.2.2.1 {q with op:=q.op+1}
  have c:((condF n {q with op:=q.op+1}).2.symb yCls).op=(condF n {q with op:=q.op+1}).2.op:=Sop.symb _ _
  unfold Sop at e
  exact ⟨(hk1.sfx s).sfx a,by rw [c,b,e]⟩
 generalize b=bp at *
 unfold SpF at ih ⊢
 by_cases c:xp.op=32
 ·rw [if_pos c]
  have s0:=Sfx.fail xp pl 9
  have e0:=Sop.fail xp pl 9
  generalize hy0:xp.fail pl 9=y0 at *
  obtain ⟨hz,_⟩:=key y0 s0 e0
  obtain ⟨k1,k2⟩:=key2 y0 s0 e0
  have l0:=s0.len
  have n3:=fun (q:Option Addr×Nat)=>ih {y0 with op:=y0.op+1} q.1 q.2 hz (by show y0.tk.length+1≤_;omega)
  have e0':y0.op=xp.op:=e0
  have w1:=wrapi (z:=y0.op+1) (by omega) (by omega)
  generalize condF n {y0 with op:=y0.op+1}=y at *
  obtain ⟨cy,sy⟩:=y
  dsimp only at k1 k2 n3 ⊢
  have n4:=fun (q:Option Addr×Nat)=>WZ bp r sy q.1 q.2 k1 yCls
  generalize sy.symb yCls=s at *
  have w2:=wrapi (z:=s.op - 1) (by omega) (by omega)
  refine ZR [_] func154 ntmps154 fun G w hp=>?_
  repeat' (first|refine ZF ?_|refine ZI ?_|refine ZG ?_|refine ZH ?_|refine ZL ?_|refine ZJ ?_|refine ZN ?_|refine ZK (fun b=>?_)|refine ZM (fun b=>?_)|refine ZC ?_|refine ZA ?_|refine ZO ?_|refine ZD (n1) (fun _ _=>?_)|refine l_call0 (n1) (fun _ _=>?_)|refine ZD (n2 _) (fun _ _=>?_)|refine l_call0 (n2 _) (fun _ _=>?_)|refine ZD (n3 _) (fun _ _=>?_)|refine l_call0 (n3 _) (fun _ _=>?_)|refine ZD (n4 _) (fun _ _=>?_)|refine l_call0 (n4 _) (fun _ _=>?_)|rw [hb]|rw [w1]|rw [w2]|(refine ZB (fun hc=>?_) (fun hc=>?_)<;>(try simp at hc)<;>(try omega))|(refine ZE (fun hc=>?_) (fun hc=>?_)<;>(try simp at hc)<;>(try omega)))
  rename_i iv _ q _
  exact ZP (iv.1,q) rfl trivial
 ·rw [if_neg c]
  obtain ⟨hz,_⟩:=key xp (Sfx.refl _) (Sop.refl _)
  obtain ⟨k1,k2⟩:=key2 xp (Sfx.refl _) (Sop.refl _)
  have n3:=fun (q:Option Addr×Nat)=>ih {xp with op:=xp.op+1} q.1 q.2 hz (by show xp.tk.length+1≤_;omega)
  have w1:=wrapi (z:=xp.op+1) (by omega) (by omega)
  generalize condF n {xp with op:=xp.op+1}=y at *
  obtain ⟨cy,sy⟩:=y
  dsimp only at k1 k2 n3 ⊢
  have n4:=fun (q:Option Addr×Nat)=>WZ bp r sy q.1 q.2 k1 yCls
  generalize sy.symb yCls=s at *
  have w2:=wrapi (z:=s.op - 1) (by omega) (by omega)
  refine ZR [_] func154 ntmps154 fun G w hp=>?_
  repeat' (first|refine ZF ?_|refine ZI ?_|refine ZG ?_|refine ZH ?_|refine ZL ?_|refine ZJ ?_|refine ZN ?_|refine ZK (fun b=>?_)|refine ZM (fun b=>?_)|refine ZC ?_|refine ZA ?_|refine ZO ?_|refine ZD (n1) (fun _ _=>?_)|refine l_call0 (n1) (fun _ _=>?_)|refine ZD (n3 _) (fun _ _=>?_)|refine l_call0 (n3 _) (fun _ _=>?_)|refine ZD (n4 _) (fun _ _=>?_)|refine l_call0 (n4 _) (fun _ _=>?_)|rw [hb]|rw [w1]|rw [w2]|(refine ZB (fun hc=>?_) (fun hc=>?_)<;>(try simp at hc)<;>(try omega))|(refine ZE (fun hc=>?_) (fun hc=>?_)<;>(try simp at hc)<;>(try omega)))
  rename_i iv _ q _
  exact ZP (iv.1,q) rfl trivial
def kdB (t:Tk):Int:=if t.kd=1 then 119 else if t.kd=2 then 110 else if t.kd=3 then 115 else match t.tx.data.toList with
 | c::_=>c.toNat
 | []=>0
def TmOK (t:Tk):Prop:=((t.kd=1∨t.kd=2∨t.kd=3)∨(t.kd=4∧∃c,isSym c=true∧t.tx=ofL [c]))∧t.tx.size≤100000
abbrev tkm (t:Tk):List Value:=[.int .u8 (kdB t),.string t.tx,.int .i64 (t.pl+1)]
theorem sym_in {c:UInt8} (h:isSym c=true):c=40∨c=41∨c=58∨c=61∨c=60∨c=62:=by
 simpa [isSym,or_assoc] using h
theorem kdB4 {t:Tk} {c:UInt8} (h:t.kd=4) (hx:t.tx=ofL [c]):kdB t=c.toNat:=by
 unfold kdB
 rw [h,if_neg (by decide),if_neg (by decide),if_neg (by decide),hx]
theorem Xt {t:Tk} (h:TmOK t):(t.kd=1∧kdB t=119)∨(t.kd=2∧kdB t=110)∨(t.kd=3∧kdB t=115)∨(t.kd=4∧∃c:UInt8,(c=40∨c=41∨c=58∨c=61∨c=60∨c=62)∧t.tx=ofL [c]∧kdB t=c.toNat):=by
 rcases h.1 with (h1|h1|h1)|⟨h1,c,h2,h3⟩
 ·exact .inl ⟨h1,by unfold kdB;rw [if_pos h1]⟩
 ·exact .inr (.inl ⟨h1,by unfold kdB;rw [h1];rfl⟩)
 ·exact .inr (.inr (.inl ⟨h1,by unfold kdB;rw [h1];rfl⟩))
 ·exact .inr (.inr (.inr ⟨h1,c,sym_in h2,h3,kdB4 h1 h3⟩))
theorem kdB_ne0 {t:Tk} (h:TmOK t):kdB t≠0:=by
 rcases Xt h with h1|h1|h1|⟨_,c,h2,_,h1⟩
 ·rw [h1.2];decide
 ·rw [h1.2];decide
 ·rw [h1.2];decide
 ·rw [h1];rcases h2 with rfl|rfl|rfl|rfl|rfl|rfl<;>decide
theorem kdB_1 {t:Tk} (h:TmOK t):kdB t=119↔t.kd=1:=by
 rcases Xt h with h1|h1|h1|⟨h0,c,h2,_,h1⟩
 ·simp [h1.1,h1.2]
 ·simp [h1.1,h1.2]
 ·simp [h1.1,h1.2]
 ·rw [h1,h0];rcases h2 with rfl|rfl|rfl|rfl|rfl|rfl<;>decide
theorem kdB_2 {t:Tk} (h:TmOK t):kdB t=110↔t.kd=2:=by
 rcases Xt h with h1|h1|h1|⟨h0,c,h2,_,h1⟩
 ·simp [h1.1,h1.2]
 ·simp [h1.1,h1.2]
 ·simp [h1.1,h1.2]
 ·rw [h1,h0];rcases h2 with rfl|rfl|rfl|rfl|rfl|rfl<;>decide
theorem kdB_3 {t:Tk} (h:TmOK t):kdB t=115↔t.kd=3:=by
 rcases Xt h with h1|h1|h1|⟨h0,c,h2,_,h1⟩
 ·simp [h1.1,h1.2]
 ·simp [h1.1,h1.2]
 ·simp [h1.1,h1.2]
 ·rw [h1,h0];rcases h2 with rfl|rfl|rfl|rfl|rfl|rfl<;>decide
theorem kdB_4 {t:Tk} (h:TmOK t) {c:UInt8} (hc:c=40∨c=41∨c=58∨c=61∨c=60∨c=62):kdB t=(c.toNat:Int)↔Mq.isS (ofL [c]) t=true:=by
 have e:Mq.isS (ofL [c]) t=true↔t.kd=4∧t.tx=ofL [c]:=by unfold Mq.isS;simp
 rw [e]
 rcases Xt h with h1|h1|h1|⟨h0,d,h2,h3,h1⟩
 ·rw [h1.1,h1.2];rcases hc with rfl|rfl|rfl|rfl|rfl|rfl<;>simp
 ·rw [h1.1,h1.2];rcases hc with rfl|rfl|rfl|rfl|rfl|rfl<;>simp
 ·rw [h1.1,h1.2];rcases hc with rfl|rfl|rfl|rfl|rfl|rfl<;>simp
 ·rw [h1,h0,h3]
  constructor
  ·intro hh
   have:d=c:=UInt8.toNat_inj.1 (by omega)
   rw [this];exact ⟨rfl,rfl⟩
  ·rintro ⟨_,hh⟩
   have:[d]=[c]:=ofL_inj.1 hh
   rw [(List.cons.inj this).1]
abbrev mqC (m:Mq) (L k:Nat) (o:Option Addr) (cap:Nat):Obj:=.cells #[.slice o L cap,.int .i64 (k:Int),.int .i64 m.en,.int .i64 m.op,.int .i64 m.e,.int .i64 m.cl] 113
abbrev Kx (l:List Tk) (m:Mq):={k:Nat // l.drop k=m.tk}
abbrev MqP (v:Value) (bp:Nat) (l:List Tk) (m:Mq) (o:Option Addr) (cap:Nat):Post:=⟨Kx l m,fun _=>v,fun _=>True,fun _=>[],fun q=>[Pt bp (mqC m l.length q.1 o cap)]⟩
abbrev TmS (o:Option Addr) (cap:Nat) (l:List Tk):Pf:=Sl 110 tkm o cap l
def LOK (l:List Tk):Prop:=(∀t ∈ l,TmOK t)∧l.length≤100000∧∀t ∈ l,TkOK t
theorem Zz {α:Type} {l:List α} {k:Nat} {t:α} {ts:List α} (h:l.drop k=t::ts):l[k]? = some t∧k<l.length∧l.drop (k+1)=ts:=by
 have h1:k<l.length:=by
  by_cases hh:k<l.length
  ·exact hh
  ·rw [List.drop_eq_nil_of_le (by omega)] at h;cases h
 have h2:=List.drop_eq_getElem_cons h1
 rw [h] at h2
 obtain ⟨h3,h4⟩:=List.cons.inj h2
 exact ⟨by rw [List.getElem?_eq_getElem h1,h3],h1,h4.symm⟩
theorem YM {α:Type} {l:List α} {k:Nat} (h:l.drop k=[]):¬k<l.length:=fun hh=>by
 have:=congrArg List.length h
 rw [List.length_drop,List.length_nil] at this;omega
def nowV (m:Mq):Value:=match m.tk with
 | []=>.agg #[.int .u8 0,.string eB,.int .i64 m.en]
 | t::_=>.agg #[.int .u8 (kdB t),.string t.tx,.int .i64 (t.pl+1)]
section
variable (bp:Nat) (l:List Tk) (o:Option Addr) (cap:Nat) (hl:LOK l)
theorem WG (m:Mq) (q:Kx l m):Enters 79∧Spec prog 79 #[.pointer (some ⟨bp,0,none⟩)] [TmS o cap l] [Pt bp (mqC m l.length q.1 o cap)] ⟨Unit,fun _=>nowV m,fun _=>True,fun _=>[],fun _=>[Pt bp (mqC m l.length q.1 o cap)]⟩:=by
 obtain ⟨k,hk⟩:=q
 obtain ⟨tk,en,op,e,cl⟩:=m
 dsimp only at hk ⊢
 cases tk with
 | nil=>
  have hn:=YM hk
  refine ZR [_] func79 ntmps79 fun G w hp=>?_
  repeat' (first|refine ZF ?_|refine ZI ?_|refine ZG ?_|refine ZH ?_|refine ZL ?_|refine ZJ ?_|refine ZN ?_|refine ZK (fun b=>?_)|refine ZM (fun b=>?_)|refine ZC ?_|refine ZA ?_|refine ZO ?_|refine Zb ?_|refine Zc ?_|refine Zq ?_|refine Zd ?_|refine r_ldN ?_|refine Zr (fun b=>?_)|refine Zo (fun b=>?_)|refine Zp ?_|refine Za ?_|(refine ZB (fun hc=>?_) (fun hc=>?_)<;>(try simp at hc)<;>(try omega))|(refine ZU (fun hc=>?_) (fun hc=>?_)<;>(try simp at hc)<;>(try omega))|refine ZT 1 [] [(0,0),(1,0),(2,0),(3,0),(4,0),(5,0),(6,0),(7,0),(8,0),(9,0)] [] ?_|refine ZT 2 [] [(0,0),(1,0),(2,0),(3,0),(4,0),(5,0),(6,0),(7,0),(8,0),(9,0)] [10] ?_|(refine ZE (fun hc=>?_) (fun hc=>?_)<;>(try simp at hc)<;>(try omega)))
  exact ZP () rfl trivial
 | cons t ts=>
  obtain ⟨h1,h2,h3⟩:=Zz hk
  refine ZR [_] func79 ntmps79 fun G w hp=>?_
  repeat' (first|refine ZF ?_|refine ZI ?_|refine ZG ?_|refine ZH ?_|refine ZL ?_|refine ZJ ?_|refine ZN ?_|refine ZK (fun b=>?_)|refine ZM (fun b=>?_)|refine ZC ?_|refine ZA ?_|refine ZO ?_|refine Zb ?_|refine Zc ?_|refine Zq ?_|refine Zd ?_|refine r_ldN ?_|refine Zr (fun b=>?_)|refine Zo (fun b=>?_)|refine Zp ?_|refine Za ?_|refine r_ixe (es:=l) (f:=tkm) k t h1 (fun b off=>?_)|refine r_ldC ?_|refine r_up ?_|(refine ZB (fun hc=>?_) (fun hc=>?_)<;>(try simp at hc)<;>(try omega))|(refine ZU (fun hc=>?_) (fun hc=>?_)<;>(try simp at hc)<;>(try omega))|refine ZT 1 [] [(0,0),(1,0),(2,0),(3,0),(4,0),(5,0),(6,0),(7,0),(8,0),(9,0)] [] ?_|refine ZT 2 [Pt _ (.cells _ 110 _)] [(0,0),(1,0),(2,0),(4,0),(5,0),(6,0),(3,3),(7,3),(8,0),(9,3)] [10] ?_|(refine ZE (fun hc=>?_) (fun hc=>?_)<;>(try simp at hc)<;>(try omega)))
  exact ZP () rfl trivial
theorem YL (en op e cl:Int) (k:Nat) (hk:l.drop k=[]):Enters 79∧Spec prog 79 #[.pointer (some ⟨bp,0,none⟩)] [TmS o cap l] [Pt bp (mqC ⟨[],en,op,e,cl⟩ l.length k o cap)] ⟨Unit,fun _=>.agg #[.int .u8 0,.string eB,.int .i64 en],fun _=>True,fun _=>[],fun _=>[Pt bp (mqC ⟨[],en,op,e,cl⟩ l.length k o cap)]⟩:=
 WG bp l o cap ⟨[],en,op,e,cl⟩ ⟨k,hk⟩
theorem YN (t:Tk) (ts:List Tk) (en op e cl:Int) (k:Nat) (hk:l.drop k=t::ts):Enters 79∧Spec prog 79 #[.pointer (some ⟨bp,0,none⟩)] [TmS o cap l] [Pt bp (mqC ⟨t::ts,en,op,e,cl⟩ l.length k o cap)] ⟨Unit,fun _=>.agg #[.int .u8 (kdB t),.string t.tx,.int .i64 (t.pl+1)],fun _=>True,fun _=>[],fun _=>[Pt bp (mqC ⟨t::ts,en,op,e,cl⟩ l.length k o cap)]⟩:=
 WG bp l o cap ⟨t::ts,en,op,e,cl⟩ ⟨k,hk⟩
theorem Zm (m:Mq) (q:Kx l m) (er:Int):Enters 80∧Spec prog 80 #[.pointer (some ⟨bp,0,none⟩),.int .i64 er] [TmS o cap l] [Pt bp (mqC m l.length q.1 o cap)] (MqP (.tuple #[]) bp l (m.fail er) o cap):=by
 have n1:=WG bp l o cap m q
 obtain ⟨k,hk⟩:=q
 have hk':l.drop k=(m.fail er).tk:=by rw [hk];unfold Mq.fail;split<;>rfl
 generalize hy:m.fail er=y at *
 obtain ⟨tk,en,op,e,cl⟩:=m
 unfold Mq.fail at hy
 dsimp only at hk hy n1 ⊢
 refine ZR [_,_] func80 ntmps80 fun G w hp=>?_
 by_cases h:e=0
 ·rw [if_pos h] at hy
  subst h
  cases tk with
  | nil=>
   subst hy
   have n1':=YL bp l o cap en op 0 cl k hk
   repeat' (first|refine ZF ?_|refine ZI ?_|refine ZG ?_|refine ZH ?_|refine ZL ?_|refine ZJ ?_|refine ZN ?_|refine ZK (fun b=>?_)|refine ZM (fun b=>?_)|refine ZC ?_|refine ZA ?_|refine ZO ?_|refine ZD (n1') (fun _ _=>?_)|refine l_call0 (n1') (fun _ _=>?_)|(refine ZB (fun hc=>?_) (fun hc=>?_)<;>(try simp at hc)<;>(try omega))|(refine ZE (fun hc=>?_) (fun hc=>?_)<;>(try simp at hc)<;>(try omega)))
   exact YR ⟨k,hk'⟩ rfl trivial
  | cons t ts=>
   subst hy
   have n1':=YN bp l o cap t ts en op 0 cl k hk
   repeat' (first|refine ZF ?_|refine ZI ?_|refine ZG ?_|refine ZH ?_|refine ZL ?_|refine ZJ ?_|refine ZN ?_|refine ZK (fun b=>?_)|refine ZM (fun b=>?_)|refine ZC ?_|refine ZA ?_|refine ZO ?_|refine ZD (n1') (fun _ _=>?_)|refine l_call0 (n1') (fun _ _=>?_)|(refine ZB (fun hc=>?_) (fun hc=>?_)<;>(try simp at hc)<;>(try omega))|(refine ZE (fun hc=>?_) (fun hc=>?_)<;>(try simp at hc)<;>(try omega)))
   exact YR ⟨k,hk'⟩ rfl trivial
 ·rw [if_neg h] at hy
  subst hy
  repeat' (first|refine ZF ?_|refine ZI ?_|refine ZG ?_|refine ZH ?_|refine ZL ?_|refine ZJ ?_|refine ZN ?_|refine ZK (fun b=>?_)|refine ZM (fun b=>?_)|refine ZC ?_|refine ZA ?_|refine ZO ?_|(refine ZB (fun hc=>?_) (fun hc=>?_)<;>(try simp at hc)<;>(try omega))|(refine ZE (fun hc=>?_) (fun hc=>?_)<;>(try simp at hc)<;>(try omega)))
  exact YR ⟨k,hk'⟩ rfl trivial
include hl in
theorem YS (m:Mq) (q:Kx l m) (s:ByteArray):Enters 76∧Spec prog 76 #[.pointer (some ⟨bp,0,none⟩),.string s] [TmS o cap l] [Pt bp (mqC m l.length q.1 o cap)] (MqP (.bool (m.word s)) bp l (if m.word s then m.pass else m) o cap):=by
 have n1:=WG bp l o cap m q
 obtain ⟨k,hk⟩:=q
 generalize hz:m.word s=z at *
 have hk':l.drop (if z then k+1 else k)=(if z then m.pass else m).tk:=by
  cases z with
  | false=>exact hk
  | true=>
   show l.drop (k+1)=m.tk.tail
   rw [←hk,List.tail_drop]
 generalize hy:(if z then m.pass else m)=y at *
 obtain ⟨tk,en,op,e,cl⟩:=m
 dsimp only at hk n1 ⊢
 refine ZR [_,_] func76 ntmps76 fun G w hp=>?_
 by_cases he:e=0
 ·subst he
  cases tk with
  | nil=>
   have hz:z=false:=by rw [←hz];simp [Mq.word,Mq.has]
   subst hz
   subst hy
   have n1':=YL bp l o cap en op 0 cl k hk
   repeat' (first|refine ZF ?_|refine ZI ?_|refine ZG ?_|refine ZH ?_|refine ZL ?_|refine ZJ ?_|refine ZN ?_|refine ZK (fun b=>?_)|refine ZM (fun b=>?_)|refine ZC ?_|refine ZA ?_|refine ZO ?_|refine ZD (n1') (fun _ _=>?_)|refine l_call0 (n1') (fun _ _=>?_)|(refine ZB (fun hc=>?_) (fun hc=>?_)<;>(try simp at hc)<;>(try omega))|(refine ZE (fun hc=>?_) (fun hc=>?_)<;>(try simp at hc)<;>(try omega)))
   all_goals exact ZP ⟨k,hk'⟩ rfl trivial
  | cons t ts=>
   have n1':=YN bp l o cap t ts en op 0 cl k hk
   have ht:TmOK t:=hl.1 t (by have:=(Zz hk).1;exact List.mem_of_getElem? this)
   have hkl:=(Zz hk).2.1
   have hll:=hl.2.1
   have w1:=wrapi (z:=(k:Int)+1) (by omega) (by omega)
   by_cases h1:t.kd=1
   ·have q1:=(kdB_1 ht).2 h1
    by_cases h2:t.tx=s
    ·have b2:=beqT h2
     have hz:z=true:=by rw [←hz];simp [Mq.word,Mq.has,Mq.isW,h1,h2]
     subst hz
     subst hy
     repeat' (first|rw [b2]|refine ZF ?_|refine ZI ?_|refine ZG ?_|refine ZH ?_|refine ZL ?_|refine ZJ ?_|refine ZN ?_|refine ZK (fun b=>?_)|refine ZM (fun b=>?_)|refine ZC ?_|refine ZA ?_|refine ZO ?_|refine ZD (n1') (fun _ _=>?_)|refine l_call0 (n1') (fun _ _=>?_)|rw [w1]|(refine ZB (fun hc=>?_) (fun hc=>?_)<;>(try simp at hc)<;>(try omega))|(refine ZE (fun hc=>?_) (fun hc=>?_)<;>(try simp at hc)<;>(try omega)))
     all_goals exact ZP ⟨k+1,hk'⟩ rfl trivial
    ·have b2:=beqF h2
     have hz:z=false:=by rw [←hz];simp [Mq.word,Mq.has,Mq.isW,h2]
     subst hz
     subst hy
     repeat' (first|rw [b2]|refine ZF ?_|refine ZI ?_|refine ZG ?_|refine ZH ?_|refine ZL ?_|refine ZJ ?_|refine ZN ?_|refine ZK (fun b=>?_)|refine ZM (fun b=>?_)|refine ZC ?_|refine ZA ?_|refine ZO ?_|refine ZD (n1') (fun _ _=>?_)|refine l_call0 (n1') (fun _ _=>?_)|rw [w1]|(refine ZB (fun hc=>?_) (fun hc=>?_)<;>(try simp at hc)<;>(try omega))|(refine ZE (fun hc=>?_) (fun hc=>?_)<;>(try simp at hc)<;>(try omega)))
     all_goals exact ZP ⟨k,hk'⟩ rfl trivial
   ·have q1:¬kdB t=119:=fun h=>h1 ((kdB_1 ht).1 h)
    have hz:z=false:=by rw [←hz];simp [Mq.word,Mq.has,Mq.isW,h1]
    subst hz
    subst hy
    repeat' (first|refine ZF ?_|refine ZI ?_|refine ZG ?_|refine ZH ?_|refine ZL ?_|refine ZJ ?_|refine ZN ?_|refine ZK (fun b=>?_)|refine ZM (fun b=>?_)|refine ZC ?_|refine ZA ?_|refine ZO ?_|refine ZD (n1') (fun _ _=>?_)|refine l_call0 (n1') (fun _ _=>?_)|(refine ZB (fun hc=>?_) (fun hc=>?_)<;>(try simp at hc)<;>(try omega))|(refine ZE (fun hc=>?_) (fun hc=>?_)<;>(try simp at hc)<;>(try omega)))
    all_goals exact ZP ⟨k,hk'⟩ rfl trivial
 ·have hz:z=false:=by rw [←hz];simp [Mq.word,he]
  subst hz
  subst hy
  repeat' (first|refine ZF ?_|refine ZI ?_|refine ZG ?_|refine ZH ?_|refine ZL ?_|refine ZJ ?_|refine ZN ?_|refine ZK (fun b=>?_)|refine ZM (fun b=>?_)|refine ZC ?_|refine ZA ?_|refine ZO ?_|(refine ZB (fun hc=>?_) (fun hc=>?_)<;>(try simp at hc)<;>(try omega))|(refine ZE (fun hc=>?_) (fun hc=>?_)<;>(try simp at hc)<;>(try omega)))
  all_goals exact ZP ⟨k,hk'⟩ rfl trivial
include hl in
theorem YU (m:Mq) (q:Kx l m) (kb:Int) (p:Tk→Bool) (hpq:∀t,TmOK t→(kdB t=kb↔p t=true)) (h0:kb≠0):Enters 78∧Spec prog 78 #[.pointer (some ⟨bp,0,none⟩),.int .u8 kb] [TmS o cap l] [Pt bp (mqC m l.length q.1 o cap)] (MqP (.string (m.take p).1) bp l (m.take p).2 o cap):=by
 have n1:=WG bp l o cap m q
 have n2:=Zm bp l o cap m q 30
 obtain ⟨k,hk⟩:=q
 generalize hy:m.take p=y at *
 unfold Mq.take at hy
 obtain ⟨tk,en,op,e,cl⟩:=m
 dsimp only at hk n1 n2 ⊢
 refine ZR [_,_] func78 ntmps78 fun G w hp=>?_
 by_cases he:e=0
 ·subst he
  cases tk with
  | nil=>
   rw [if_pos (.inr rfl)] at hy
   subst hy
   have n1':=YL bp l o cap en op 0 cl k hk
   repeat' (first|refine ZF ?_|refine ZI ?_|refine ZG ?_|refine ZH ?_|refine ZL ?_|refine ZJ ?_|refine ZN ?_|refine ZK (fun b=>?_)|refine ZM (fun b=>?_)|refine ZC ?_|refine ZA ?_|refine ZO ?_|refine ZD (n1') (fun _ _=>?_)|refine l_call0 (n1') (fun _ _=>?_)|refine ZD (n2) (fun _ _=>?_)|refine l_call0 (n2) (fun _ _=>?_)|(refine ZB (fun hc=>?_) (fun hc=>?_)<;>(try simp at hc)<;>(try omega))|(refine ZE (fun hc=>?_) (fun hc=>?_)<;>(try simp at hc)<;>(try omega)))
   all_goals (rename_i qq _;exact ZP qq rfl trivial)
  | cons t ts=>
   have n1':=YN bp l o cap t ts en op 0 cl k hk
   have ht:TmOK t:=hl.1 t (by have:=(Zz hk).1;exact List.mem_of_getElem? this)
   obtain ⟨_,hkl,hk3⟩:=Zz hk
   have hll:=hl.2.1
   have w1:=wrapi (z:=(k:Int)+1) (by omega) (by omega)
   by_cases h1:kdB t=kb
   ·have hpt:=(hpq t ht).1 h1
    rw [if_neg (by simp [Mq.has,hpt])] at hy
    subst hy
    repeat' (first|refine ZF ?_|refine ZI ?_|refine ZG ?_|refine ZH ?_|refine ZL ?_|refine ZJ ?_|refine ZN ?_|refine ZK (fun b=>?_)|refine ZM (fun b=>?_)|refine ZC ?_|refine ZA ?_|refine ZO ?_|refine ZD (n1') (fun _ _=>?_)|refine l_call0 (n1') (fun _ _=>?_)|refine ZD (n2) (fun _ _=>?_)|refine l_call0 (n2) (fun _ _=>?_)|rw [w1]|(refine ZB (fun hc=>?_) (fun hc=>?_)<;>(try simp at hc)<;>(try omega))|(refine ZE (fun hc=>?_) (fun hc=>?_)<;>(try simp at hc)<;>(try omega)))
    all_goals exact ZP ⟨k+1,hk3⟩ rfl trivial
   ·have hpt:p t=false:=by
     cases hh:p t with
     | false=>rfl
     | true=>exact absurd ((hpq t ht).2 hh) h1
    rw [if_pos (.inr (by simpa [Mq.has] using hpt))] at hy
    subst hy
    repeat' (first|refine ZF ?_|refine ZI ?_|refine ZG ?_|refine ZH ?_|refine ZL ?_|refine ZJ ?_|refine ZN ?_|refine ZK (fun b=>?_)|refine ZM (fun b=>?_)|refine ZC ?_|refine ZA ?_|refine ZO ?_|refine ZD (n1') (fun _ _=>?_)|refine l_call0 (n1') (fun _ _=>?_)|refine ZD (n2) (fun _ _=>?_)|refine l_call0 (n2) (fun _ _=>?_)|(refine ZB (fun hc=>?_) (fun hc=>?_)<;>(try simp at hc)<;>(try omega))|(refine ZE (fun hc=>?_) (fun hc=>?_)<;>(try simp at hc)<;>(try omega)))
    all_goals (rename_i qq _;exact ZP qq rfl trivial)
 ·rw [if_pos (.inl he)] at hy
  subst hy
  cases tk with
  | nil=>
   have n1':=YL bp l o cap en op e cl k hk
   repeat' (first|refine ZF ?_|refine ZI ?_|refine ZG ?_|refine ZH ?_|refine ZL ?_|refine ZJ ?_|refine ZN ?_|refine ZK (fun b=>?_)|refine ZM (fun b=>?_)|refine ZC ?_|refine ZA ?_|refine ZO ?_|refine ZD (n1') (fun _ _=>?_)|refine l_call0 (n1') (fun _ _=>?_)|refine ZD (n2) (fun _ _=>?_)|refine l_call0 (n2) (fun _ _=>?_)|(refine ZB (fun hc=>?_) (fun hc=>?_)<;>(try simp at hc)<;>(try omega))|(refine ZE (fun hc=>?_) (fun hc=>?_)<;>(try simp at hc)<;>(try omega)))
   all_goals (rename_i qq _;exact ZP qq rfl trivial)
  | cons t ts=>
   have n1':=YN bp l o cap t ts en op e cl k hk
   repeat' (first|refine ZF ?_|refine ZI ?_|refine ZG ?_|refine ZH ?_|refine ZL ?_|refine ZJ ?_|refine ZN ?_|refine ZK (fun b=>?_)|refine ZM (fun b=>?_)|refine ZC ?_|refine ZA ?_|refine ZO ?_|refine ZD (n1') (fun _ _=>?_)|refine l_call0 (n1') (fun _ _=>?_)|refine ZD (n2) (fun _ _=>?_)|refine l_call0 (n2) (fun _ _=>?_)|(refine ZB (fun hc=>?_) (fun hc=>?_)<;>(try simp at hc)<;>(try omega))|(refine ZE (fun hc=>?_) (fun hc=>?_)<;>(try simp at hc)<;>(try omega)))
   all_goals (rename_i qq _;exact ZP qq rfl trivial)
end
variable {n:Nat} {C:Cx} {Q:Exit→Act→World→Prop} {E E':List (Nat×Value)} {F F' F1 Fs F0:List Pf} {R R' R0 Rs N N' A:List HP} {k k':List Fr} {ops l:List Oper} {L L':List (Nat×Nat)} {Tl:List Nat} {i d:Nat} {t ty0:TypeId} {x y:Operand} {pos:String} {aft:Array Edge} {gd:Option (Nat×Bool)}
section
variable {t2:TypeId} {z:Operand}
theorem l_rngS {s:ByteArray} {rs:TRow} (nx:∀it,Wl n C ops.toArray k Q l ((d,.pointer (some ⟨it,0,none⟩))::E) F (Pt it (.stringIter s 0)::R)) (hw:wantL ops E ⟨some d,.range t x,ty0,pos,aft,gd⟩=some true:=by rfl) (hn:Nat.blt d n=true:=by rfl)
  (hx:ev E x=some (.string s):=by rfl) (hts:lookT tab t=some rs:=by rfl) (hrs:rs.k = .str:=by rfl):Wl n C ops.toArray k Q (⟨some d,.range t x,ty0,pos,aft,gd⟩::l) E F R:=
 YO (fun t ht=>by cases ht;exact Nat.le_of_ble_eq_true hn) (fun c hc=>by cases hc) hw fun a w ha hsat=>by
  have hu:=XU (w:=w) hts hrs
  have hno:(newObj (.stringIter s 0)).run prog w = .ok w.heap.size (w.alloc (.stringIter s 0)):=rfl
  unfold OpRes
  simp only [execOp,ha.ev (x:=x) (by rw [ZS];exact hx),Instr.range,Sem.run_bind,hu,Result.andThen,Sem.run_pure,hno]
  exact fun a' ha'=>nx w.heap.size a' _ ha' (hsat.alloc (.stringIter s 0))
theorem l_nxtS {s:ByteArray} {it p:Nat} (nx1:p<s.size→Wl n C ops.toArray k Q l ((d,.tuple #[.bool true,.int .i64 (p:Int),.int .i32 ((Utf8.decode s p).1:Int)])::E) F (Pt it (.stringIter s (p+(Utf8.decode s p).2))::R0)) (nx2:¬p<s.size→Wl n C ops.toArray k Q l ((d,.tuple #[.bool false])::E) F (Pt it (.stringIter s p)::R0))
  (hw:wantL ops E ⟨some d,.next x true,ty0,pos,aft,gd⟩=some true:=by rfl) (hn:Nat.blt d n=true:=by rfl) (hx:ev E x=some (.pointer (some ⟨it,0,none⟩)):=by rfl)
  (hs:Sel (Pt it (.stringIter s p)) R R0:=by (repeat (first|exact Sel.here|apply Sel.there));first|done|fail):Wl n C ops.toArray k Q (⟨some d,.next x true,ty0,pos,aft,gd⟩::l) E F R:=
 YO (fun t ht=>by cases ht;exact Nat.le_of_ble_eq_true hn) (fun c hc=>by cases hc) hw fun a w ha hsat=>by
  have h1:=hsat.sel hs
  have hb:=h1.pt Sel.here
  have hg:(getObj it).run prog w = .ok (.stringIter s p) w:=by simp [getObj,Sem.run,hb]
  have hset:∀o,(setObj it o).run prog w = .ok () {w with heap:=w.heap.setIfInBounds it o}:=fun o=>by simp [setObj,Sem.run,hb]
  unfold OpRes
  by_cases hp:p<s.size
  ·simp only [execOp,ha.ev (x:=x) (by rw [ZS];exact hx),Instr.next,Sem.run_bind,hg,Result.andThen,if_pos hp,hset,Sem.run_pure,goInt]
   exact fun a' ha'=>nx1 hp a' _ ha' (Xw h1)
  ·simp only [execOp,ha.ev (x:=x) (by rw [ZS];exact hx),Instr.next,Sem.run_bind,hg,Result.andThen,if_neg hp,Sem.run_pure]
   exact fun a' ha'=>nx2 hp a' _ ha' h1
theorem l_nxtT {s:ByteArray} {it p c b:Nat} (hp:p<s.size) (hd:Utf8.decode s p=(c,b)) (nx:Wl n C ops.toArray k Q l ((d,.tuple #[.bool true,.int .i64 (p:Int),.int .i32 (c:Int)])::E) F (Pt it (.stringIter s (p+b))::R0))
  (hw:wantL ops E ⟨some d,.next x true,ty0,pos,aft,gd⟩=some true:=by rfl) (hn:Nat.blt d n=true:=by rfl) (hx:ev E x=some (.pointer (some ⟨it,0,none⟩)):=by rfl)
  (hs:Sel (Pt it (.stringIter s p)) R R0:=by (repeat (first|exact Sel.here|apply Sel.there));first|done|fail):Wl n C ops.toArray k Q (⟨some d,.next x true,ty0,pos,aft,gd⟩::l) E F R:=
 l_nxtS (fun _=>by rw [hd];exact nx) (fun h=>absurd hp h) hw hn hx hs
theorem l_nxtE {s:ByteArray} {it p:Nat} (hp:¬p<s.size) (nx:Wl n C ops.toArray k Q l ((d,.tuple #[.bool false])::E) F (Pt it (.stringIter s p)::R0))
  (hw:wantL ops E ⟨some d,.next x true,ty0,pos,aft,gd⟩=some true:=by rfl) (hn:Nat.blt d n=true:=by rfl) (hx:ev E x=some (.pointer (some ⟨it,0,none⟩)):=by rfl)
  (hs:Sel (Pt it (.stringIter s p)) R R0:=by (repeat (first|exact Sel.here|apply Sel.there));first|done|fail):Wl n C ops.toArray k Q (⟨some d,.next x true,ty0,pos,aft,gd⟩::l) E F R:=
 l_nxtS (fun h=>absurd h hp) (fun _=>nx) hw hn hx hs
theorem l_i2s {z:Int} {rs rd:TRow} (nx:Wl n C ops.toArray k Q l ((d,.string (Utf8.encode z))::E) F R) (hw:wantL ops E ⟨some d,.convert t t2 x,ty0,pos,aft,gd⟩=some true:=by rfl) (hn:Nat.blt d n=true:=by rfl)
  (hx:ev E x=some (.int .i32 z):=by rfl) (hts:lookT tab t=some rs:=by rfl) (hrs:rs.k = .int .i32:=by rfl) (htd:lookT tab t2=some rd:=by rfl) (hrd:rd.k = .str:=by rfl):Wl n C ops.toArray k Q (⟨some d,.convert t t2 x,ty0,pos,aft,gd⟩::l) E F R:=
 l_q (fun a w ha=>by
  obtain ⟨d1,hd1,hk1⟩:=Zt.und hts
  rw [hrs] at hk1
  cases d1<;>simp [chkKind] at hk1
  subst hk1
  obtain ⟨d2,hd2,hk2⟩:=Zt.und htd
  rw [hrd] at hk2
  cases d2<;>simp [chkKind] at hk2
  have hu1:(underlying t).run prog w = .ok (.int .i32) w:=by simp [underlying,hd1,go_sem]
  have hu2:(underlying t2).run prog w = .ok .string w:=by simp [underlying,hd2,go_sem]
  have e0:=ha.ev (x:=x) (by rw [ZS];exact hx)
  simp only [execOp,e0,convert,Sem.run_bind,hu1,hu2,Result.andThen,Conv.intToString,Sem.run_pure]) nx (by intro c h;cases h) hw hn
end
theorem get_list {s:ByteArray} {p:Nat} (h:p<s.size):s.data.toList[p]? = some (s.get! p):=by
 have hs:s.data.size=s.size:=rfl
 have e:s.get! p=s.data[p]'(by omega):=by
  show s.data[p]! = _
  rw [getElem!_pos]
 rw [e]
 simp [hs,h]
theorem dec_asc {s:ByteArray} {p:Nat} (h:(s.get! p).toNat<128):Utf8.decode s p=((s.get! p).toNat,1):=by
 simp only [Utf8.decode,Nat.add_zero,h,if_true]
theorem dec_non {s:ByteArray} {p:Nat} (hp:p<s.size) (h:128≤(s.get! p).toNat):128≤(Utf8.decode s p).1∧(Utf8.decode s p).1<1114112∧1≤(Utf8.decode s p).2∧p+(Utf8.decode s p).2≤s.size∧(∀j,p≤j→j<p+(Utf8.decode s p).2→128≤(s.get! j).toNat)∧((Utf8.decode s p).1=65533∨Utf8.valid ((Utf8.decode s p).1:Int)=true):=by
 have hc:∀k,(decide (p+k<s.size) && (s.get! (p+k)).toNat / 64 == 2)=true→p+k<s.size∧128≤(s.get! (p+k)).toNat:=fun k hk=>by
  simp only [Bool.and_eq_true,decide_eq_true_eq,beq_iff_eq] at hk
  exact ⟨hk.1,by omega⟩
 have one:128≤Utf8.runeError∧Utf8.runeError<1114112∧1≤1∧p+1≤s.size∧(∀j,p≤j→j<p+1→128≤(s.get! j).toNat)∧(Utf8.runeError=65533∨Utf8.valid (Utf8.runeError:Int)=true):=
  ⟨by decide,by decide,Nat.le_refl _,by omega,fun j h1 h2=>(by have e:j=p:=(by omega);rw [e];exact h),.inl rfl⟩
 simp only [Utf8.decode,Nat.add_zero]
 rw [if_neg (by omega)]
 split
 ·rename_i h2
  simp only [Bool.and_eq_true,beq_iff_eq] at h2
  have c1:=hc 1 (by simp [h2.2])
  split
  ·rename_i h3
   refine ⟨by omega,by omega,by omega,by omega,fun j h4 h5=>?_,.inr ?_⟩
   ·rcases (show j=p∨j=p+1 by omega) with rfl|rfl
    ·exact h
    ·exact c1.2
   ·simp [Utf8.valid];omega
  ·exact one
 ·split
  ·rename_i h2
   simp only [Bool.and_eq_true,beq_iff_eq] at h2
   have c1:=hc 1 (by simp [h2.1.2])
   have c2:=hc 2 (by simp [h2.2])
   split
   ·rename_i h3
    simp only [Bool.and_eq_true,decide_eq_true_eq] at h3
    refine ⟨by omega,by omega,by omega,by omega,fun j h4 h5=>?_,.inr h3.2⟩
    rcases (show j=p∨j=p+1∨j=p+2 by omega) with rfl|rfl|rfl
    ·exact h
    ·exact c1.2
    ·exact c2.2
   ·exact one
  ·split
   ·rename_i h2
    simp only [Bool.and_eq_true,beq_iff_eq] at h2
    have c1:=hc 1 (by simp [h2.1.1.2])
    have c2:=hc 2 (by simp [h2.1.2])
    have c3:=hc 3 (by simp [h2.2])
    split
    ·rename_i h3
     simp only [Bool.and_eq_true,decide_eq_true_eq] at h3
     have hv:=h3.2
     simp only [Utf8.valid,Bool.or_eq_true,Bool.and_eq_true,decide_eq_true_eq] at hv
     refine ⟨by omega,by omega,by omega,by omega,fun j h4 h5=>?_,.inr h3.2⟩
     rcases (show j=p∨j=p+1∨j=p+2∨j=p+3 by omega) with rfl|rfl|rfl|rfl
     ·exact h
     ·exact c1.2
     ·exact c2.2
     ·exact c3.2
    ·exact one
   ·exact one
theorem Yj {P:Program} {b:Frame} {a:Act} {k:List Item} {cs:List Frame} {w:World} {c:Code}:step P (lone (b.atR a (.code (.scope c)::k)) cs w) = .next (lone (b.atR a (.code c::.inScope c::k)) cs w):=
 step_lone_go (by simp [stepG,stepG.exec,Frame.atR])
theorem stepR_inScope {P:Program} {b:Frame} {a:Act} {k:List Item} {cs:List Frame} {w:World} {c:Code}:step P (lone (b.atR a (.inScope c::k)) cs w) = .next (lone (b.atR a k) cs w):=
 step_lone_go (by simp [stepG,stepG.exec,Frame.atR])
theorem wpIn_scope {F:Fence} {n:Nat} {P:Program} {Q:Exit→Act→World→Prop} {a:Act} {w:World} {c:Code} (h:c.wpIn F n P (Exit.noGoto Q) a w):(Code.scope c).wpIn F n P Q a w:=by
 intro b k cs hro hb hr
 have h0:(lone (b.atR a (.code (.scope c)::k)) cs w).fenced P F:=fenced_calm hb hr rfl
 obtain ⟨e,a₁,w₁,hq,harr⟩:=h b (.inScope c::k) cs hro hb hr
 cases e with
 | normal=>exact ⟨.normal,a₁,w₁,hq,.head h0 Yj (StepsIn.trans harr (.one (fenced_calm hb hr rfl) stepR_inScope))⟩
 | exit id'=>
  have hx:exitTo id' (.inScope c::k)=exitTo id' k:=by simp [exitTo]
  exact ⟨.exit id',a₁,w₁,hq,fun k' hk=>.head h0 Yj (harr.1 k' (by rw [hx];exact hk)),
   fun hr' hk=>let ⟨k₁,h1,h2⟩:=harr.2 hr' (by rw [hx];exact hk);⟨k₁,h1,.head h0 Yj h2⟩⟩
 | goto l=>exact hq.elim
 | ret=>exact ⟨_,a₁,w₁,hq,.of_steps (.one h0 Yj) harr⟩
 | panic ch=>exact ⟨_,a₁,w₁,hq,.of_steps (.one h0 Yj) harr⟩
 | outgrown=>exact ⟨_,a₁,w₁,hq,.of_steps (.one h0 Yj) harr⟩
theorem k_scope {n:Nat} {C:Cx} {Q:Exit→Act→World→Prop} {E:List (Nat×Value)} {F:List Pf} {R:List HP} {k k':List Fr} {c:Code} (t:Wk n C (.c c::k') Q E F R) (h:nf 1000 k = .c (.scope c)::k':=by rfl) (hg:∀l a w,¬after C.r k' Q (.goto l) a w:=by (intro _ _ _ h;exact h)):Wk n C k Q E F R:=fun a w ha hs=>Yp 1000 k (by
 rw [h]
 refine wpIn_scope (wpIn_mono (t a w ha hs) ?_)
 intro e a' w' hx
 cases e with
 | goto l=>exact absurd hx (hg l a' w')
 | _=>exact hx)
end Go.Proofs.YtodkipbnefngkaaGreatDoor
set_option maxRecDepth 10000
namespace Go.Proofs
open Go.Shelf
def Tryz.lays119_ren:Go.Shelf.Ren:=⟨fun|119=>118|n=>n,fun|21=>21|4=>4|n=>n,fun|n=>n⟩
theorem Tryz.lays119:Go.Proofs.Lays.n119 Tryz.prog Tryz.lays119_ren:={
 mixed:=by kernel_rfl
 f119:=Tryz.func118.trans (congrArg some (by kernel_rfl))
 t4:=Tryz.underlying4
 a4:=Tryz.isAgg4
 z4:=Tryz.sizeOf4
 v4:=Tryz.zeroValue4
 t21:=Tryz.underlying21
 a21:=Tryz.isAgg21
 z21:=Tryz.sizeOf21
 v21:=Tryz.zeroValue21}
end Go.Proofs
namespace Go.Proofs.YtodkipbnefngkaaGreatDoor
open Go.Proofs.Tryz
open Go.RowKit
def brS:ByteArray:=⟨#[123,125]⟩
def ixR (c:Nat):Int:=if c=123 then 0 else if c=125 then 1 else -1
theorem validRune_ok (c:Nat) (hv:Utf8.valid c=true):Enters 118∧Spec prog 118 #[.int .i32 (c:Int)] [] [] (RetV (.bool true)):=by
 refine ⟨enters_of func118 (by kernel_rfl) rfl,fun G w hp hs=>?_⟩
 refine (Any.utf8_ValidRune Tryz.lays119 (c:Int) w).mono ?_
 rintro e w' ⟨rfl,rfl⟩
 have h:Lib.validRune (c:Int)=true:=by
  simp only [Utf8.valid,Bool.or_eq_true,Bool.and_eq_true,decide_eq_true_eq] at hv
  unfold Lib.validRune
  rw [decide_eq_true_eq];omega
 rw [h]
 exact ⟨(),rfl,trivial,hs⟩
theorem u8of {c:Nat} (h:c<256):(UInt8.ofNat c).toNat=c:=by simp;omega
set_option maxHeartbeats 1000000 in
theorem indexRune_asc (c:Nat) (hc0:c<128):Enters 87∧Spec prog 87 #[.string brS,.int .i32 (c:Int)] [] [] (RetV (.int .i64 (ixR c))):=by
 have n1:=Ys brS (UInt8.ofNat c)
 have w1:IntKind.u8.wrap (c:Int)=((UInt8.ofNat c).toNat:Int):=by
  rw [u8of (by omega),wrap_u8];omega
 have e:ixR c=Lib.indexByte brS.data.toList (UInt8.ofNat c):=by
  have e1:brS.data.toList=[123,125]:=rfl
  have h1:(123 == UInt8.ofNat c)=decide (c=123):=by
   rw [Bool.eq_iff_iff];simp only [beq_iff_eq,decide_eq_true_eq,←UInt8.toNat_inj,u8of (show c<256 by omega)];constructor<;>(intro h;simpa using h.symm)
  have h2:(125 == UInt8.ofNat c)=decide (c=125):=by
   rw [Bool.eq_iff_iff];simp only [beq_iff_eq,decide_eq_true_eq,←UInt8.toNat_inj,u8of (show c<256 by omega)];constructor<;>(intro h;simpa using h.symm)
  rw [e1]
  unfold ixR
  simp only [Lib.indexByte,h1,h2,decide_eq_true_eq]
  split
  ·rfl
  ·split<;>rfl
 rw [e]
 refine ZR [_,_] func87 ntmps87 fun G w hp=>?_
 repeat' (first|refine ZF ?_|refine ZI ?_|refine ZG ?_|refine ZH ?_|refine ZL ?_|refine ZJ ?_|refine ZN ?_|refine ZK (fun b=>?_)|refine ZM (fun b=>?_)|refine ZC ?_|refine ZA ?_|refine ZO ?_|refine ZD (n1) (fun _ _=>?_)|refine l_call0 (n1) (fun _ _=>?_)|rw [w1]|(refine ZB (fun hc=>?_) (fun hc=>?_)<;>(try simp at hc)<;>(try omega))|(refine ZE (fun hc=>?_) (fun hc=>?_)<;>(try simp at hc)<;>(try omega)))
 exact ZP () rfl trivial
theorem dec_br0:Utf8.decode brS 0=(123,1):=dec_asc (s:=brS) (p:=0) (by decide)
theorem dec_br1:Utf8.decode brS 1=(125,1):=dec_asc (s:=brS) (p:=1) (by decide)
set_option maxHeartbeats 1000000 in
theorem indexRune_err:Enters 87∧Spec prog 87 #[.string brS,.int .i32 65533] [] [] (RetV (.int .i64 (-1))):=by
 refine ZR [_,_] func87 ntmps87 fun G w hp=>?_
 repeat' (first|refine l_rngS (fun it=>?_)|refine ZF ?_|refine ZI ?_|refine ZG ?_|refine ZH ?_|refine ZL ?_|refine ZJ ?_|refine ZN ?_|refine ZK (fun b=>?_)|refine ZM (fun b=>?_)|refine ZC ?_|refine ZA ?_|(refine ZB (fun hc=>?_) (fun hc=>?_)<;>(try simp at hc)<;>(try omega))|(refine ZE (fun hc=>?_) (fun hc=>?_)<;>(try simp at hc)<;>(try omega)))
 refine YK (X:={p:Nat // p≤2}) (fun _=>[(0,.string brS),(175,.pointer (some ⟨it,0,none⟩))]) (fun _=>[]) (fun p=>[Pt it (.stringIter brS p.1)]) (fun p=>2 - p.1) ⟨0,by decide⟩ ⟨rfl,rfl,trivial⟩ ?_
 rintro ⟨p,hp⟩
 dsimp only
 rcases (show p=0∨p=1∨p=2 by omega) with rfl|rfl|rfl
 ·repeat' (first|refine l_nxtT (c:=123) (b:=1) (by decide) dec_br0 ?_|refine ZF ?_|refine ZI ?_|refine ZG ?_|refine ZH ?_|refine ZL ?_|refine ZJ ?_|refine ZN ?_|refine ZK (fun b=>?_)|refine ZM (fun b=>?_)|refine ZC ?_|refine ZA ?_|(refine ZB (fun hc=>?_) (fun hc=>?_)<;>(try simp at hc)<;>(try omega))|(refine ZE (fun hc=>?_) (fun hc=>?_)<;>(try simp at hc)<;>(try omega)))
  exact ZV ⟨1,by decide⟩ (by show 2 - 1<2 - 0;decide) ⟨rfl,rfl,trivial⟩
 ·repeat' (first|refine l_nxtT (c:=125) (b:=1) (by decide) dec_br1 ?_|refine ZF ?_|refine ZI ?_|refine ZG ?_|refine ZH ?_|refine ZL ?_|refine ZJ ?_|refine ZN ?_|refine ZK (fun b=>?_)|refine ZM (fun b=>?_)|refine ZC ?_|refine ZA ?_|(refine ZB (fun hc=>?_) (fun hc=>?_)<;>(try simp at hc)<;>(try omega))|(refine ZE (fun hc=>?_) (fun hc=>?_)<;>(try simp at hc)<;>(try omega)))
  exact ZV ⟨2,by decide⟩ (by show 2 - 2<2 - 1;decide) ⟨rfl,rfl,trivial⟩
 ·repeat' (first|refine l_nxtE (s:=brS) (p:=2) (by decide) ?_|refine ZF ?_|refine ZI ?_|refine ZG ?_|refine ZH ?_|refine ZL ?_|refine ZJ ?_|refine ZN ?_|refine ZK (fun b=>?_)|refine ZM (fun b=>?_)|refine ZC ?_|refine ZA ?_|refine ZO ?_|(refine ZB (fun hc=>?_) (fun hc=>?_)<;>(try simp at hc)<;>(try omega))|(refine ZE (fun hc=>?_) (fun hc=>?_)<;>(try simp at hc)<;>(try omega)))
  exact ZP () rfl trivial
theorem lsz (s:ByteArray):s.data.toList.length=s.size:=by show _=s.data.size;simp
theorem enc_big {c:Nat} (h1:128≤c) (h2:Utf8.valid c=true):2≤(Utf8.encode c).size∧(Utf8.encode c).size≤4∧∀x ∈ (Utf8.encode c).data.toList,128≤x.toNat:=by
 have hv:(if Utf8.valid (c:Int)=true then (c:Int).toNat else Utf8.runeError)=c:=by rw [if_pos h2];simp
 have hc:c≤1114111:=by
  simp only [Utf8.valid,Bool.or_eq_true,Bool.and_eq_true,decide_eq_true_eq] at h2;omega
 have hb:∀k,128≤k→k<256→128≤(UInt8.ofNat k).toNat:=fun k h3 h4=>by rw [u8of h4];exact h3
 unfold Utf8.encode
 dsimp only
 rw [hv,if_neg (by omega)]
 split
 ·refine ⟨Nat.le_of_ble_eq_true rfl,Nat.le_of_ble_eq_true rfl,fun x hx=>?_⟩
  simp only [List.mem_cons,List.not_mem_nil,or_false] at hx
  rcases hx with rfl|rfl
  ·exact hb _ (by omega) (by omega)
  ·exact hb _ (by omega) (by omega)
 ·split
  ·refine ⟨Nat.le_of_ble_eq_true rfl,Nat.le_of_ble_eq_true rfl,fun x hx=>?_⟩
   simp only [List.mem_cons,List.not_mem_nil,or_false] at hx
   rcases hx with rfl|rfl|rfl
   ·exact hb _ (by omega) (by omega)
   ·exact hb _ (by omega) (by omega)
   ·exact hb _ (by omega) (by omega)
  ·refine ⟨Nat.le_of_ble_eq_true rfl,Nat.le_of_ble_eq_true rfl,fun x hx=>?_⟩
   simp only [List.mem_cons,List.not_mem_nil,or_false] at hx
   rcases hx with rfl|rfl|rfl|rfl
   ·exact hb _ (by omega) (by omega)
   ·exact hb _ (by omega) (by omega)
   ·exact hb _ (by omega) (by omega)
   ·exact hb _ (by omega) (by omega)
set_option maxHeartbeats 2000000 in
set_option maxRecDepth 100000 in
theorem indexRune_big (c:Nat) (h1:128≤c) (h2:Utf8.valid c=true) (h3:c≠65533):Enters 87∧Spec prog 87 #[.string brS,.int .i32 (c:Int)] [] [] (RetV (.int .i64 (-1))):=by
 have n1:=validRune_ok c h2
 obtain ⟨e1,e2,e3⟩:=enc_big h1 h2
 have hsz:=lsz (Utf8.encode c)
 generalize hnd:Utf8.encode (c:Int)=nd at *
 have sb:brS.size=2:=rfl
 have hb1:((c:Int) == 65533)=false:=by rw [beq_eq_false_iff_ne];omega
 by_cases s2:nd.size=2
 ·have w1:IntKind.i64.wrap ((nd.size:Int) - 1)=1:=by rw [s2];decide
  have hx:=List.getElem?_eq_getElem (show 1<nd.data.toList.length by omega)
  have hx3:=e3 _ (List.getElem_mem (show 1<nd.data.toList.length by omega))
  generalize nd.data.toList[1]=x at *
  have n2:Enters 24∧Spec prog 24 #[.string ⟨#[]⟩,.int .u8 x.toNat] [] [] (RetV (.int .i64 (-1))):=Ys ⟨#[]⟩ x
  have w2:IntKind.i64.wrap (1+1)=2:=by decide
  have hne:¬(125:Int)=(x.toNat:Int):=by omega
  refine ZR [_,_] func87 ntmps87 fun G w hp=>?_
  repeat' (first|rw [hb1]|refine k_scope ?_|refine l_i2s (z:=(c:Int)) ?_|refine ZF ?_|refine ZI ?_|refine ZG ?_|refine ZH ?_|refine ZL ?_|refine ZJ ?_|refine ZN ?_|refine ZK (fun b=>?_)|refine ZM (fun b=>?_)|refine ZC ?_|refine ZA ?_|refine ZD (n1) (fun _ _=>?_)|refine l_call0 (n1) (fun _ _=>?_)|rw [hnd]|rw [w1]|(refine ZB (fun hc=>?_) (fun hc=>?_)<;>(try simp at hc)<;>(try omega))|(refine ZE (fun hc=>?_) (fun hc=>?_)<;>(try simp at hc)<;>(try omega)))
  refine YK (X:=Unit) (fun _=>[(0,.string brS),(7,.string nd),(8,.int .i64 1),(9,.int .i64 1),(10,.int .i64 0)]) (fun _=>[]) (fun _=>[]) (fun _=>0) () ⟨rfl,rfl,rfl,rfl,rfl,trivial⟩ ?_
  rintro ⟨⟩
  repeat' (first|refine k_scope ?_|refine ZF ?_|refine ZI ?_|refine ZG ?_|refine ZH ?_|refine ZL ?_|refine ZJ ?_|refine ZN ?_|refine ZK (fun b=>?_)|refine ZM (fun b=>?_)|refine ZC ?_|refine ZA ?_|refine ZO ?_|refine Zb ?_|refine Zc ?_|refine Zq ?_|refine Zd ?_|refine r_ldN ?_|refine Zr (fun b=>?_)|refine Zo (fun b=>?_)|refine Zp ?_|refine Za ?_|refine ZD (n2) (fun _ _=>?_)|refine l_call0 (n2) (fun _ _=>?_)|refine ZQ (n2) (fun _ _=>?_)|refine YQ (n2) (fun _ _=>?_)|refine Xi (s:=brS) 1 125 rfl ?_|refine Xi (s:=nd) 1 x hx ?_|refine r_sEnd (s:=brS) (u:=⟨#[]⟩) 2 (by decide) rfl ?_|rw [w2]|(refine ZB (fun hc=>?_) (fun hc=>?_)<;>(try simp at hc)<;>(try omega))|(refine ZU (fun hc=>?_) (fun hc=>?_)<;>(try simp at hc)<;>(try omega))|refine ZT 6 [] [(0,0),(1,0),(2,0),(3,0),(4,0),(5,0),(6,0)] [] ?_|refine ZT 7 [] [(0,0),(1,0),(2,0),(3,0),(4,0),(5,0),(6,0),(7,5),(8,0)] [] ?_|(refine ZE (fun hc=>?_) (fun hc=>?_)<;>(try simp at hc)<;>(try omega)))
  first|exact ZP () rfl trivial|exact Zv (Zu (Zi () rfl trivial))
 ·have w1:=wrapi (z:=(nd.size:Int) - 1) (by omega) (by omega)
  refine ZR [_,_] func87 ntmps87 fun G w hp=>?_
  repeat' (first|rw [hb1]|refine k_scope ?_|refine l_i2s (z:=(c:Int)) ?_|refine ZF ?_|refine ZI ?_|refine ZG ?_|refine ZH ?_|refine ZL ?_|refine ZJ ?_|refine ZN ?_|refine ZK (fun b=>?_)|refine ZM (fun b=>?_)|refine ZC ?_|refine ZA ?_|refine ZD (n1) (fun _ _=>?_)|refine l_call0 (n1) (fun _ _=>?_)|rw [hnd]|rw [w1]|(refine ZB (fun hc=>?_) (fun hc=>?_)<;>(try simp at hc)<;>(try omega))|(refine ZE (fun hc=>?_) (fun hc=>?_)<;>(try simp at hc)<;>(try omega)))
  refine YK (X:=Unit) (fun _=>[(0,.string brS),(7,.string nd),(8,.int .i64 ((nd.size:Int) - 1)),(9,.int .i64 ((nd.size:Int) - 1)),(10,.int .i64 0)]) (fun _=>[]) (fun _=>[]) (fun _=>0) () ⟨rfl,rfl,rfl,rfl,rfl,trivial⟩ ?_
  rintro ⟨⟩
  repeat' (first|refine ZF ?_|refine ZI ?_|refine ZG ?_|refine ZH ?_|refine ZL ?_|refine ZJ ?_|refine ZN ?_|refine ZK (fun b=>?_)|refine ZM (fun b=>?_)|refine ZC ?_|refine ZA ?_|refine ZO ?_|(refine ZB (fun hc=>?_) (fun hc=>?_)<;>(try simp at hc)<;>(try omega))|(refine ZE (fun hc=>?_) (fun hc=>?_)<;>(try simp at hc)<;>(try omega)))
  exact ZP () rfl trivial
end Go.Proofs.YtodkipbnefngkaaGreatDoor
set_option maxRecDepth 10000
namespace Go.Proofs
open Go.Shelf
def Tryz.lays153_ren:Go.Shelf.Ren:=⟨fun|153=>63|152=>87|226=>88|227=>89|228=>90|137=>24|119=>118|224=>119|225=>120|217=>48|266=>74|n=>n,fun|9=>9|3=>3|4=>4|5=>5|21=>21|117=>158|116=>157|0=>0|46=>118|124=>181|n=>n,fun|n=>n⟩
theorem Tryz.lays153:Go.Proofs.Lays.n153 Tryz.prog Tryz.lays153_ren:={
 mixed:=by kernel_rfl
 f119:=Tryz.func118.trans (congrArg some (by kernel_rfl))
 f137:=Tryz.func24.trans (congrArg some (by kernel_rfl))
 f152:=Tryz.func87.trans (congrArg some (by kernel_rfl))
 f153:=Tryz.func63.trans (congrArg some (by kernel_rfl))
 f217:=Tryz.func48.trans (congrArg some (by kernel_rfl))
 f224:=Tryz.func119.trans (congrArg some (by kernel_rfl))
 f225:=Tryz.func120.trans (congrArg some (by kernel_rfl))
 f226:=Tryz.func88.trans (congrArg some (by kernel_rfl))
 f227:=Tryz.func89.trans (congrArg some (by kernel_rfl))
 f228:=Tryz.func90.trans (congrArg some (by kernel_rfl))
 f266:=Tryz.func74.trans (congrArg some (by kernel_rfl))
 t0:=Tryz.underlying0
 a0:=Tryz.isAgg0
 z0:=Tryz.sizeOf0
 v0:=Tryz.zeroValue0
 t3:=Tryz.underlying3
 a3:=Tryz.isAgg3
 z3:=Tryz.sizeOf3
 v3:=Tryz.zeroValue3
 t4:=Tryz.underlying4
 a4:=Tryz.isAgg4
 z4:=Tryz.sizeOf4
 v4:=Tryz.zeroValue4
 t5:=Tryz.underlying5
 a5:=Tryz.isAgg5
 z5:=Tryz.sizeOf5
 v5:=Tryz.zeroValue5
 t9:=Tryz.underlying9
 a9:=Tryz.isAgg9
 z9:=Tryz.sizeOf9
 v9:=Tryz.zeroValue9
 t21:=Tryz.underlying21
 a21:=Tryz.isAgg21
 z21:=Tryz.sizeOf21
 v21:=Tryz.zeroValue21
 t46:=Tryz.underlying118
 a46:=Tryz.isAgg118
 z46:=Tryz.sizeOf118
 v46:=Tryz.zeroValue118
 t116:=Tryz.underlying157
 a116:=Tryz.isAgg157
 z116:=Tryz.sizeOf157
 t117:=Tryz.underlying158
 a117:=Tryz.isAgg158
 z117:=Tryz.sizeOf158
 v117:=Tryz.zeroValue158
 t124:=Tryz.underlying181
 a124:=Tryz.isAgg181
 z124:=Tryz.sizeOf181
 v124:=Tryz.zeroValue181}
end Go.Proofs
namespace Go.Proofs.YtodkipbnefngkaaGreatDoor
open Go.Proofs.Tryz
open Go.RowKit
def ixB (l:List UInt8):Int:=if spanF (fun x=>!isBr x) l=l.length then -1 else (spanF (fun x=>!isBr x) l:Int)
theorem br_con (b:UInt8):([123,125]:List UInt8).contains b=isBr b:=by
 unfold isBr
 simp only [List.contains_cons,List.contains_nil,Bool.or_false]
theorem ixB_any:∀l:List UInt8,Lib.indexAny l [123,125]=ixB l
 | []=>by simp [Lib.indexAny,ixB,spanF]
 | b::l=>by
  have ih:=ixB_any l
  have hle:=YB (fun x=>!isBr x) l
  rw [Lib.indexAny,br_con,ih]
  unfold ixB
  by_cases hb:isBr b=true
  ·rw [if_pos hb]
   have:spanF (fun x=>!isBr x) (b::l)=0:=by simp [spanF,hb]
   rw [this,if_neg (by simp)];rfl
  ·rw [if_neg hb]
   have hs:spanF (fun x=>!isBr x) (b::l)=spanF (fun x=>!isBr x) l+1:=by simp [spanF,hb]
   rw [hs,List.length_cons]
   by_cases h2:spanF (fun x=>!isBr x) l=l.length
   ·simp [h2]
   ·have e1:((spanF (fun x=>!isBr x) l:Int) == -1)=false:=by rw [beq_eq_false_iff_ne];omega
    rw [if_neg h2,e1]
    simp [h2]
theorem shouldASCII_ok (n:Int):Enters 88∧Spec prog 88 #[.int .i64 n] [] [] (RetV (.bool (decide (8<n)))):=by
 refine ZR [_] func88 ntmps88 fun G w hp=>?_
 repeat' (first|refine ZF ?_|refine ZI ?_|refine ZG ?_|refine ZH ?_|refine ZL ?_|refine ZJ ?_|refine ZN ?_|refine ZK (fun b=>?_)|refine ZM (fun b=>?_)|refine ZC ?_|refine ZA ?_|refine ZO ?_|(refine ZB (fun hc=>?_) (fun hc=>?_)<;>(try simp at hc))|(refine ZE (fun hc=>?_) (fun hc=>?_)<;>(try simp at hc)))
 exact ZP () rfl trivial
theorem as116:(prog.info? 157).map (fun i=>(i.zero,i.size))=some (some (.agg (Array.replicate 256 (.bool false))),256):=by kernel_rfl
theorem indexAny_long (s:ByteArray) (h8:8<s.size) (hs:s.size≤1000000):Enters 63∧Spec prog 63 #[.string s,.string brS] [] [] (RetV (.int .i64 (ixB s.data.toList))):=by
 refine ⟨enters_of func63 (by kernel_rfl) rfl,fun G w hp hs'=>?_⟩
 have h1:=as116
 have hv:∀w,(zeroValue 157).run prog w = .ok (.agg (Array.replicate 256 (.bool false))) w:=fun w=>by
  obtain ⟨i,hi,he⟩:=Option.map_eq_some_iff.1 h1
  simp [zeroValue,typeInfo,hi,(Prod.mk.inj he).1,go_sem]
 have hz:(prog.info? 157).map (·.size)=some 256:=by
  obtain ⟨i,hi,he⟩:=Option.map_eq_some_iff.1 h1
  rw [hi];exact congrArg some (Prod.mk.inj he).2
 refine (Any.strings_IndexAny_long Tryz.lays153 hv hz s brS w (by decide) h8 (by omega) (by decide) (fun j b hj=>(show ∀b ∈ brS.data.toList,b.toNat<128 by decide) b (List.mem_of_getElem? hj))).mono ?_
 ·rintro e w' ⟨rfl,rfl⟩
  rw [show brS.data.toList=[123,125] from rfl,ixB_any]
  exact ⟨(),rfl,trivial,(hs'.ext (Yz _ _)).ext (Yz _ _)⟩
theorem get_elem {s:ByteArray} {p:Nat} (h:p<s.data.toList.length):s.get! p=s.data.toList[p]:=by
 have h1:=get_list (s:=s) (p:=p) (by rw [←lsz];exact h)
 rw [List.getElem?_eq_getElem h] at h1
 exact (Option.some.inj h1).symm
set_option maxHeartbeats 2000000 in
theorem indexAny_short (s:ByteArray) (h8:s.size≤8):Enters 63∧Spec prog 63 #[.string s,.string brS] [] [] (RetV (.int .i64 (ixB s.data.toList))):=by
 have hsz:=lsz s
 have n0:=shouldASCII_ok (s.size:Int)
 have hd8:decide ((8:Int)<(s.size:Int))=false:=by simp;omega
 rw [hd8] at n0
 have sb:brS.size=2:=rfl
 have hbe:(brS.toList == (⟨#[]⟩:ByteArray).toList)=false:=beqF (by decide)
 refine ZR [_,_] func63 ntmps63 fun G w hp=>?_
 repeat' (first|refine l_rngS (s:=s) (fun it=>?_)|refine ZF ?_|refine ZI ?_|refine ZG ?_|refine ZH ?_|refine ZL ?_|refine ZJ ?_|refine ZN ?_|refine ZK (fun b=>?_)|refine ZM (fun b=>?_)|refine ZC ?_|refine ZA ?_|refine ZD (n0) (fun _ _=>?_)|refine l_call0 (n0) (fun _ _=>?_)|rw [hbe]|(refine ZB (fun hc=>?_) (fun hc=>?_)<;>(try simp at hc)<;>(try omega))|(refine ZE (fun hc=>?_) (fun hc=>?_)<;>(try simp at hc)<;>(try omega)))
 refine YK (X:={p:Nat // p≤s.size∧∀x ∈ s.data.toList.take p,(!isBr x)=true}) (fun _=>[(1,.string brS),(45,.pointer (some ⟨it,0,none⟩))]) (fun _=>[]) (fun p=>[Pt it (.stringIter s p.1)]) (fun p=>s.size - p.1) ⟨0,Nat.zero_le _,fun x hx=>by simp at hx⟩ ⟨rfl,rfl,trivial⟩ ?_
 rintro ⟨p,hp1,hp2⟩
 dsimp only
 by_cases hlt:p<s.data.toList.length
 ·have hlt2:p<s.size:=by omega
  have hge:=get_elem hlt
  have htk:=List.take_succ_eq_append_getElem hlt
  by_cases ha:(s.get! p).toNat<128
  ·have hd:=dec_asc ha
   have n1:=indexRune_asc _ ha
   have hst:=Yv (p:=fun x=>!isBr x) s.data.toList p hp2 (by omega)
   generalize hce:s.data.toList[p]=c at *
   rw [hge] at hd n1 ha
   have hct:((c.toNat:Nat):Int)=(c.toNat:Int):=rfl
   by_cases hb:isBr c=true
   ·have e:ixB s.data.toList=(p:Int):=by
     unfold ixB
     rw [hst (fun _=>by show (!isBr s.data.toList[p])=false;rw [hce,hb];rfl),if_neg (by omega)]
    have hix:(0:Int)≤ixR c.toNat:=by
     have:c=123∨c=125:=by simpa [isBr] using hb
     rcases this with h|h<;>(rw [h];decide)
    rw [e]
    repeat' (first|refine l_nxtT (s:=s) (p:=p) hlt2 hd ?_|refine ZF ?_|refine ZI ?_|refine ZG ?_|refine ZH ?_|refine ZL ?_|refine ZJ ?_|refine ZN ?_|refine ZK (fun b=>?_)|refine ZM (fun b=>?_)|refine ZC ?_|refine ZA ?_|refine ZD (n1) (fun _ _=>?_)|refine l_call0 (n1) (fun _ _=>?_)|(refine ZB (fun hc=>?_) (fun hc=>?_)<;>(try simp at hc)<;>(try omega))|(refine ZE (fun hc=>?_) (fun hc=>?_)<;>(try simp at hc)<;>(try omega)))
    first|exact ZP () rfl trivial|exact Zv (Zu (Zi () rfl trivial))
   ·have hix:¬(0:Int)≤ixR c.toNat:=by
     have h1:¬c.toNat=123:=fun h=>hb (by rw [show c=123 from UInt8.toNat_inj.1 h];rfl)
     have h2:¬c.toNat=125:=fun h=>hb (by rw [show c=125 from UInt8.toNat_inj.1 h];rfl)
     unfold ixR;rw [if_neg h1,if_neg h2];decide
    repeat' (first|refine l_nxtT (s:=s) (p:=p) hlt2 hd ?_|refine ZF ?_|refine ZI ?_|refine ZG ?_|refine ZH ?_|refine ZL ?_|refine ZJ ?_|refine ZN ?_|refine ZK (fun b=>?_)|refine ZM (fun b=>?_)|refine ZC ?_|refine ZA ?_|refine ZD (n1) (fun _ _=>?_)|refine l_call0 (n1) (fun _ _=>?_)|(refine ZB (fun hc=>?_) (fun hc=>?_)<;>(try simp at hc)<;>(try omega))|(refine ZE (fun hc=>?_) (fun hc=>?_)<;>(try simp at hc)<;>(try omega)))
    refine ZV ⟨p+1,by omega,fun x hx=>?_⟩ (by show s.size - (p+1)<s.size - p;omega) ⟨rfl,rfl,trivial⟩
    rw [htk] at hx
    rcases List.mem_append.1 hx with hx|hx
    ·exact hp2 x hx
    ·rw [List.mem_singleton.1 hx];simpa using hb
  ·obtain ⟨d1,d2,d3,d4,d5,d6⟩:=dec_non hlt2 (by omega)
   generalize hde:Utf8.decode s p=dd at *
   obtain ⟨c,w⟩:=dd
   dsimp only at d1 d2 d3 d4 d5 d6
   have n1:Enters 87∧Spec prog 87 #[.string brS,.int .i32 (c:Int)] [] [] (RetV (.int .i64 (-1))):=by
    by_cases h:c=65533
    ·rw [h];exact indexRune_err
    ·exact indexRune_big c d1 (d6.resolve_left h) h
   repeat' (first|refine l_nxtT (s:=s) (p:=p) hlt2 hde ?_|refine ZF ?_|refine ZI ?_|refine ZG ?_|refine ZH ?_|refine ZL ?_|refine ZJ ?_|refine ZN ?_|refine ZK (fun b=>?_)|refine ZM (fun b=>?_)|refine ZC ?_|refine ZA ?_|refine ZD (n1) (fun _ _=>?_)|refine l_call0 (n1) (fun _ _=>?_)|(refine ZB (fun hc=>?_) (fun hc=>?_)<;>(try simp at hc)<;>(try omega))|(refine ZE (fun hc=>?_) (fun hc=>?_)<;>(try simp at hc)<;>(try omega)))
   refine ZV ⟨p+w,d4,fun x hx=>?_⟩ (by show s.size - (p+w)<s.size - p;omega) ⟨rfl,rfl,trivial⟩
   rw [List.take_add] at hx
   rcases List.mem_append.1 hx with hx|hx
   ·exact hp2 x hx
   ·obtain ⟨j,hj,rfl⟩:=List.mem_iff_getElem.1 hx
    simp only [List.length_take,List.length_drop] at hj
    have h5:=d5 (p+j) (by omega) (by omega)
    rw [get_elem (by omega)] at h5
    simp only [List.getElem_take,List.getElem_drop]
    generalize s.data.toList[p+j]=y at *
    have h1:y≠123:=by rintro rfl;revert h5;decide
    have h2:y≠125:=by rintro rfl;revert h5;decide
    simp [isBr,h1,h2]
 ·have hpe:p=s.size:=by omega
  have hst:=Yv (p:=fun x=>!isBr x) s.data.toList p hp2 (by omega) (fun h=>absurd h hlt)
  have e:ixB s.data.toList = -1:=by
   unfold ixB;rw [hst,if_pos (by omega)]
  rw [e]
  repeat' (first|refine l_nxtE (s:=s) (p:=p) (by omega) ?_|refine ZF ?_|refine ZI ?_|refine ZG ?_|refine ZH ?_|refine ZL ?_|refine ZJ ?_|refine ZN ?_|refine ZK (fun b=>?_)|refine ZM (fun b=>?_)|refine ZC ?_|refine ZA ?_|refine ZO ?_|(refine ZB (fun hc=>?_) (fun hc=>?_)<;>(try simp at hc)<;>(try omega))|(refine ZE (fun hc=>?_) (fun hc=>?_)<;>(try simp at hc)<;>(try omega)))
  first|exact ZP () rfl trivial|exact Zv (Zu (Zi () rfl trivial))
theorem indexAny_ok (s:ByteArray) (hs:s.size≤1000000):Enters 63∧Spec prog 63 #[.string s,.string brS] [] [] (RetV (.int .i64 (ixB s.data.toList))):=by
 by_cases h8:8<s.size
 ·exact indexAny_long s h8 hs
 ·exact indexAny_short s (by omega)
end Go.Proofs.YtodkipbnefngkaaGreatDoor
set_option maxRecDepth 10000
namespace Go.Proofs
open Go.Shelf
def Tryz.lays219_ren:Go.Shelf.Ren:=⟨fun|219=>116|217=>48|225=>120|224=>119|267=>148|266=>74|314=>159|n=>n,fun|9=>9|3=>3|4=>4|5=>5|46=>118|146=>149|51=>148|n=>n,fun|1=>0|n=>n⟩
theorem Tryz.lays219:Go.Proofs.Lays.n219 Tryz.prog Tryz.lays219_ren:={
 mixed:=by kernel_rfl
 f217:=Tryz.func48.trans (congrArg some (by kernel_rfl))
 f219:=Tryz.func116.trans (congrArg some (by kernel_rfl))
 f224:=Tryz.func119.trans (congrArg some (by kernel_rfl))
 f225:=Tryz.func120.trans (congrArg some (by kernel_rfl))
 f266:=Tryz.func74.trans (congrArg some (by kernel_rfl))
 f267:=Tryz.func148.trans (congrArg some (by kernel_rfl))
 f314:=Tryz.func159.trans (congrArg some (by kernel_rfl))
 t3:=Tryz.underlying3
 a3:=Tryz.isAgg3
 z3:=Tryz.sizeOf3
 v3:=Tryz.zeroValue3
 t4:=Tryz.underlying4
 a4:=Tryz.isAgg4
 z4:=Tryz.sizeOf4
 v4:=Tryz.zeroValue4
 t5:=Tryz.underlying5
 a5:=Tryz.isAgg5
 z5:=Tryz.sizeOf5
 v5:=Tryz.zeroValue5
 t9:=Tryz.underlying9
 a9:=Tryz.isAgg9
 z9:=Tryz.sizeOf9
 v9:=Tryz.zeroValue9
 t46:=Tryz.underlying118
 a46:=Tryz.isAgg118
 z46:=Tryz.sizeOf118
 v46:=Tryz.zeroValue118
 t51:=Tryz.underlying148
 a51:=Tryz.isAgg148
 z51:=Tryz.sizeOf148
 v51:=Tryz.zeroValue148
 t146:=Tryz.underlying149
 a146:=Tryz.isAgg149
 z146:=Tryz.sizeOf149
 v146:=Tryz.zeroValue149
 g1:=by kernel_rfl}
end Go.Proofs
namespace Go.Proofs.YtodkipbnefngkaaGreatDoor
open Go.Proofs.Tryz
open Go.RowKit
theorem index1_ok (s:ByteArray) (c:UInt8):Enters 116∧Spec prog 116 #[.string s,.string ⟨#[c]⟩] [] [] (RetV (.int .i64 (Lib.indexByte s.data.toList c))):=by
 refine ⟨enters_of func116 (by kernel_rfl) rfl,fun G w hp hs=>?_⟩
 refine (Any.stringslite_Index_one Tryz.lays219 s c w).mono ?_
 rintro e w' ⟨rfl,rfl⟩
 exact ⟨(),rfl,trivial,hs⟩
theorem VP (c:UInt8):∀l:List UInt8,Lib.indexByte l c=if spanF (fun x=>!(x == c)) l=l.length then -1 else (spanF (fun x=>!(x == c)) l:Int)
 | []=>by simp [Lib.indexByte,spanF]
 | b::l=>by
  have ih:=VP c l
  have hle:=YB (fun x=>!(x == c)) l
  rw [Lib.indexByte,ih]
  by_cases hb:(b == c)=true
  ·rw [if_pos hb]
   have:spanF (fun x=>!(x == c)) (b::l)=0:=by simp [spanF,hb]
   rw [this,if_neg (by simp)];rfl
  ·rw [if_neg hb]
   have hs:spanF (fun x=>!(x == c)) (b::l)=spanF (fun x=>!(x == c)) l+1:=by simp [spanF,hb]
   rw [hs,List.length_cons]
   by_cases h2:spanF (fun x=>!(x == c)) l=l.length
   ·simp [h2]
   ·have e1:((spanF (fun x=>!(x == c)) l:Int) == -1)=false:=by rw [beq_eq_false_iff_ne];omega
    rw [if_neg h2,e1]
    simp [h2]
def cutV (l:List UInt8) (m:Nat):Value:=if m<l.length then .tuple #[.string (ofL (l.take m)),.string (ofL (l.drop (m+1))),.bool true] else .tuple #[.string (ofL l),.string ⟨#[]⟩,.bool false]
theorem cut0_ok (s:ByteArray) (hs:s.size≤1000000):Enters 91∧Spec prog 91 #[.string s,.string ⟨#[125]⟩] [] [] (RetV (cutV s.data.toList (spanF (fun x=>!(x == 125)) s.data.toList))):=by
 have n1:=index1_ok s 125
 rw [VP] at n1
 have hsz:=lsz s
 have hle:=YB (fun x=>!(x == 125)) s.data.toList
 generalize spanF (fun x=>!(x == 125)) s.data.toList=m at *
 by_cases h:m=s.data.toList.length
 ·rw [if_pos h] at n1
  have e:cutV s.data.toList m = .tuple #[.string s,.string ⟨#[]⟩,.bool false]:=by
   unfold cutV;rw [if_neg (by omega)]
  rw [e]
  refine ZR [_,_] func91 ntmps91 fun G w hp=>?_
  repeat' (first|refine ZF ?_|refine ZI ?_|refine ZG ?_|refine ZH ?_|refine ZL ?_|refine ZJ ?_|refine ZN ?_|refine ZK (fun b=>?_)|refine ZM (fun b=>?_)|refine ZC ?_|refine ZA ?_|refine ZO ?_|refine ZD (n1) (fun _ _=>?_)|refine l_call0 (n1) (fun _ _=>?_)|(refine ZB (fun hc=>?_) (fun hc=>?_)<;>(try simp at hc)<;>(try omega))|(refine ZE (fun hc=>?_) (fun hc=>?_)<;>(try simp at hc)<;>(try omega)))
  exact ZP () rfl trivial
 ·rw [if_neg h] at n1
  have e:cutV s.data.toList m = .tuple #[.string (ofL (s.data.toList.take m)),.string (ofL (s.data.toList.drop (m+1))),.bool true]:=by
   unfold cutV;rw [if_pos (by omega)]
  have w1:=wrapi (z:=(m:Int)+1) (by omega) (by omega)
  have sz1:(((⟨#[125]⟩:ByteArray).size:Nat):Int)=1:=rfl
  rw [e]
  refine ZR [_,_] func91 ntmps91 fun G w hp=>?_
  repeat' (first|refine ZF ?_|refine ZI ?_|refine ZG ?_|refine ZH ?_|refine ZL ?_|refine ZJ ?_|refine ZN ?_|refine ZK (fun b=>?_)|refine ZM (fun b=>?_)|refine ZC ?_|refine ZA ?_|refine ZO ?_|refine Zb ?_|refine Zc ?_|refine Zq ?_|refine Zd ?_|refine r_ldN ?_|refine Zr (fun b=>?_)|refine Zo (fun b=>?_)|refine Zp ?_|refine Za ?_|refine ZD (n1) (fun _ _=>?_)|refine l_call0 (n1) (fun _ _=>?_)|refine ZQ (n1) (fun _ _=>?_)|refine r_sTo (s:=s) (u:=ofL (s.data.toList.take m)) m (by omega) rfl ?_|refine r_sEnd (s:=s) (u:=ofL (s.data.toList.drop (m+1))) (m+1) (by omega) rfl ?_|rw [sz1]|rw [w1]|(refine ZB (fun hc=>?_) (fun hc=>?_)<;>(try simp at hc)<;>(try omega))|(refine ZU (fun hc=>?_) (fun hc=>?_)<;>(try simp at hc)<;>(try omega))|refine ZT 3 [] [(0,0),(1,0),(2,0),(3,0),(4,0),(5,0),(6,0),(7,0),(8,0),(9,0),(10,0),(11,0)] [] ?_|(refine ZE (fun hc=>?_) (fun hc=>?_)<;>(try simp at hc)<;>(try omega)))
  exact ZP () rfl trivial
theorem cut_ok (s:ByteArray) (hs:s.size≤1000000):Enters 64∧Spec prog 64 #[.string s,.string ⟨#[125]⟩] [] [] (RetV (cutV s.data.toList (spanF (fun x=>!(x == 125)) s.data.toList))):=by
 have n1:=cut0_ok s hs
 unfold cutV at n1 ⊢
 split at n1
 ·rename_i h
  rw [if_pos h]
  refine ZR [_,_] func64 ntmps64 fun G w hp=>?_
  repeat' (first|refine ZF ?_|refine ZI ?_|refine ZG ?_|refine ZH ?_|refine ZL ?_|refine ZJ ?_|refine ZN ?_|refine ZK (fun b=>?_)|refine ZM (fun b=>?_)|refine ZC ?_|refine ZA ?_|refine ZO ?_|refine ZD (n1) (fun _ _=>?_)|refine l_call0 (n1) (fun _ _=>?_)|(refine ZB (fun hc=>?_) (fun hc=>?_)<;>(try simp at hc))|(refine ZE (fun hc=>?_) (fun hc=>?_)<;>(try simp at hc)))
  exact ZP () rfl trivial
 ·rename_i h
  rw [if_neg h]
  refine ZR [_,_] func64 ntmps64 fun G w hp=>?_
  repeat' (first|refine ZF ?_|refine ZI ?_|refine ZG ?_|refine ZH ?_|refine ZL ?_|refine ZJ ?_|refine ZN ?_|refine ZK (fun b=>?_)|refine ZM (fun b=>?_)|refine ZC ?_|refine ZA ?_|refine ZO ?_|refine ZD (n1) (fun _ _=>?_)|refine l_call0 (n1) (fun _ _=>?_)|(refine ZB (fun hc=>?_) (fun hc=>?_)<;>(try simp at hc))|(refine ZE (fun hc=>?_) (fun hc=>?_)<;>(try simp at hc)))
  exact ZP () rfl trivial
def cqa (c:Cq):Value:=.agg (cqf c).toArray
theorem Xz (c:Cq):Enters 66∧Spec prog 66 #[cqa c] [] [] (RetV (.tuple #[(subO c).v,.int .i64 (subT c)])):=by
 by_cases h:c.kind=4
 ·have e1:subO c=c.new:=if_pos h
  have e2:subT c=c.newAt:=if_pos h
  rw [e1,e2]
  refine ZR [_] func66 ntmps66 fun G w hp=>?_
  repeat' (first|refine ZF ?_|refine ZI ?_|refine ZG ?_|refine ZH ?_|refine ZL ?_|refine ZJ ?_|refine ZN ?_|refine ZK (fun b=>?_)|refine ZM (fun b=>?_)|refine ZC ?_|refine ZA ?_|refine ZO ?_|refine Zb ?_|refine Zc ?_|refine Zq ?_|refine Zd ?_|refine r_ldN ?_|refine Zr (fun b=>?_)|refine Zo (fun b=>?_)|refine Zp ?_|refine Za ?_|(refine ZB (fun hc=>?_) (fun hc=>?_)<;>(try simp at hc)<;>(try omega))|(refine ZU (fun hc=>?_) (fun hc=>?_)<;>(try simp at hc)<;>(try omega))|refine ZT 2 [Pt _ (.cells _ 24 _)] [(0,0),(1,0),(2,0),(3,0),(4,4),(5,0)] [] ?_|refine ZT 3 [Pt _ (.cells _ 24 _)] [(0,0),(1,0),(2,0),(3,0),(4,4),(5,0)] [] ?_|(refine ZE (fun hc=>?_) (fun hc=>?_)<;>(try simp at hc)<;>(try omega)))
  exact ZP () rfl trivial
 ·have e1:subO c=c.old:=if_neg h
  have e2:subT c=c.oldAt:=if_neg h
  rw [e1,e2]
  refine ZR [_] func66 ntmps66 fun G w hp=>?_
  repeat' (first|refine ZF ?_|refine ZI ?_|refine ZG ?_|refine ZH ?_|refine ZL ?_|refine ZJ ?_|refine ZN ?_|refine ZK (fun b=>?_)|refine ZM (fun b=>?_)|refine ZC ?_|refine ZA ?_|refine ZO ?_|refine Zb ?_|refine Zc ?_|refine Zq ?_|refine Zd ?_|refine r_ldN ?_|refine Zr (fun b=>?_)|refine Zo (fun b=>?_)|refine Zp ?_|refine Za ?_|(refine ZB (fun hc=>?_) (fun hc=>?_)<;>(try simp at hc)<;>(try omega))|(refine ZU (fun hc=>?_) (fun hc=>?_)<;>(try simp at hc)<;>(try omega))|refine ZT 2 [Pt _ (.cells _ 24 _)] [(0,0),(1,0),(2,0),(3,0),(4,4),(5,0)] [] ?_|refine ZT 3 [Pt _ (.cells _ 24 _)] [(0,0),(1,0),(2,0),(3,0),(4,4),(5,0)] [] ?_|(refine ZE (fun hc=>?_) (fun hc=>?_)<;>(try simp at hc)<;>(try omega)))
  exact ZP () rfl trivial
structure CqI (c:Cq):Prop where
 n0 : -9223372036854775808≤c.nu
 n1:c.nu≤9223372036854775807
 u0 : -9223372036854775808≤(subO c).us
 u1:(subO c).us≤9223372036854775807
 t0 : -9223372036854775808≤subT c
 t1:subT c≤9223372036854775807
set_option maxHeartbeats 4000000 in
theorem VL (n:ByteArray) (c:Cq) (hc0:CqI c):Enters 40∧Spec prog 40 #[.string n,cqa c] [P10] [] (RetV (.tuple #[.string (valF n c),.bool (decide (idx n wFlds<7))])):=by
 have n1:=Xz c
 have i1:=itoa_ok (subO c).us hc0.u0 hc0.u1
 have i2:=itoa_ok (subT c) hc0.t0 hc0.t1
 have i3:=itoa_ok c.nu hc0.n0 hc0.n1
 generalize hv:valF n c=v
 unfold valF at hv
 dsimp only at hv
 generalize hso:subO c=so at *
 generalize hst:subT c=st at *
 by_cases c1:n=⟨#[116,97,114,103,101,116]⟩
 ·subst c1
  rw [show idx _ wFlds=0 from rfl] at hv ⊢
  subst hv
  have b1:=beqT (a:=⟨#[116,97,114,103,101,116]⟩) (b:=⟨#[116,97,114,103,101,116]⟩) rfl
  refine ZR [_,_] func40 ntmps40 fun G w hp=>?_
  repeat' (first|rw [b1]|refine ZF ?_|refine ZI ?_|refine ZG ?_|refine ZH ?_|refine ZL ?_|refine ZJ ?_|refine ZN ?_|refine ZK (fun b=>?_)|refine ZM (fun b=>?_)|refine ZC ?_|refine ZA ?_|refine ZO ?_|refine ZD (n1) (fun _ _=>?_)|refine l_call0 (n1) (fun _ _=>?_)|(refine ZB (fun hc=>?_) (fun hc=>?_)<;>(try simp at hc)<;>(try omega))|(refine ZE (fun hc=>?_) (fun hc=>?_)<;>(try simp at hc)<;>(try omega)))
  exact ZP () rfl trivial
 have b1:=beqF c1
 by_cases c2:n=⟨#[117,115,101,114]⟩
 ·subst c2
  rw [show idx _ wFlds=1 from rfl] at hv ⊢
  subst hv
  have b2:=beqT (a:=⟨#[117,115,101,114]⟩) (b:=⟨#[117,115,101,114]⟩) rfl
  refine ZR [_,_] func40 ntmps40 fun G w hp=>?_
  repeat' (first|rw [b2]|rw [b1]|refine ZF ?_|refine ZI ?_|refine ZG ?_|refine ZH ?_|refine ZL ?_|refine ZJ ?_|refine ZN ?_|refine ZK (fun b=>?_)|refine ZM (fun b=>?_)|refine ZC ?_|refine ZA ?_|refine ZO ?_|refine ZD (n1) (fun _ _=>?_)|refine l_call0 (n1) (fun _ _=>?_)|refine ZD (i1) (fun _ _=>?_)|refine l_call0 (i1) (fun _ _=>?_)|(refine ZB (fun hc=>?_) (fun hc=>?_)<;>(try simp at hc)<;>(try omega))|(refine ZE (fun hc=>?_) (fun hc=>?_)<;>(try simp at hc)<;>(try omega)))
  exact ZP () rfl trivial
 have b2:=beqF c2
 by_cases c3:n=⟨#[116,105,99,107]⟩
 ·subst c3
  rw [show idx _ wFlds=2 from rfl] at hv ⊢
  subst hv
  have b3:=beqT (a:=⟨#[116,105,99,107]⟩) (b:=⟨#[116,105,99,107]⟩) rfl
  refine ZR [_,_] func40 ntmps40 fun G w hp=>?_
  repeat' (first|rw [b3]|rw [b2]|rw [b1]|refine ZF ?_|refine ZI ?_|refine ZG ?_|refine ZH ?_|refine ZL ?_|refine ZJ ?_|refine ZN ?_|refine ZK (fun b=>?_)|refine ZM (fun b=>?_)|refine ZC ?_|refine ZA ?_|refine ZO ?_|refine ZD (n1) (fun _ _=>?_)|refine l_call0 (n1) (fun _ _=>?_)|refine ZD (i2) (fun _ _=>?_)|refine l_call0 (i2) (fun _ _=>?_)|(refine ZB (fun hc=>?_) (fun hc=>?_)<;>(try simp at hc)<;>(try omega))|(refine ZE (fun hc=>?_) (fun hc=>?_)<;>(try simp at hc)<;>(try omega)))
  exact ZP () rfl trivial
 have b3:=beqF c3
 by_cases c4:n=⟨#[98,121]⟩
 ·subst c4
  rw [show idx _ wFlds=3 from rfl] at hv ⊢
  subst hv
  have b4:=beqT (a:=⟨#[98,121]⟩) (b:=⟨#[98,121]⟩) rfl
  refine ZR [_,_] func40 ntmps40 fun G w hp=>?_
  repeat' (first|rw [b4]|rw [b3]|rw [b2]|rw [b1]|refine ZF ?_|refine ZI ?_|refine ZG ?_|refine ZH ?_|refine ZL ?_|refine ZJ ?_|refine ZN ?_|refine ZK (fun b=>?_)|refine ZM (fun b=>?_)|refine ZC ?_|refine ZA ?_|refine ZO ?_|refine ZD (n1) (fun _ _=>?_)|refine l_call0 (n1) (fun _ _=>?_)|(refine ZB (fun hc=>?_) (fun hc=>?_)<;>(try simp at hc)<;>(try omega))|(refine ZE (fun hc=>?_) (fun hc=>?_)<;>(try simp at hc)<;>(try omega)))
  exact ZP () rfl trivial
 have b4:=beqF c4
 by_cases c5:n=⟨#[110,117,109,98,101,114]⟩
 ·subst c5
  rw [show idx _ wFlds=4 from rfl] at hv ⊢
  subst hv
  have b5:=beqT (a:=⟨#[110,117,109,98,101,114]⟩) (b:=⟨#[110,117,109,98,101,114]⟩) rfl
  refine ZR [_,_] func40 ntmps40 fun G w hp=>?_
  repeat' (first|rw [b5]|rw [b4]|rw [b3]|rw [b2]|rw [b1]|refine ZF ?_|refine ZI ?_|refine ZG ?_|refine ZH ?_|refine ZL ?_|refine ZJ ?_|refine ZN ?_|refine ZK (fun b=>?_)|refine ZM (fun b=>?_)|refine ZC ?_|refine ZA ?_|refine ZO ?_|refine ZD (n1) (fun _ _=>?_)|refine l_call0 (n1) (fun _ _=>?_)|refine ZD (i3) (fun _ _=>?_)|refine l_call0 (i3) (fun _ _=>?_)|(refine ZB (fun hc=>?_) (fun hc=>?_)<;>(try simp at hc)<;>(try omega))|(refine ZE (fun hc=>?_) (fun hc=>?_)<;>(try simp at hc)<;>(try omega)))
  exact ZP () rfl trivial
 have b5:=beqF c5
 by_cases c6:n=⟨#[111,108,100]⟩
 ·subst c6
  rw [show idx _ wFlds=5 from rfl] at hv ⊢
  subst hv
  have b6:=beqT (a:=⟨#[111,108,100]⟩) (b:=⟨#[111,108,100]⟩) rfl
  refine ZR [_,_] func40 ntmps40 fun G w hp=>?_
  repeat' (first|rw [b6]|rw [b5]|rw [b4]|rw [b3]|rw [b2]|rw [b1]|refine ZF ?_|refine ZI ?_|refine ZG ?_|refine ZH ?_|refine ZL ?_|refine ZJ ?_|refine ZN ?_|refine ZK (fun b=>?_)|refine ZM (fun b=>?_)|refine ZC ?_|refine ZA ?_|refine ZO ?_|refine ZD (n1) (fun _ _=>?_)|refine l_call0 (n1) (fun _ _=>?_)|(refine ZB (fun hc=>?_) (fun hc=>?_)<;>(try simp at hc)<;>(try omega))|(refine ZE (fun hc=>?_) (fun hc=>?_)<;>(try simp at hc)<;>(try omega)))
  exact ZP () rfl trivial
 have b6:=beqF c6
 by_cases c7:n=⟨#[110,101,119]⟩
 ·subst c7
  rw [show idx _ wFlds=6 from rfl] at hv ⊢
  subst hv
  have b7:=beqT (a:=⟨#[110,101,119]⟩) (b:=⟨#[110,101,119]⟩) rfl
  refine ZR [_,_] func40 ntmps40 fun G w hp=>?_
  repeat' (first|rw [b7]|rw [b6]|rw [b5]|rw [b4]|rw [b3]|rw [b2]|rw [b1]|refine ZF ?_|refine ZI ?_|refine ZG ?_|refine ZH ?_|refine ZL ?_|refine ZJ ?_|refine ZN ?_|refine ZK (fun b=>?_)|refine ZM (fun b=>?_)|refine ZC ?_|refine ZA ?_|refine ZO ?_|refine ZD (n1) (fun _ _=>?_)|refine l_call0 (n1) (fun _ _=>?_)|(refine ZB (fun hc=>?_) (fun hc=>?_)<;>(try simp at hc)<;>(try omega))|(refine ZE (fun hc=>?_) (fun hc=>?_)<;>(try simp at hc)<;>(try omega)))
  exact ZP () rfl trivial
 have b7:=beqF c7
 have hi:idx n wFlds=7:=by simp [wFlds,idx,Ne.symm c1,Ne.symm c2,Ne.symm c3,Ne.symm c4,Ne.symm c5,Ne.symm c6,Ne.symm c7]
 rw [hi] at hv ⊢
 subst hv
 refine ZR [_,_] func40 ntmps40 fun G w hp=>?_
 repeat' (first|rw [b7]|rw [b6]|rw [b5]|rw [b4]|rw [b3]|rw [b2]|rw [b1]|refine ZF ?_|refine ZI ?_|refine ZG ?_|refine ZH ?_|refine ZL ?_|refine ZJ ?_|refine ZN ?_|refine ZK (fun b=>?_)|refine ZM (fun b=>?_)|refine ZC ?_|refine ZA ?_|refine ZO ?_|refine ZD (n1) (fun _ _=>?_)|refine l_call0 (n1) (fun _ _=>?_)|(refine ZB (fun hc=>?_) (fun hc=>?_)<;>(try simp at hc)<;>(try omega))|(refine ZE (fun hc=>?_) (fun hc=>?_)<;>(try simp at hc)<;>(try omega)))
 exact ZP () rfl trivial
end Go.Proofs.YtodkipbnefngkaaGreatDoor
namespace Go.Proofs.YtodkipbnefngkaaGreatDoor
open Go.RowKit Go.Proofs.Tryz
theorem Xv:∀(f:Nat) (L:List UInt8) (i:Nat) (acc:List Seg),acc <+: (divF f L i acc).1
 | 0,_,_,acc=>by rw [divF];exact List.prefix_rfl
 | f+1,[],_,acc=>by rw [divF];exact List.prefix_rfl
 | f+1,c::r,i,acc=>by
  rw [divF]
  dsimp only
  split
  ·exact List.prefix_append _ _
  ·split
   ·exact (List.prefix_append _ _).trans (Xv f _ _ _)
   ·split
    ·exact (List.prefix_append _ _).trans (Xv f _ _ _)
    ·split
     ·exact (List.prefix_append _ _).trans (Xv f _ _ _)
     ·exact List.prefix_rfl
def tplV (s:ByteArray):Int:=match (tplF s).2 with
 | none=>-1
 | some i=>(i:Int)
def cq0:Cq:=⟨0,⟨#[]⟩,0,0,⟨0,⟨#[]⟩,⟨#[]⟩,0⟩,0,⟨0,⟨#[]⟩,⟨#[]⟩,0⟩,0⟩
theorem cq0_i:CqI cq0:=by constructor<;>decide
theorem Zs (l:List UInt8):(ofL l).size=l.length:=by show l.toArray.size=_;simp
theorem YH (l:List UInt8):(ofL l).data.toList=l:=by show l.toArray.toList=_;simp
theorem hd_ix {c d:UInt8} {l:List UInt8} (h:l.head? = some d):(c::l)[1]? = some d:=by cases l<;>simp_all
set_option maxHeartbeats 8000000 in
theorem Vr (s:ByteArray) (hs:s.size≤1000000) (lf ff:Value) (J:List Seg→HP)
  (hl:∀acc t,acc++[.lit t] <+: (tplF s).1→SpecV lf [.string t] [P10] [J acc] ⟨Unit,fun _=>.tuple #[],fun _=>True,fun _=>[],fun _=>[J (acc++[.lit t])]⟩)
  (hf:∀acc n,acc++[.fld n] <+: (tplF s).1→SpecV ff [.string n] [P10] [J acc] ⟨Unit,fun _=>.tuple #[],fun _=>True,fun _=>[],fun _=>[J (acc++[.fld n])]⟩) :
  Enters 36∧Spec prog 36 #[.string s,lf,ff] [P10] [J []] ⟨Unit,fun _=>.int .i64 (tplV s),fun _=>True,fun _=>[],fun _=>[J (tplF s).1]⟩:=by
 have hsz:=lsz s
 obtain ⟨V,hV⟩:∃V,tplV s=V:=⟨_,rfl⟩
 obtain ⟨T,hT⟩:∃T,tplF s=T:=⟨_,rfl⟩
 rw [hT] at hl hf ⊢
 rw [hV]
 unfold tplV at hV
 rw [hT] at hV
 refine ZR [_,_,_] func36 ntmps36 fun G w hp=>?_
 repeat' (first|refine ZF ?_|refine ZI ?_|refine ZG ?_|refine ZH ?_|refine ZL ?_|refine ZJ ?_|refine ZN ?_|refine ZK (fun b=>?_)|refine ZM (fun b=>?_)|refine ZC ?_|refine ZA ?_|(refine ZB (fun hc=>?_) (fun hc=>?_)<;>(try simp at hc))|(refine ZE (fun hc=>?_) (fun hc=>?_)<;>(try simp at hc)))
 refine YK (X:={q:Nat×List Seg // q.1≤s.size∧∃f,(s.data.toList.drop q.1).length<f∧T=divF f (s.data.toList.drop q.1) q.1 q.2}) (fun q=>[(0,.string s),(1,lf),(2,ff),(7,.int .i64 (q.1.1:Int))]) (fun _=>[P10]) (fun q=>[J q.1.2]) (fun q=>s.size - q.1.1) ⟨(0,[]),Nat.zero_le _,s.size+1,by simp,hT.symm⟩ ⟨rfl,rfl,rfl,rfl,trivial⟩ ?_
 rintro ⟨⟨i,acc⟩,hi,f,hfu,ht⟩
 dsimp only at hi hfu ht ⊢
 have hdl:(s.data.toList.drop i).length=s.size - i:=by rw [List.length_drop];omega
 obtain ⟨L,hL'⟩:∃L,L=s.data.toList.drop i:=⟨_,rfl⟩
 rw [←hL'] at hfu ht hdl
 have hL:=hL'.symm
 clear hL'
 have hLs:(ofL L).size=L.length:=Zs L
 have hLl:(ofL L).data.toList=L:=YH L
 cases hLc:L with
 | nil=>
  subst hLc
  simp only [List.length_nil] at hdl
  have e1:T=(acc,none):=by rw [ht];cases f<;>rfl
  subst e1 hV
  repeat' (first|refine ZF ?_|refine ZI ?_|refine ZG ?_|refine ZH ?_|refine ZL ?_|refine ZJ ?_|refine ZN ?_|refine ZK (fun b=>?_)|refine ZM (fun b=>?_)|refine ZC ?_|refine ZA ?_|refine ZO ?_|(refine ZB (fun hc=>?_) (fun hc=>?_)<;>(try simp at hc)<;>(try omega))|(refine ZE (fun hc=>?_) (fun hc=>?_)<;>(try simp at hc)<;>(try omega)))
  exact ZP () rfl trivial
 | cons c r=>
  obtain ⟨f,rfl⟩:∃g,f=g+1:=⟨f - 1,by omega⟩
  have hll:L.length=r.length+1:=by rw [hLc];rfl
  have hlt:i<s.size:=by omega
  have hix:=indexAny_ok (ofL L) (by omega)
  rw [hLl] at hix
  unfold ixB at hix
  have hkl:=YB (fun x=>!isBr x) L
  rw [hLc] at ht
  rw [divF] at ht
  dsimp only at ht
  rw [←hLc] at ht
  generalize hk:spanF (fun x=>!isBr x) L=k at *
  by_cases c1:k=L.length
  ·rw [if_pos c1] at hix ht
   subst ht hV
   have n1:=hl acc (ofL L) List.prefix_rfl
   dsimp only
   repeat' (first|refine ZF ?_|refine ZI ?_|refine ZG ?_|refine ZH ?_|refine ZL ?_|refine ZJ ?_|refine ZN ?_|refine ZK (fun b=>?_)|refine ZM (fun b=>?_)|refine ZC ?_|refine ZA ?_|refine ZO ?_|refine ZD (hix) (fun _ _=>?_)|refine l_call0 (hix) (fun _ _=>?_)|refine YJ (s:=s) (u:=ofL L) i (by omega) (by rw [hL,hLl]) ?_|refine XE n1 (fun _ _=>?_)|(refine ZB (fun hc=>?_) (fun hc=>?_)<;>(try simp at hc)<;>(try omega))|(refine ZE (fun hc=>?_) (fun hc=>?_)<;>(try simp at hc)<;>(try omega)))
   first|exact ZP () rfl trivial|exact Zv (Zu (Zi () rfl trivial))
  ·rw [if_neg c1] at hix ht
   by_cases c2:k=0
   ·rw [if_neg (by simpa using c2)] at ht
    subst c2
    by_cases c3:r.head? = some c
    ·rw [if_pos c3] at ht
     have hr1:1≤r.length:=by cases r with|nil=>simp at c3|cons=>simp
     have n1:=hl acc (ofL [c]) (by rw [ht];exact Xv _ _ _ _)
     have w1:=wrapi (z:=(i:Int)+2) (by omega) (by omega)
     have h0:(ofL L).data.toList[0]? = some c:=by rw [hLl,hLc];rfl
     have h1:(ofL L).data.toList[1]? = some c:=by rw [hLl,hLc];exact hd_ix c3
     have hrl:((ofL L).size:Int)=(r.length:Int)+1:=by omega
     repeat' (first|refine ZF ?_|refine ZI ?_|refine ZG ?_|refine ZH ?_|refine ZL ?_|refine ZJ ?_|refine ZN ?_|refine ZK (fun b=>?_)|refine ZM (fun b=>?_)|refine ZC ?_|refine ZA ?_|refine ZO ?_|refine Zb ?_|refine Zc ?_|refine Zq ?_|refine Zd ?_|refine r_ldN ?_|refine Zr (fun b=>?_)|refine Zo (fun b=>?_)|refine Zp ?_|refine Za ?_|refine ZD (hix) (fun _ _=>?_)|refine l_call0 (hix) (fun _ _=>?_)|refine ZQ (hix) (fun _ _=>?_)|refine YJ (s:=s) (u:=ofL L) i (by omega) (by rw [hL,hLl]) ?_|refine Xi (s:=ofL L) 0 c h0 ?_|refine Xi (s:=ofL L) 1 c h1 ?_|refine l_sTo (s:=ofL L) (u:=ofL [c]) 1 (by omega) (by rw [hLl,hLc,YH];rfl) ?_|refine XE n1 (fun _ _=>?_)|rw [w1]|(refine ZB (fun hc=>?_) (fun hc=>?_)<;>(try simp at hc)<;>(try omega))|(refine ZU (fun hc=>?_) (fun hc=>?_)<;>(try simp at hc)<;>(try omega))|refine ZT 17 [] [(0,0),(1,0),(2,0),(3,0),(4,0),(5,0),(6,0),(7,0),(8,0),(9,0),(10,0)] [] ?_|(refine ZE (fun hc=>?_) (fun hc=>?_)<;>(try simp at hc)<;>(try omega)))
     have e1:r.drop 1=s.data.toList.drop (i+2):=by rw [show i+2=i+(1+1) from rfl,←List.drop_drop,hL,hLc];rfl
     refine ZV ⟨(i+2,acc++[.lit (ofL [c])]),by show i+2≤s.size;omega,f,?_,?_⟩ (by show s.size - (i+2)<s.size - i;omega) ⟨rfl,rfl,rfl,rfl,trivial⟩
     ·show (s.data.toList.drop (i+2)).length<f
      rw [←e1,List.length_drop];omega
     ·show T=divF f (s.data.toList.drop (i+2)) (i+2) _
      rw [ht,e1]
    ·rw [if_neg c3] at ht
     have h0:(ofL L).data.toList[0]? = some c:=by rw [hLl,hLc];rfl
     have hrz:(ofL r).size=r.length:=Zs r
     have hrl:(ofL r).data.toList=r:=YH r
     have hdr:(ofL L).data.toList.drop 1=(ofL r).data.toList:=by rw [hLl,hrl,hLc];rfl
     have hLz:((ofL L).size:Int)=(r.length:Int)+1:=by omega
     have hcut:=cut_ok (ofL r) (by omega)
     rw [hrl] at hcut
     have hm:=YB (fun x=>!(x == 125)) r
     generalize spanF (fun x=>!(x == 125)) r=m at *
     by_cases c4:m<r.length
     ·have ecv:cutV r m = .tuple #[.string (ofL (r.take m)),.string (ofL (r.drop (m+1))),.bool true]:=if_pos c4
      rw [ecv] at hcut
      have hv:=VL (ofL (r.take m)) cq0 cq0_i
      have hrm:((ofL (r.take m)).size:Int)=(m:Int):=by rw [Zs,List.length_take];omega
      obtain ⟨d,hd⟩:∃d,r.head? = some d:=by cases r with|nil=>simp at c4|cons d r=>exact ⟨d,rfl⟩
      have h1:(ofL L).data.toList[1]? = some d:=by rw [hLl,hLc];exact hd_ix hd
      have hdc:¬(d.toNat:Int)=(c.toNat:Int):=fun h=>c3 (by rw [hd];congr 1;exact UInt8.toNat_inj.1 (by omega))
      by_cases c5:idx (ofL (r.take m)) wFlds<7
      ·rw [decide_eq_true c5] at hv
       by_cases c6:c=123
       ·rw [if_pos ⟨c6,c4,c5⟩] at ht
        have k6:(c.toNat:Int)=123:=by rw [c6];rfl
        have n1:=hf acc (ofL (r.take m)) (by rw [ht];exact Xv _ _ _ _)
        have w1:=wrapi (z:=(m:Int)+2) (by omega) (by omega)
        have w2:=wrapi (z:=(i:Int)+((m:Int)+2)) (by omega) (by omega)
        repeat' (first|refine ZF ?_|refine ZI ?_|refine ZG ?_|refine ZH ?_|refine ZL ?_|refine ZJ ?_|refine ZN ?_|refine ZK (fun b=>?_)|refine ZM (fun b=>?_)|refine ZC ?_|refine ZA ?_|refine ZO ?_|refine Zb ?_|refine Zc ?_|refine Zq ?_|refine Zd ?_|refine r_ldN ?_|refine Zr (fun b=>?_)|refine Zo (fun b=>?_)|refine Zp ?_|refine Za ?_|refine ZD (hix) (fun _ _=>?_)|refine l_call0 (hix) (fun _ _=>?_)|refine ZQ (hix) (fun _ _=>?_)|refine ZD (hcut) (fun _ _=>?_)|refine l_call0 (hcut) (fun _ _=>?_)|refine ZQ (hcut) (fun _ _=>?_)|refine ZD (hv) (fun _ _=>?_)|refine l_call0 (hv) (fun _ _=>?_)|refine ZQ (hv) (fun _ _=>?_)|refine YJ (s:=s) (u:=ofL L) i (by omega) (by rw [hL,hLl]) ?_|refine Xi (s:=ofL L) 0 c h0 ?_|refine Xi (s:=ofL L) 1 d h1 ?_|refine YJ (s:=ofL L) (u:=ofL r) 1 (by omega) hdr ?_|refine Zh (s:=ofL L) 0 c h0 ?_|refine XE n1 (fun _ _=>?_)|rw [hrm]|rw [w1]|rw [w2]|(refine ZB (fun hc=>?_) (fun hc=>?_)<;>(try simp at hc)<;>(try omega))|(refine ZU (fun hc=>?_) (fun hc=>?_)<;>(try simp at hc)<;>(try omega))|refine ZT 17 [] [(0,0),(1,0),(2,0),(3,0),(4,0),(5,0),(6,0),(7,0),(8,0),(9,0),(10,0)] [] ?_|(refine ZE (fun hc=>?_) (fun hc=>?_)<;>(try simp at hc)<;>(try omega)))
        have e1:r.drop (m+1)=s.data.toList.drop (i+m+2):=by
         have e0:s.data.toList.drop (i+m+2)=L.drop (m+2):=by rw [←hL,List.drop_drop];rfl
         rw [e0,hLc];rfl
        refine ZV ⟨(i+m+2,acc++[.fld (ofL (r.take m))]),by show i+m+2≤s.size;omega,f,?_,?_⟩ (by show s.size - (i+m+2)<s.size - i;omega) ⟨rfl,rfl,rfl,by rw [show (i:Int)+((m:Int)+2)=((i+m+2:Nat):Int) by omega];rfl,trivial⟩
        ·show (s.data.toList.drop (i+m+2)).length<f
         rw [←e1,List.length_drop];omega
        ·show T=divF f (s.data.toList.drop (i+m+2)) (i+m+2) _
         rw [ht,e1]
       ·rw [if_neg (fun h=>c6 h.1)] at ht
        have k6:¬(c.toNat:Int)=123:=fun h=>c6 ((u8i (k:=123) (by decide)).2 h)
        subst ht hV
        repeat' (first|refine ZF ?_|refine ZI ?_|refine ZG ?_|refine ZH ?_|refine ZL ?_|refine ZJ ?_|refine ZN ?_|refine ZK (fun b=>?_)|refine ZM (fun b=>?_)|refine ZC ?_|refine ZA ?_|refine ZO ?_|refine Zb ?_|refine Zc ?_|refine Zq ?_|refine Zd ?_|refine r_ldN ?_|refine Zr (fun b=>?_)|refine Zo (fun b=>?_)|refine Zp ?_|refine Za ?_|refine ZD (hix) (fun _ _=>?_)|refine l_call0 (hix) (fun _ _=>?_)|refine ZQ (hix) (fun _ _=>?_)|refine ZD (hcut) (fun _ _=>?_)|refine l_call0 (hcut) (fun _ _=>?_)|refine ZQ (hcut) (fun _ _=>?_)|refine ZD (hv) (fun _ _=>?_)|refine l_call0 (hv) (fun _ _=>?_)|refine ZQ (hv) (fun _ _=>?_)|refine YJ (s:=s) (u:=ofL L) i (by omega) (by rw [hL,hLl]) ?_|refine Xi (s:=ofL L) 0 c h0 ?_|refine Xi (s:=ofL L) 1 d h1 ?_|refine YJ (s:=ofL L) (u:=ofL r) 1 (by omega) hdr ?_|refine Zh (s:=ofL L) 0 c h0 ?_|(refine ZB (fun hc=>?_) (fun hc=>?_)<;>(try simp at hc)<;>(try omega))|(refine ZU (fun hc=>?_) (fun hc=>?_)<;>(try simp at hc)<;>(try omega))|refine ZT 17 [] [(0,0),(1,0),(2,0),(3,0),(4,0),(5,0),(6,0),(7,0),(8,0),(9,0),(10,0)] [] ?_|(refine ZE (fun hc=>?_) (fun hc=>?_)<;>(try simp at hc)<;>(try omega)))
        first|exact ZP () rfl trivial|exact Zv (Zu (Zi () rfl trivial))
      ·rw [decide_eq_false c5] at hv
       rw [if_neg (fun h=>c5 h.2.2)] at ht
       subst ht hV
       repeat' (first|refine ZF ?_|refine ZI ?_|refine ZG ?_|refine ZH ?_|refine ZL ?_|refine ZJ ?_|refine ZN ?_|refine ZK (fun b=>?_)|refine ZM (fun b=>?_)|refine ZC ?_|refine ZA ?_|refine ZO ?_|refine Zb ?_|refine Zc ?_|refine Zq ?_|refine Zd ?_|refine r_ldN ?_|refine Zr (fun b=>?_)|refine Zo (fun b=>?_)|refine Zp ?_|refine Za ?_|refine ZD (hix) (fun _ _=>?_)|refine l_call0 (hix) (fun _ _=>?_)|refine ZQ (hix) (fun _ _=>?_)|refine ZD (hcut) (fun _ _=>?_)|refine l_call0 (hcut) (fun _ _=>?_)|refine ZQ (hcut) (fun _ _=>?_)|refine ZD (hv) (fun _ _=>?_)|refine l_call0 (hv) (fun _ _=>?_)|refine ZQ (hv) (fun _ _=>?_)|refine YJ (s:=s) (u:=ofL L) i (by omega) (by rw [hL,hLl]) ?_|refine Xi (s:=ofL L) 0 c h0 ?_|refine Xi (s:=ofL L) 1 d h1 ?_|refine YJ (s:=ofL L) (u:=ofL r) 1 (by omega) hdr ?_|refine Zh (s:=ofL L) 0 c h0 ?_|(refine ZB (fun hc=>?_) (fun hc=>?_)<;>(try simp at hc)<;>(try omega))|(refine ZU (fun hc=>?_) (fun hc=>?_)<;>(try simp at hc)<;>(try omega))|refine ZT 17 [] [(0,0),(1,0),(2,0),(3,0),(4,0),(5,0),(6,0),(7,0),(8,0),(9,0),(10,0)] [] ?_|(refine ZE (fun hc=>?_) (fun hc=>?_)<;>(try simp at hc)<;>(try omega)))
       all_goals first|exact ZP () rfl trivial|exact Zv (Zu (Zi () rfl trivial))
     ·have ecv:cutV r m = .tuple #[.string (ofL r),.string ⟨#[]⟩,.bool false]:=if_neg c4
      rw [ecv] at hcut
      have hv:=VL (ofL r) cq0 cq0_i
      rw [if_neg (fun h=>c4 h.2.1)] at ht
      subst ht hV
      by_cases c7:r=[]
      ·have hr0:(r.length:Int)=0:=by rw [c7];rfl
       repeat' (first|refine ZF ?_|refine ZI ?_|refine ZG ?_|refine ZH ?_|refine ZL ?_|refine ZJ ?_|refine ZN ?_|refine ZK (fun b=>?_)|refine ZM (fun b=>?_)|refine ZC ?_|refine ZA ?_|refine ZO ?_|refine Zb ?_|refine Zc ?_|refine Zq ?_|refine Zd ?_|refine r_ldN ?_|refine Zr (fun b=>?_)|refine Zo (fun b=>?_)|refine Zp ?_|refine Za ?_|refine ZD (hix) (fun _ _=>?_)|refine l_call0 (hix) (fun _ _=>?_)|refine ZQ (hix) (fun _ _=>?_)|refine ZD (hcut) (fun _ _=>?_)|refine l_call0 (hcut) (fun _ _=>?_)|refine ZQ (hcut) (fun _ _=>?_)|refine ZD (hv) (fun _ _=>?_)|refine l_call0 (hv) (fun _ _=>?_)|refine ZQ (hv) (fun _ _=>?_)|refine YJ (s:=s) (u:=ofL L) i (by omega) (by rw [hL,hLl]) ?_|refine Xi (s:=ofL L) 0 c h0 ?_|refine YJ (s:=ofL L) (u:=ofL r) 1 (by omega) hdr ?_|refine Zh (s:=ofL L) 0 c h0 ?_|(refine ZB (fun hc=>?_) (fun hc=>?_)<;>(try simp at hc)<;>(try omega))|(refine ZU (fun hc=>?_) (fun hc=>?_)<;>(try simp at hc)<;>(try omega))|refine ZT 17 [] [(0,0),(1,0),(2,0),(3,0),(4,0),(5,0),(6,0),(7,0),(8,0),(9,0),(10,0)] [] ?_|(refine ZE (fun hc=>?_) (fun hc=>?_)<;>(try simp at hc)<;>(try omega)))
       all_goals first|exact ZP () rfl trivial|exact Zv (Zu (Zi () rfl trivial))
      ·obtain ⟨d,hd⟩:∃d,r.head? = some d:=by cases r with|nil=>exact absurd rfl c7|cons d r=>exact ⟨d,rfl⟩
       have hr0:0<r.length:=List.length_pos_iff.2 c7
       have h1:(ofL L).data.toList[1]? = some d:=by rw [hLl,hLc];exact hd_ix hd
       have hdc:¬(d.toNat:Int)=(c.toNat:Int):=fun h=>c3 (by rw [hd];congr 1;exact UInt8.toNat_inj.1 (by omega))
       repeat' (first|refine ZF ?_|refine ZI ?_|refine ZG ?_|refine ZH ?_|refine ZL ?_|refine ZJ ?_|refine ZN ?_|refine ZK (fun b=>?_)|refine ZM (fun b=>?_)|refine ZC ?_|refine ZA ?_|refine ZO ?_|refine Zb ?_|refine Zc ?_|refine Zq ?_|refine Zd ?_|refine r_ldN ?_|refine Zr (fun b=>?_)|refine Zo (fun b=>?_)|refine Zp ?_|refine Za ?_|refine ZD (hix) (fun _ _=>?_)|refine l_call0 (hix) (fun _ _=>?_)|refine ZQ (hix) (fun _ _=>?_)|refine ZD (hcut) (fun _ _=>?_)|refine l_call0 (hcut) (fun _ _=>?_)|refine ZQ (hcut) (fun _ _=>?_)|refine ZD (hv) (fun _ _=>?_)|refine l_call0 (hv) (fun _ _=>?_)|refine ZQ (hv) (fun _ _=>?_)|refine YJ (s:=s) (u:=ofL L) i (by omega) (by rw [hL,hLl]) ?_|refine Xi (s:=ofL L) 0 c h0 ?_|refine Xi (s:=ofL L) 1 d h1 ?_|refine YJ (s:=ofL L) (u:=ofL r) 1 (by omega) hdr ?_|refine Zh (s:=ofL L) 0 c h0 ?_|(refine ZB (fun hc=>?_) (fun hc=>?_)<;>(try simp at hc)<;>(try omega))|(refine ZU (fun hc=>?_) (fun hc=>?_)<;>(try simp at hc)<;>(try omega))|refine ZT 17 [] [(0,0),(1,0),(2,0),(3,0),(4,0),(5,0),(6,0),(7,0),(8,0),(9,0),(10,0)] [] ?_|(refine ZE (fun hc=>?_) (fun hc=>?_)<;>(try simp at hc)<;>(try omega)))
       all_goals first|exact ZP () rfl trivial|exact Zv (Zu (Zi () rfl trivial))
   ·rw [if_pos (by simpa using c2)] at ht
    have n1:=hl acc (ofL (L.take k)) (by rw [ht];exact Xv _ _ _ _)
    have w1:=wrapi (z:=(i:Int)+(k:Int)) (by omega) (by omega)
    have e1:(L.drop k)=s.data.toList.drop (i+k):=by rw [←hL,List.drop_drop]
    repeat' (first|refine ZF ?_|refine ZI ?_|refine ZG ?_|refine ZH ?_|refine ZL ?_|refine ZJ ?_|refine ZN ?_|refine ZK (fun b=>?_)|refine ZM (fun b=>?_)|refine ZC ?_|refine ZA ?_|refine ZO ?_|refine ZD (hix) (fun _ _=>?_)|refine l_call0 (hix) (fun _ _=>?_)|refine YJ (s:=s) (u:=ofL L) i (by omega) (by rw [hL,hLl]) ?_|refine l_sTo (s:=ofL L) (u:=ofL (L.take k)) k (by omega) (by rw [hLl,YH]) ?_|refine XE n1 (fun _ _=>?_)|rw [w1]|(refine ZB (fun hc=>?_) (fun hc=>?_)<;>(try simp at hc)<;>(try omega))|(refine ZE (fun hc=>?_) (fun hc=>?_)<;>(try simp at hc)<;>(try omega)))
    refine ZV ⟨(i+k,acc++[.lit (ofL (L.take k))]),by show i+k≤s.size;omega,f,?_,?_⟩ (by show s.size - (i+k)<s.size - i;omega) ⟨rfl,rfl,rfl,rfl,trivial⟩
    ·show (s.data.toList.drop (i+k)).length<f
     rw [←e1,List.length_drop];omega
    ·show T=divF f (s.data.toList.drop (i+k)) (i+k) _
     rw [ht,e1]
theorem ext_mid {s u:ByteArray} {lo hi:Nat} (h:(s.data.toList.take hi).drop lo=u.data.toList):s.extract lo hi=u:=XA (by
 rw [←h]
 simp only [ByteArray.data_extract,Array.toList_extract]
 rw [List.extract_eq_take_drop,List.drop_take])
variable {n:Nat} {C:Cx} {Q:Exit→Act→World→Prop} {E E':List (Nat×Value)} {F F' F1 Fs F0:List Pf} {R R' R0 Rs N N' A:List HP} {k k':List Fr} {ops l:List Oper} {L L':List (Nat×Nat)} {Tl:List Nat} {i d:Nat} {t ty0:TypeId} {x y:Operand} {pos:String} {aft:Array Edge} {gd:Option (Nat×Bool)}
section
variable {t2:TypeId} {z y2:Operand}
theorem run_smid {s:ByteArray} {z1 z2:Int} {rs:TRow} {w:World} (lo hi:Nat) (hlo:lo≤hi) (hle:hi≤s.size) (hts:lookT tab t=some rs) (hrs:rs.k = .str) (h1:z1=(lo:Int)) (h2:z2=(hi:Int)):(Instr.sliceAt t (.string s) (some (.int .i64 z1)) (some (.int .i64 z2)) none).run prog w = .ok (.string (s.extract lo hi)) w:=by
 subst h1 h2
 have hu:=XU (w:=w) hts hrs
 have hb:(Instr.sliceBound (.int .i64 (hi:Int)) s.size .sliceAlen).run prog w = .ok hi w:=by
  simp only [Instr.sliceBound,asIntOf,Sem.run_bind,Sem.run_pure,Result.andThen]
  rw [if_pos ⟨by omega,by omega⟩]
  simp
 have hc:(Instr.sliceBound (.int .i64 (lo:Int)) hi .sliceB).run prog w = .ok lo w:=by
  simp only [Instr.sliceBound,asIntOf,Sem.run_bind,Sem.run_pure,Result.andThen]
  rw [if_pos ⟨by omega,by omega⟩]
  simp
 simp [Instr.sliceAt,Instr.slice,Instr.sliceBounds,Sem.run_bind,hu,Result.andThen,hb,hc]
theorem Yf {s u:ByteArray} {z1 z2:Int} {rs:TRow} (lo hi:Nat) (hlo:lo≤hi) (hle:hi≤s.size) (hu:(s.data.toList.take hi).drop lo=u.data.toList) (nx:Wl n C ops.toArray k Q l ((d,.string u)::E) F R)
  (hw:wantL ops E ⟨some d,.slice t x (some y) (some y2) none,ty0,pos,aft,gd⟩=some true:=by rfl) (hn:Nat.blt d n=true:=by rfl) (hx:ev E x=some (.string s):=by rfl) (hy:ev E y=some (.int .i64 z1):=by rfl) (hy2:ev E y2=some (.int .i64 z2):=by rfl)
  (hts:lookT tab t=some rs:=by rfl) (hrs:rs.k = .str:=by rfl) (h1:z1=(lo:Int):=by first|rfl|omega) (h2:z2=(hi:Int):=by first|rfl|omega):Wl n C ops.toArray k Q (⟨some d,.slice t x (some y) (some y2) none,ty0,pos,aft,gd⟩::l) E F R:=
 l_q (fun a w ha=>by
  simp only [execOp,Option.map_some,Option.map_none,ha.ev (x:=x) (by rw [ZS];exact hx),ha.ev (x:=y) (by rw [ZS];exact hy),ha.ev (x:=y2) (by rw [ZS];exact hy2),Sem.run_bind,run_smid (w:=w) lo hi hlo hle hts hrs h1 h2,Result.andThen,Sem.run_pure,ext_mid hu]) nx (by intro c h;cases h) hw hn
end
theorem WY (a b:List UInt8):ofL a++ofL b=ofL (a++b):=by
 apply ByteArray.ext;simp [ByteArray.data_append,ofL]
set_option maxHeartbeats 2000000 in
theorem X4 (s:ByteArray) (hs:s.size≤1000000):Enters 62∧Spec prog 62 #[.string s] [] [] (RetV (.string (quoF s))):=by
 have hsz:s.data.toList.length=s.size:=by show _=s.data.size;simp
 refine ZR [_] func62 ntmps62 fun G w hp=>?_
 repeat' (first|refine ZF ?_|refine ZI ?_|refine ZG ?_|refine ZH ?_|refine ZL ?_|refine ZJ ?_|refine ZN ?_|refine ZK (fun b=>?_)|refine ZM (fun b=>?_)|refine ZC ?_|refine ZA ?_|(refine ZB (fun hc=>?_) (fun hc=>?_)<;>(try simp at hc))|(refine ZE (fun hc=>?_) (fun hc=>?_)<;>(try simp at hc)))
 refine YK (X:={i:Nat // i≤s.size}) (fun i=>[(0,.string s),(3,.string (ofL (34::(s.data.toList.take i.1).flatMap quoB))),(4,.int .i64 (i.1:Int))]) (fun _=>[]) (fun _=>[]) (fun i=>s.size - i.1) ⟨0,Nat.zero_le _⟩ ⟨rfl,rfl,rfl,trivial⟩ ?_
 rintro ⟨i,hi⟩
 dsimp only
 have hql:=VK (s.data.toList.take i)
 have htl:(s.data.toList.take i).length≤i:=by simp;omega
 by_cases hlt:i<s.data.toList.length
 ·have hcc:=List.getElem?_eq_getElem hlt
  have htk:=List.take_succ_eq_append_getElem hlt
  have hdd:=List.drop_eq_getElem_cons hlt
  have hlt2:i<s.size:=by omega
  generalize hce:s.data.toList[i]=c at *
  have w1:=wrapi (z:=(i:Int)+1) (by omega) (by omega)
  have hfin:∀acc:List UInt8,acc=34::(s.data.toList.take i).flatMap quoB++quoB c→acc=34::(s.data.toList.take (i+1)).flatMap quoB:=fun acc h=>by rw [h,htk];simp
  have hmid:(s.data.toList.take (i+1)).drop i=(ofL [c]).data.toList:=by
   rw [YH,List.drop_take,hdd,show i+1 - i=1 by omega];rfl
  have n34:(c.toNat:Int)=34↔c=34:=(u8i (k:=34) (by decide)).symm
  have n92:(c.toNat:Int)=92↔c=92:=(u8i (k:=92) (by decide)).symm
  have n10:(c.toNat:Int)=10↔c=10:=(u8i (k:=10) (by decide)).symm
  by_cases c2:c=10
  ·have p10:=n10.2 c2
   have hq:quoB c=[92,110]:=by rw [c2];rfl
   rw [hq] at hfin
   have hf:=hfin _ rfl
   have hcat:ofL (34::(s.data.toList.take i).flatMap quoB)++ofL [92,110]=ofL (34::(s.data.toList.take (i+1)).flatMap quoB):=by rw [WY,hf]
   repeat' (first|refine Zh (s:=s) i c hcc ?_|refine ZF ?_|refine ZI ?_|refine ZG ?_|refine ZH ?_|refine ZL ?_|refine ZJ ?_|refine ZN ?_|refine ZK (fun b=>?_)|refine ZM (fun b=>?_)|refine ZC ?_|refine ZA ?_|rw [w1]|refine Zj (a:=ofL (34::(s.data.toList.take i).flatMap quoB)) (b:=ofL [92,110]) ?_ (h:=by rw [Zs,Zs];simp only [List.length_cons,List.length_nil];omega)|rw [hcat]|(refine ZB (fun hc=>?_) (fun hc=>?_)<;>(try simp at hc)<;>(try omega))|(refine ZE (fun hc=>?_) (fun hc=>?_)<;>(try simp at hc)<;>(try omega)))
   all_goals exact ZV ⟨i+1,by omega⟩ (by show s.size - (i+1)<s.size - i;omega) ⟨rfl,rfl,rfl,trivial⟩
  have q10:¬(c.toNat:Int)=10:=fun h=>c2 (n10.1 h)
  by_cases c1:c=34∨c=92
  ·have k1:(c.toNat:Int)=34∨(c.toNat:Int)=92:=c1.imp n34.2 n92.2
   have hq:quoB c=[92,c]:=by unfold quoB;rw [if_pos (by simpa using c1)]
   rw [hq] at hfin
   have hf:=hfin _ rfl
   have hcat:ofL (34::(s.data.toList.take i).flatMap quoB)++ofL [92]=ofL (34::(s.data.toList.take i).flatMap quoB++[92]):=WY _ _
   have hcat2:ofL (34::(s.data.toList.take i).flatMap quoB++[92])++ofL [c]=ofL (34::(s.data.toList.take (i+1)).flatMap quoB):=by rw [WY,←hf];simp
   repeat' (first|refine Zh (s:=s) i c hcc ?_|refine ZF ?_|refine ZI ?_|refine ZG ?_|refine ZH ?_|refine ZL ?_|refine ZJ ?_|refine ZN ?_|refine ZK (fun b=>?_)|refine ZM (fun b=>?_)|refine ZC ?_|refine ZA ?_|rw [w1]|refine Yf (s:=s) (u:=ofL [c]) i (i+1) (by omega) (by omega) hmid ?_|refine Zj (a:=ofL (34::(s.data.toList.take i).flatMap quoB)) (b:=ofL [92]) ?_ (h:=by rw [Zs,Zs];simp only [List.length_cons,List.length_nil];omega)|refine Zj (a:=ofL (34::(s.data.toList.take i).flatMap quoB++[92])) (b:=ofL [c]) ?_ (h:=by rw [Zs,Zs];simp only [List.length_cons,List.length_append,List.length_nil];omega)|rw [hcat]|rw [hcat2]|(refine ZB (fun hc=>?_) (fun hc=>?_)<;>(try simp at hc)<;>(try omega))|(refine ZE (fun hc=>?_) (fun hc=>?_)<;>(try simp at hc)<;>(try omega)))
   all_goals exact ZV ⟨i+1,by omega⟩ (by show s.size - (i+1)<s.size - i;omega) ⟨rfl,rfl,rfl,trivial⟩
  have q34:¬(c.toNat:Int)=34:=fun h=>c1 (.inl (n34.1 h))
  have q92:¬(c.toNat:Int)=92:=fun h=>c1 (.inr (n92.1 h))
  have hq:quoB c=[c]:=by unfold quoB;rw [if_neg (by simpa using c1),if_neg (by simpa using c2)]
  rw [hq] at hfin
  have hf:=hfin _ rfl
  have hcat:ofL (34::(s.data.toList.take i).flatMap quoB)++ofL [c]=ofL (34::(s.data.toList.take (i+1)).flatMap quoB):=by rw [WY,hf]
  repeat' (first|refine Zh (s:=s) i c hcc ?_|refine ZF ?_|refine ZI ?_|refine ZG ?_|refine ZH ?_|refine ZL ?_|refine ZJ ?_|refine ZN ?_|refine ZK (fun b=>?_)|refine ZM (fun b=>?_)|refine ZC ?_|refine ZA ?_|rw [w1]|refine Yf (s:=s) (u:=ofL [c]) i (i+1) (by omega) (by omega) hmid ?_|refine Zj (a:=ofL (34::(s.data.toList.take i).flatMap quoB)) (b:=ofL [c]) ?_ (h:=by rw [Zs,Zs];simp only [List.length_cons,List.length_nil];omega)|rw [hcat]|(refine ZB (fun hc=>?_) (fun hc=>?_)<;>(try simp at hc)<;>(try omega))|(refine ZE (fun hc=>?_) (fun hc=>?_)<;>(try simp at hc)<;>(try omega)))
  all_goals exact ZV ⟨i+1,by omega⟩ (by show s.size - (i+1)<s.size - i;omega) ⟨rfl,rfl,rfl,trivial⟩
 ·have hie:i=s.size:=by omega
  have ht:s.data.toList.take i=s.data.toList:=List.take_of_length_le (by omega)
  rw [ht] at hql ⊢
  have hlt2:¬i<s.size:=by omega
  have hcat:ofL (34::s.data.toList.flatMap quoB)++ofL [34]=quoF s:=WY _ _
  repeat' (first|refine ZF ?_|refine ZI ?_|refine ZG ?_|refine ZH ?_|refine ZL ?_|refine ZJ ?_|refine ZN ?_|refine ZK (fun b=>?_)|refine ZM (fun b=>?_)|refine ZC ?_|refine ZA ?_|refine ZO ?_|refine Zj (a:=ofL (34::s.data.toList.flatMap quoB)) (b:=ofL [34]) ?_ (h:=by rw [Zs,Zs];simp only [List.length_cons,List.length_nil];omega)|rw [hcat]|(refine ZB (fun hc=>?_) (fun hc=>?_)<;>(try simp at hc)<;>(try omega))|(refine ZE (fun hc=>?_) (fun hc=>?_)<;>(try simp at hc)<;>(try omega)))
  all_goals exact ZP () rfl trivial
theorem u8_lt (c:UInt8):(c.toNat:Int)<256:=by have:=c.toNat_lt;omega
set_option maxHeartbeats 4000000 in
theorem mpNumber_ok (bp:Nat) (l:List Tk) (o:Option Addr) (cap:Nat) (hl:LOK l) (m:Mq) (q:Kx l m):Enters 167∧Spec prog 167 #[.pointer (some ⟨bp,0,none⟩)] [TmS o cap l] [Pt bp (mqC m l.length q.1 o cap)] (MqP (.int .i64 (numM m).1) bp l (numM m).2 o cap):=by
 have n30:=Zm bp l o cap m q 30
 have n3:=Zm bp l o cap m q 3
 have n2:=Zm bp l o cap m q 2
 obtain ⟨k,hk⟩:=q
 generalize hy:numM m=y at *
 unfold numM at hy
 obtain ⟨tk,en,op,e,cl⟩:=m
 dsimp only at hk n30 n3 n2 hy ⊢
 refine ZR [_] func167 ntmps167 fun G w hp=>?_
 by_cases he:e=0
 ·subst he
  cases tk with
  | nil=>
   rw [if_pos (.inr rfl)] at hy
   subst hy
   have n1:=YL bp l o cap en op 0 cl k hk
   repeat' (first|refine ZF ?_|refine ZI ?_|refine ZG ?_|refine ZH ?_|refine ZL ?_|refine ZJ ?_|refine ZN ?_|refine ZK (fun b=>?_)|refine ZM (fun b=>?_)|refine ZC ?_|refine ZA ?_|refine ZO ?_|refine ZD (n1) (fun _ _=>?_)|refine l_call0 (n1) (fun _ _=>?_)|refine ZD (n30) (fun _ _=>?_)|refine l_call0 (n30) (fun _ _=>?_)|(refine ZB (fun hc=>?_) (fun hc=>?_)<;>(try simp at hc)<;>(try omega))|(refine ZE (fun hc=>?_) (fun hc=>?_)<;>(try simp at hc)<;>(try omega)))
   all_goals (rename_i qq _;exact ZP qq rfl trivial)
  | cons t ts=>
   have n1:=YN bp l o cap t ts en op 0 cl k hk
   have htm:=List.mem_of_getElem? (Zz hk).1
   have ht:TmOK t:=hl.1 t htm
   have htk:=hl.2.2 t htm
   obtain ⟨_,hkl,hk3⟩:=Zz hk
   have hll:=hl.2.1
   have w1:=wrapi (z:=(k:Int)+1) (by omega) (by omega)
   by_cases h1:t.kd=2
   ·have q1:=(kdB_2 ht).2 h1
    have hsz0:=ht.2
    obtain ⟨hne,hin⟩:=htk.2 h1
    rw [if_neg (by simp [Mq.has,h1])] at hy
    have hhd:(⟨t::ts,en,op,0,cl⟩:Mq).hd=t.tx:=rfl
    rw [hhd] at hy
    obtain ⟨kd,tx,pl⟩:=t
    dsimp only at hsz0 hne hin hy q1 h1
    rw [q1] at n1
    have n4:=Ys tx 46
    have i1:=WF tx.data.toList 46
    have hsz:tx.data.toList.length=tx.size:=by show _=tx.data.size;simp
    have hs0:0<tx.size:=by
     have:0<tx.data.toList.length:=List.length_pos_iff.2 hne
     omega
    have hlt0:0<tx.data.toList.length:=by omega
    have hc0:=List.getElem?_eq_getElem hlt0
    generalize hce:tx.data.toList[0]=c at *
    have hh:tx.data.toList.head? = some c:=by rw [List.head?_eq_getElem?,hc0]
    have hbad:badN tx=(tx.data.toList.contains 46 || (decide (1<tx.size) && decide ((c.toNat:Int)=48))):=by
     unfold badN
     rw [hh]
     congr 2
     rw [Bool.eq_iff_iff]
     simp only [beq_iff_eq,Option.some.injEq,decide_eq_true_eq]
     exact u8i (k:=48) (by decide)
    by_cases c1:tx.data.toList.contains 46=true
    ·have hz:0≤Lib.indexByte tx.data.toList 46:=by rw [c1] at i1;simpa using i1
     generalize Lib.indexByte tx.data.toList 46=z at *
     rw [if_pos (by rw [hbad,c1];rfl)] at hy
     subst hy
     repeat' (first|refine ZF ?_|refine ZI ?_|refine ZG ?_|refine ZH ?_|refine ZL ?_|refine ZJ ?_|refine ZN ?_|refine ZK (fun b=>?_)|refine ZM (fun b=>?_)|refine ZC ?_|refine ZA ?_|refine ZO ?_|refine ZD (n1) (fun _ _=>?_)|refine l_call0 (n1) (fun _ _=>?_)|refine ZD (n3) (fun _ _=>?_)|refine l_call0 (n3) (fun _ _=>?_)|refine ZD (n4) (fun _ _=>?_)|refine l_call0 (n4) (fun _ _=>?_)|(refine ZB (fun hc=>?_) (fun hc=>?_)<;>(try simp at hc)<;>(try omega))|(refine ZE (fun hc=>?_) (fun hc=>?_)<;>(try simp at hc)<;>(try omega)))
     all_goals (rename_i qq _;exact ZP qq rfl trivial)
    have c1:tx.data.toList.contains 46=false:=by simpa using c1
    have hz:¬0≤Lib.indexByte tx.data.toList 46:=by rw [c1] at i1;simpa using i1
    generalize Lib.indexByte tx.data.toList 46=z at *
    by_cases c2:1<tx.size∧(c.toNat:Int)=48
    ·obtain ⟨c2,c3⟩:=c2
     rw [if_pos (by rw [hbad,c1];simp [c2,c3])] at hy
     subst hy
     repeat' (first|refine ZF ?_|refine ZI ?_|refine ZG ?_|refine ZH ?_|refine ZL ?_|refine ZJ ?_|refine ZN ?_|refine ZK (fun b=>?_)|refine ZM (fun b=>?_)|refine ZC ?_|refine ZA ?_|refine ZO ?_|refine ZD (n1) (fun _ _=>?_)|refine l_call0 (n1) (fun _ _=>?_)|refine ZD (n3) (fun _ _=>?_)|refine l_call0 (n3) (fun _ _=>?_)|refine ZD (n4) (fun _ _=>?_)|refine l_call0 (n4) (fun _ _=>?_)|refine Zh (s:=tx) 0 c hc0 ?_|(refine ZB (fun hc=>?_) (fun hc=>?_)<;>(try simp at hc)<;>(try omega))|(refine ZE (fun hc=>?_) (fun hc=>?_)<;>(try simp at hc)<;>(try omega)))
     all_goals (rename_i qq _;exact ZP qq rfl trivial)
    rw [if_neg (by rw [hbad,c1];simpa using c2)] at hy
    have hdg:∀x ∈ tx.data.toList,48≤(x.toNat:Int):=by
     intro x hx
     have h4:=hin x hx
     have h5:¬x=46:=fun h=>by
      subst h
      have:=List.contains_iff_mem.2 hx
      rw [c1] at this;cases this
     simp only [inNum,isDgt,Bool.or_eq_true,Bool.and_eq_true,decide_eq_true_eq,beq_iff_eq] at h4
     rcases h4 with h4|h4
     ·omega
     ·exact absurd h4 h5
    generalize hN:numL tx.data.toList 0=N at *
    by_cases c2a:1<tx.size
    ·have c48:¬(c.toNat:Int)=48:=fun h=>c2 ⟨c2a,h⟩
     repeat' (first|refine ZF ?_|refine ZI ?_|refine ZG ?_|refine ZH ?_|refine ZL ?_|refine ZJ ?_|refine ZN ?_|refine ZK (fun b=>?_)|refine ZM (fun b=>?_)|refine ZC ?_|refine ZA ?_|refine ZD (n1) (fun _ _=>?_)|refine l_call0 (n1) (fun _ _=>?_)|refine ZD (n4) (fun _ _=>?_)|refine l_call0 (n4) (fun _ _=>?_)|refine Zh (s:=tx) 0 c hc0 ?_|(refine ZB (fun hc=>?_) (fun hc=>?_)<;>(try simp at hc)<;>(try omega))|(refine ZE (fun hc=>?_) (fun hc=>?_)<;>(try simp at hc)<;>(try omega)))
     refine YK (X:={p:Nat×Int // p.1≤tx.size∧numL (tx.data.toList.drop p.1) p.2=N∧0≤p.2∧p.2≤20000000000}) (fun p=>[(0,.pointer (some ⟨bp,0,none⟩)),(3,.pointer (some ⟨b,0,none⟩)),(4,.int .i64 p.1.2),(5,.int .i64 (p.1.1:Int))]) (fun _=>[TmS o cap l]) (fun _=>[Pt bp (mqC ⟨⟨kd,tx,pl⟩::ts,en,op,0,cl⟩ l.length k o cap),Pt b (.cells #[.int .u8 110,.string tx,.int .i64 (pl+1)] 110)]) (fun p=>tx.size - p.1.1) ⟨(0,0),Nat.zero_le _,hN,Int.le_refl _,by show (0:Int)≤20000000000;omega⟩ ⟨rfl,rfl,rfl,rfl,trivial⟩ ?_
     rintro ⟨⟨i,n⟩,j1,j2,j3,j4⟩
     dsimp only at j1 j2 j3 j4 ⊢
     by_cases hlt:i<tx.data.toList.length
     ·have hcc:=List.getElem?_eq_getElem hlt
      have hdr:=List.drop_eq_getElem_cons hlt
      have hlt2:i<tx.size:=by omega
      have hd48:=hdg _ (List.getElem_mem hlt)
      generalize hde:tx.data.toList[i]=d at *
      have hd256:=u8_lt d
      rw [hdr] at j2
      by_cases hn:n≤1073741824
      ·rw [numL,if_pos hn] at j2
       have w2:=wrapi (z:=10 * n) (by omega) (by omega)
       have w3:=wrapi (z:=10 * n+(d.toNat:Int)) (by omega) (by omega)
       have w4:=wrapi (z:=10 * n+(d.toNat:Int) - 48) (by omega) (by omega)
       have w5:=wrapi (z:=(i:Int)+1) (by omega) (by omega)
       have w6:=wrapi (z:=(d.toNat:Int)) (by omega) (by omega)
       repeat' (first|refine ZF ?_|refine ZI ?_|refine ZG ?_|refine ZH ?_|refine ZL ?_|refine ZJ ?_|refine ZN ?_|refine ZK (fun b=>?_)|refine ZM (fun b=>?_)|refine ZC ?_|refine ZA ?_|refine Zh (s:=tx) i d hcc ?_|rw [w2]|rw [w3]|rw [w4]|rw [w5]|rw [w6]|(refine ZB (fun hc=>?_) (fun hc=>?_)<;>(try simp at hc)<;>(try omega))|(refine ZE (fun hc=>?_) (fun hc=>?_)<;>(try simp at hc)<;>(try omega)))
       all_goals exact ZV ⟨(i+1,10 * n+(d.toNat:Int) - 48),by show i+1≤tx.size;omega,j2,by show (0:Int)≤10 * n+(d.toNat:Int) - 48;omega,by show 10 * n+(d.toNat:Int) - 48≤20000000000;omega⟩ (by show tx.size - (i+1)<tx.size - i;omega) ⟨rfl,rfl,rfl,rfl,trivial⟩
      ·rw [numL,if_neg hn] at j2
       subst j2
       rw [if_pos (by omega)] at hy
       subst hy
       repeat' (first|refine ZF ?_|refine ZI ?_|refine ZG ?_|refine ZH ?_|refine ZL ?_|refine ZJ ?_|refine ZN ?_|refine ZK (fun b=>?_)|refine ZM (fun b=>?_)|refine ZC ?_|refine ZA ?_|refine ZO ?_|refine ZD (n2) (fun _ _=>?_)|refine l_call0 (n2) (fun _ _=>?_)|(refine ZB (fun hc=>?_) (fun hc=>?_)<;>(try simp at hc)<;>(try omega))|(refine ZE (fun hc=>?_) (fun hc=>?_)<;>(try simp at hc)<;>(try omega)))
       all_goals (rename_i qq _;exact ZP qq rfl trivial)
     ·have hd:tx.data.toList.drop i=[]:=List.drop_eq_nil_of_le (by omega)
      rw [hd] at j2
      have hlt2:¬i<tx.size:=by omega
      have j2:n=N:=j2
      subst j2
      by_cases hbig:1073741824<n
      ·rw [if_pos hbig] at hy
       subst hy
       repeat' (first|refine ZF ?_|refine ZI ?_|refine ZG ?_|refine ZH ?_|refine ZL ?_|refine ZJ ?_|refine ZN ?_|refine ZK (fun b=>?_)|refine ZM (fun b=>?_)|refine ZC ?_|refine ZA ?_|refine ZO ?_|refine ZD (n2) (fun _ _=>?_)|refine l_call0 (n2) (fun _ _=>?_)|(refine ZB (fun hc=>?_) (fun hc=>?_)<;>(try simp at hc)<;>(try omega))|(refine ZE (fun hc=>?_) (fun hc=>?_)<;>(try simp at hc)<;>(try omega)))
       all_goals (rename_i qq _;exact ZP qq rfl trivial)
      ·rw [if_neg hbig] at hy
       subst hy
       repeat' (first|refine ZF ?_|refine ZI ?_|refine ZG ?_|refine ZH ?_|refine ZL ?_|refine ZJ ?_|refine ZN ?_|refine ZK (fun b=>?_)|refine ZM (fun b=>?_)|refine ZC ?_|refine ZA ?_|refine ZO ?_|rw [w1]|(refine ZB (fun hc=>?_) (fun hc=>?_)<;>(try simp at hc)<;>(try omega))|(refine ZE (fun hc=>?_) (fun hc=>?_)<;>(try simp at hc)<;>(try omega)))
       all_goals exact ZP ⟨k+1,hk3⟩ rfl trivial
    ·repeat' (first|refine ZF ?_|refine ZI ?_|refine ZG ?_|refine ZH ?_|refine ZL ?_|refine ZJ ?_|refine ZN ?_|refine ZK (fun b=>?_)|refine ZM (fun b=>?_)|refine ZC ?_|refine ZA ?_|refine ZD (n1) (fun _ _=>?_)|refine l_call0 (n1) (fun _ _=>?_)|refine ZD (n4) (fun _ _=>?_)|refine l_call0 (n4) (fun _ _=>?_)|refine Zh (s:=tx) 0 c hc0 ?_|(refine ZB (fun hc=>?_) (fun hc=>?_)<;>(try simp at hc)<;>(try omega))|(refine ZE (fun hc=>?_) (fun hc=>?_)<;>(try simp at hc)<;>(try omega)))
     refine YK (X:={p:Nat×Int // p.1≤tx.size∧numL (tx.data.toList.drop p.1) p.2=N∧0≤p.2∧p.2≤20000000000}) (fun p=>[(0,.pointer (some ⟨bp,0,none⟩)),(3,.pointer (some ⟨b,0,none⟩)),(4,.int .i64 p.1.2),(5,.int .i64 (p.1.1:Int))]) (fun _=>[TmS o cap l]) (fun _=>[Pt bp (mqC ⟨⟨kd,tx,pl⟩::ts,en,op,0,cl⟩ l.length k o cap),Pt b (.cells #[.int .u8 110,.string tx,.int .i64 (pl+1)] 110)]) (fun p=>tx.size - p.1.1) ⟨(0,0),Nat.zero_le _,hN,Int.le_refl _,by show (0:Int)≤20000000000;omega⟩ ⟨rfl,rfl,rfl,rfl,trivial⟩ ?_
     rintro ⟨⟨i,n⟩,j1,j2,j3,j4⟩
     dsimp only at j1 j2 j3 j4 ⊢
     by_cases hlt:i<tx.data.toList.length
     ·have hcc:=List.getElem?_eq_getElem hlt
      have hdr:=List.drop_eq_getElem_cons hlt
      have hlt2:i<tx.size:=by omega
      have hd48:=hdg _ (List.getElem_mem hlt)
      generalize hde:tx.data.toList[i]=d at *
      have hd256:=u8_lt d
      rw [hdr] at j2
      by_cases hn:n≤1073741824
      ·rw [numL,if_pos hn] at j2
       have w2:=wrapi (z:=10 * n) (by omega) (by omega)
       have w3:=wrapi (z:=10 * n+(d.toNat:Int)) (by omega) (by omega)
       have w4:=wrapi (z:=10 * n+(d.toNat:Int) - 48) (by omega) (by omega)
       have w5:=wrapi (z:=(i:Int)+1) (by omega) (by omega)
       have w6:=wrapi (z:=(d.toNat:Int)) (by omega) (by omega)
       repeat' (first|refine ZF ?_|refine ZI ?_|refine ZG ?_|refine ZH ?_|refine ZL ?_|refine ZJ ?_|refine ZN ?_|refine ZK (fun b=>?_)|refine ZM (fun b=>?_)|refine ZC ?_|refine ZA ?_|refine Zh (s:=tx) i d hcc ?_|rw [w2]|rw [w3]|rw [w4]|rw [w5]|rw [w6]|(refine ZB (fun hc=>?_) (fun hc=>?_)<;>(try simp at hc)<;>(try omega))|(refine ZE (fun hc=>?_) (fun hc=>?_)<;>(try simp at hc)<;>(try omega)))
       all_goals exact ZV ⟨(i+1,10 * n+(d.toNat:Int) - 48),by show i+1≤tx.size;omega,j2,by show (0:Int)≤10 * n+(d.toNat:Int) - 48;omega,by show 10 * n+(d.toNat:Int) - 48≤20000000000;omega⟩ (by show tx.size - (i+1)<tx.size - i;omega) ⟨rfl,rfl,rfl,rfl,trivial⟩
      ·rw [numL,if_neg hn] at j2
       subst j2
       rw [if_pos (by omega)] at hy
       subst hy
       repeat' (first|refine ZF ?_|refine ZI ?_|refine ZG ?_|refine ZH ?_|refine ZL ?_|refine ZJ ?_|refine ZN ?_|refine ZK (fun b=>?_)|refine ZM (fun b=>?_)|refine ZC ?_|refine ZA ?_|refine ZO ?_|refine ZD (n2) (fun _ _=>?_)|refine l_call0 (n2) (fun _ _=>?_)|(refine ZB (fun hc=>?_) (fun hc=>?_)<;>(try simp at hc)<;>(try omega))|(refine ZE (fun hc=>?_) (fun hc=>?_)<;>(try simp at hc)<;>(try omega)))
       all_goals (rename_i qq _;exact ZP qq rfl trivial)
     ·have hd:tx.data.toList.drop i=[]:=List.drop_eq_nil_of_le (by omega)
      rw [hd] at j2
      have hlt2:¬i<tx.size:=by omega
      have j2:n=N:=j2
      subst j2
      by_cases hbig:1073741824<n
      ·rw [if_pos hbig] at hy
       subst hy
       repeat' (first|refine ZF ?_|refine ZI ?_|refine ZG ?_|refine ZH ?_|refine ZL ?_|refine ZJ ?_|refine ZN ?_|refine ZK (fun b=>?_)|refine ZM (fun b=>?_)|refine ZC ?_|refine ZA ?_|refine ZO ?_|refine ZD (n2) (fun _ _=>?_)|refine l_call0 (n2) (fun _ _=>?_)|(refine ZB (fun hc=>?_) (fun hc=>?_)<;>(try simp at hc)<;>(try omega))|(refine ZE (fun hc=>?_) (fun hc=>?_)<;>(try simp at hc)<;>(try omega)))
       all_goals (rename_i qq _;exact ZP qq rfl trivial)
      ·rw [if_neg hbig] at hy
       subst hy
       repeat' (first|refine ZF ?_|refine ZI ?_|refine ZG ?_|refine ZH ?_|refine ZL ?_|refine ZJ ?_|refine ZN ?_|refine ZK (fun b=>?_)|refine ZM (fun b=>?_)|refine ZC ?_|refine ZA ?_|refine ZO ?_|rw [w1]|(refine ZB (fun hc=>?_) (fun hc=>?_)<;>(try simp at hc)<;>(try omega))|(refine ZE (fun hc=>?_) (fun hc=>?_)<;>(try simp at hc)<;>(try omega)))
       all_goals exact ZP ⟨k+1,hk3⟩ rfl trivial
   ·have q1:¬kdB t=110:=fun h=>h1 ((kdB_2 ht).1 h)
    rw [if_pos (.inr (by simpa [Mq.has] using h1))] at hy
    subst hy
    repeat' (first|refine ZF ?_|refine ZI ?_|refine ZG ?_|refine ZH ?_|refine ZL ?_|refine ZJ ?_|refine ZN ?_|refine ZK (fun b=>?_)|refine ZM (fun b=>?_)|refine ZC ?_|refine ZA ?_|refine ZO ?_|refine ZD (n1) (fun _ _=>?_)|refine l_call0 (n1) (fun _ _=>?_)|refine ZD (n30) (fun _ _=>?_)|refine l_call0 (n30) (fun _ _=>?_)|(refine ZB (fun hc=>?_) (fun hc=>?_)<;>(try simp at hc)<;>(try omega))|(refine ZE (fun hc=>?_) (fun hc=>?_)<;>(try simp at hc)<;>(try omega)))
    all_goals (rename_i qq _;exact ZP qq rfl trivial)
 ·rw [if_pos (.inl he)] at hy
  subst hy
  cases tk with
  | nil=>
   have n1:=YL bp l o cap en op e cl k hk
   repeat' (first|refine ZF ?_|refine ZI ?_|refine ZG ?_|refine ZH ?_|refine ZL ?_|refine ZJ ?_|refine ZN ?_|refine ZK (fun b=>?_)|refine ZM (fun b=>?_)|refine ZC ?_|refine ZA ?_|refine ZO ?_|refine ZD (n1) (fun _ _=>?_)|refine l_call0 (n1) (fun _ _=>?_)|refine ZD (n30) (fun _ _=>?_)|refine l_call0 (n30) (fun _ _=>?_)|(refine ZB (fun hc=>?_) (fun hc=>?_)<;>(try simp at hc)<;>(try omega))|(refine ZE (fun hc=>?_) (fun hc=>?_)<;>(try simp at hc)<;>(try omega)))
   all_goals (rename_i qq _;exact ZP qq rfl trivial)
  | cons t ts=>
   have n1:=YN bp l o cap t ts en op e cl k hk
   repeat' (first|refine ZF ?_|refine ZI ?_|refine ZG ?_|refine ZH ?_|refine ZL ?_|refine ZJ ?_|refine ZN ?_|refine ZK (fun b=>?_)|refine ZM (fun b=>?_)|refine ZC ?_|refine ZA ?_|refine ZO ?_|refine ZD (n1) (fun _ _=>?_)|refine l_call0 (n1) (fun _ _=>?_)|refine ZD (n30) (fun _ _=>?_)|refine l_call0 (n30) (fun _ _=>?_)|(refine ZB (fun hc=>?_) (fun hc=>?_)<;>(try simp at hc)<;>(try omega))|(refine ZE (fun hc=>?_) (fun hc=>?_)<;>(try simp at hc)<;>(try omega)))
   all_goals (rename_i qq _;exact ZP qq rfl trivial)
theorem run_b2s1 {w:World} {b:Nat} {z:Int} {cs:Array Value} {T:TypeId} {fz:Nat×Nat} (hb:w.heap[b]? = some (.cells cs T fz)) (hcs:cs.toList=[.int .u8 z]) :
  (Conv.bytesToString (.slice (some ⟨b,0,none⟩) 1 1)).run prog w = .ok (.string ⟨#[UInt8.ofNat z.toNat]⟩) w:=by
 rw [run_bytesToString (ns:=[z])]
 ·rfl
 ·unfold loadCells
  have hl:cs.size=1:=by rw [←Array.length_toList,hcs];rfl
  rw [YT hb 0 1 0 #[] (by omega)]
  simp [hcs]
section
variable {b:Nat} {t2 td:TypeId}
theorem l_b2s1 {T:Nat} {z:Int} {cs:Array Value} {ty:TypeId} {fzn:Nat×Nat} {rs tr rd:TRow} (nx:Wl n C ops.toArray k Q l ((d,.string ⟨#[UInt8.ofNat z.toNat]⟩)::E) F R)
  (hw:wantL ops E ⟨some d,.convert t td x,ty0,pos,aft,gd⟩=some true:=by rfl) (hn:Nat.blt d n=true:=by rfl) (hx:ev E x=some (.slice (some ⟨b,0,none⟩) 1 1):=by rfl)
  (hs:Sel (Pt b (.cells cs ty fzn)) R R0:=by (repeat (first|exact Sel.here|apply Sel.there));first|done|fail) (hcs:cs.toList=[.int .u8 z]:=by rfl)
  (hts:lookT tab t=some rs:=by rfl) (hrs:rs.k = .slice T:=by rfl) (hT:lookT tab T=some tr:=by rfl) (hTk:tr.k = .int .u8:=by rfl) (htd:lookT tab td=some rd:=by rfl) (hrd:rd.k = .str:=by rfl) :
  Wl n C ops.toArray k Q (⟨some d,.convert t td x,ty0,pos,aft,gd⟩::l) E F R:=
 YO (fun t ht=>by cases ht;exact Nat.le_of_ble_eq_true hn) (fun c hc=>by cases hc) hw fun a w ha hsat=>by
  have hr1:=run_b2s1 (hsat.pt hs) hcs
  unfold OpRes
  simp only [execOp,ha.ev (x:=x) (by rw [ZS];exact hx),convert,run_und hts hrs,XU htd hrd,run_undI hT hTk,Sem.run_bind,Result.andThen,Sem.run_pure,hr1]
  exact fun a' ha'=>nx a' w ha' hsat
end
theorem itoa_lt {u:Nat} (h:u<10):Lib.itoa (u:Int)=[UInt8.ofNat (48+u)]:=by
 unfold Lib.itoa;rw [if_neg (by omega),Int.toNat_natCast,Lib.decDigits,dif_pos h]
theorem itoa_ge {u:Nat} (h:¬u<10):Lib.itoa (u:Int)=Lib.itoa ((u / 10:Nat):Int)++[UInt8.ofNat (48+u % 10)]:=by
 unfold Lib.itoa;rw [if_neg (by omega),if_neg (by omega),Int.toNat_natCast,Int.toNat_natCast,Lib.decDigits,dif_neg h]
theorem itoa_neg {u:Nat} (h:u≠0):Lib.itoa (-(u:Int))=45::Lib.itoa (u:Int):=by
 unfold Lib.itoa;rw [if_pos (by omega),if_neg (by omega),Int.toNat_natCast,Int.natAbs_neg,Int.natAbs_natCast]
theorem dec_len2:∀(k n:Nat),n<10 ^ k→(Lib.decDigits n).length≤k+1
 | 0,n,h=>by rw [Lib.decDigits,dif_pos (by omega)];simp
 | k+1,n,h=>by
  rw [Lib.decDigits]
  split
  ·simp
  ·have:=dec_len2 k (n / 10) (by rw [Nat.pow_succ] at h;omega)
   simp only [List.length_append,List.length_cons,List.length_nil]
   omega
theorem Vg (n:Int) (h0 : -9223372036854775808≤n) (h1:n≤9223372036854775807):(Lib.itoa n).length≤22:=by
 unfold Lib.itoa
 split
 ·have:=dec_len2 20 n.natAbs (by omega)
  simp;omega
 ·have:=dec_len2 20 n.toNat (by omega)
  omega
theorem dig_q:∀d<10,UInt8.ofNat (IntKind.u8.wrap (48+((d:Nat):Int))).toNat=UInt8.ofNat (48+d):=by decide
set_option maxHeartbeats 4000000 in
theorem digP_ok:∀(m u:Nat),u<m→(u:Int)≤9223372036854775807→
  Enters 43∧Spec prog 43 #[.int .i64 (u:Int)] [] [] (RetV (.string (ofL (Lib.itoa (u:Int)))))
 | 0,_,h,_=>absurd h (by omega)
 | m+1,u,hm,h1=>by
  have q1:(u:Int).tdiv 10=((u / 10:Nat):Int):=rfl
  have q2:(u:Int).tmod 10=((u % 10:Nat):Int):=rfl
  have w1:IntKind.i64.wrap ((u / 10:Nat):Int)=((u / 10:Nat):Int):=wrapi (by omega) (by omega)
  by_cases c2:u<10
  ·have w2:IntKind.i64.wrap (48+(u:Int))=48+(u:Int):=wrapi (by omega) (by omega)
   refine ZR [_] func43 ntmps43 fun G w hp=>?_
   repeat' (first|refine r_b2s1 (fun b=>?_)|refine ZF ?_|refine ZI ?_|refine ZG ?_|refine ZH ?_|refine ZL ?_|refine ZJ ?_|refine ZN ?_|refine ZK (fun b=>?_)|refine ZM (fun b=>?_)|refine ZC ?_|refine ZA ?_|refine ZO ?_|refine l_b2s1 ?_|rw [w2]|(refine ZB (fun hc=>?_) (fun hc=>?_)<;>(try simp at hc)<;>(try omega))|(refine ZE (fun hc=>?_) (fun hc=>?_)<;>(try simp at hc)<;>(try omega)))
   all_goals refine ZP () ?_ trivial
   all_goals show Value.string _=Value.string _
   all_goals congr 1
   ·rw [dig_q u c2,itoa_lt c2]
  ·have ih:=digP_ok m (u / 10) (by omega) (by omega)
   have ih2:=digP_ok m (u % 10) (by omega) (by omega)
   have hl:=Vg ((u / 10:Nat):Int) (by omega) (by omega)
   have hl2:=Vg ((u % 10:Nat):Int) (by omega) (by omega)
   refine ZR [_] func43 ntmps43 fun G w hp=>?_
   repeat' (first|refine ZF ?_|refine ZI ?_|refine ZG ?_|refine ZH ?_|refine ZL ?_|refine ZJ ?_|refine ZN ?_|refine ZK (fun b=>?_)|refine ZM (fun b=>?_)|refine ZC ?_|refine ZA ?_|refine ZO ?_|refine ZD (ih) (fun _ _=>?_)|refine l_call0 (ih) (fun _ _=>?_)|refine ZD (ih2) (fun _ _=>?_)|refine l_call0 (ih2) (fun _ _=>?_)|rw [q1]|rw [q2]|rw [w1]|refine Zj ?_|refine Z7 ?_|(refine ZB (fun hc=>?_) (fun hc=>?_)<;>(try simp at hc)<;>(try omega))|(refine ZE (fun hc=>?_) (fun hc=>?_)<;>(try simp at hc)<;>(try omega)))
   all_goals refine ZP () ?_ trivial
   all_goals show Value.string _=Value.string _
   all_goals congr 1
   ·rw [itoa_ge c2,itoa_lt (u:=u % 10) (by omega)]
    apply ByteArray.ext;simp [ByteArray.data_append]
set_option maxHeartbeats 4000000 in
theorem digits_ok (n:Int) (h0 : -9223372036854775807≤n) (h1:n≤9223372036854775807) :
  Enters 43∧Spec prog 43 #[.int .i64 n] [] [] (RetV (.string (ofL (Lib.itoa n)))):=by
 by_cases c1:n<0
 ·obtain ⟨u,rfl⟩:∃u:Nat,n = -(u:Int):=⟨n.natAbs,by omega⟩
  have ih:=digP_ok (u+1) u (by omega) (by omega)
  have w2:IntKind.i64.wrap (0 - -(u:Int))=(u:Int):=by rw [wrapi (by omega) (by omega)];omega
  have hl:=Vg (u:Int) (by omega) (by omega)
  refine ZR [_] func43 ntmps43 fun G w hp=>?_
  repeat' (first|refine ZF ?_|refine ZI ?_|refine ZG ?_|refine ZH ?_|refine ZL ?_|refine ZJ ?_|refine ZN ?_|refine ZK (fun b=>?_)|refine ZM (fun b=>?_)|refine ZC ?_|refine ZA ?_|refine ZO ?_|refine ZD (ih) (fun _ _=>?_)|refine l_call0 (ih) (fun _ _=>?_)|rw [w2]|refine Zj ?_|refine Z7 ?_|(refine ZB (fun hc=>?_) (fun hc=>?_)<;>(try simp at hc)<;>(try omega))|(refine ZE (fun hc=>?_) (fun hc=>?_)<;>(try simp at hc)<;>(try omega)))
  all_goals refine ZP () ?_ trivial
  all_goals show Value.string _=Value.string _
  all_goals congr 1
  ·rw [itoa_neg (by omega)]
   apply ByteArray.ext;simp [ByteArray.data_append]
 ·obtain ⟨u,rfl⟩:∃u:Nat,n=(u:Int):=⟨n.toNat,by omega⟩
  exact digP_ok (u+1) u (by omega) (by omega)
theorem pos_iff (a k:Int):posF a k=true↔((a=1∨a=2)∧(k=2∨k=3))∨(a=3∧(k=3∨k=4))∨(a=4∧k=4)∨(a=5∧(k=2∨k=3∨k=4)):=by
 unfold posF
 split
 ·rw [decide_eq_true_iff];omega
 split
 ·rw [decide_eq_true_iff];omega
 split
 ·rw [decide_eq_true_iff];omega
 split
 ·rw [decide_eq_true_iff];omega
 ·constructor
  ·intro h;cases h
  ·omega
set_option maxHeartbeats 4000000 in
theorem possibleM_ok (a k:Int):Enters 20∧Spec prog 20 #[.int .i64 a,.int .i64 k] [] [] (RetV (.bool (posF a k))):=by
 have hpz:=pos_iff a k
 refine ZR [_,_] func20 ntmps20 fun G w hp=>?_
 repeat' (first|refine ZF ?_|refine ZI ?_|refine ZG ?_|refine ZH ?_|refine ZL ?_|refine ZJ ?_|refine ZN ?_|refine ZK (fun b=>?_)|refine ZM (fun b=>?_)|refine ZC ?_|refine ZA ?_|refine ZO ?_|(refine ZB (fun hc=>?_) (fun hc=>?_)<;>(try simp at hc)<;>(try omega))|(refine ZE (fun hc=>?_) (fun hc=>?_)<;>(try simp at hc)<;>(try omega)))
 all_goals refine ZP () ?_ trivial
 all_goals show Value.bool _=Value.bool _
 all_goals congr 1
 all_goals rw [Bool.eq_iff_iff,hpz]
 all_goals first|(simp;omega)|omega
set_option maxHeartbeats 4000000 in
theorem V9 (a k:Int):Enters 19∧Spec prog 19 #[.int .i64 a,.int .i64 k] [] [] (RetV (.bool (posF a k))):=by
 have hpz:=pos_iff a k
 refine ZR [_,_] func19 ntmps19 fun G w hp=>?_
 repeat' (first|refine ZF ?_|refine ZI ?_|refine ZG ?_|refine ZH ?_|refine ZL ?_|refine ZJ ?_|refine ZN ?_|refine ZK (fun b=>?_)|refine ZM (fun b=>?_)|refine ZC ?_|refine ZA ?_|refine ZO ?_|(refine ZB (fun hc=>?_) (fun hc=>?_)<;>(try simp at hc)<;>(try omega))|(refine ZE (fun hc=>?_) (fun hc=>?_)<;>(try simp at hc)<;>(try omega)))
 all_goals refine ZP () ?_ trivial
 all_goals show Value.bool _=Value.bool _
 all_goals congr 1
 all_goals rw [Bool.eq_iff_iff,hpz]
 all_goals first|(simp;omega)|omega
theorem X8 {α:Type} {b:Nat} {cs:Array Value} {T U:Nat} {f:α→List Value} {es:List α} {cap:Nat} {h:H} (hb:(Blk b (.cells cs U)).p h) (e:cs.toList=es.flatMap f) (hc:es.length≤cap):(Sl T f (some ⟨b,0,none⟩) cap es).p h:=
 ⟨hc,.inr ⟨b,cs,(U,0,0),[],[],rfl,hb,by rw [e];simp⟩⟩
def tmZ (o:Option Nat):Value:=match o with
 | none=>.int .i64 (-1)
 | some i=>.int .i64 (i:Int)
abbrev skl (s:ByteArray):List Value:=[.string s]
def fldP (r:List UInt8) (j:Nat):Nat:=(wFlds.take j).foldl (fun n w=>if (w.data.toList++[125]).isPrefixOf r then w.size+1 else n) 0
theorem fldP_end (r:List UInt8):fldP r 7=fldAt r:=rfl
theorem fldP_step {r:List UInt8} {j:Nat} {w:ByteArray} (h:wFlds[j]? = some w):fldP r (j+1)=if (w.data.toList++[125]).isPrefixOf r then w.size+1 else fldP r j:=by
 unfold fldP
 obtain ⟨hlt,he⟩:=List.getElem?_eq_some_iff.1 h
 rw [List.take_succ_eq_append_getElem hlt,List.foldl_append,he]
 rfl
theorem fld_pre3 {s w:ByteArray} {i:Nat}:(w.data.toList++[125]).isPrefixOf (s.data.toList.drop (i+1))=true↔i+w.size+2≤s.size∧(s.extract (i+1) (i+1+w.size)).toList=w.toList∧s.data.toList[i+1+w.size]? = some 125:=by
 have hw:w.data.toList.length=w.size:=lsz w
 have hs:s.data.toList.length=s.size:=lsz s
 rw [List.isPrefixOf_iff_prefix,XI]
 have e1:(s.extract (i+1) (i+1+w.size)).data.toList=(s.data.toList.drop (i+1)).take w.size:=by
  rw [ByteArray.data_extract,Array.toList_extract,List.extract_eq_take_drop];congr 1;omega
 constructor
 ·rintro ⟨t,ht⟩
  have hl:=congrArg List.length ht
  simp only [List.length_append,List.length_drop,List.length_singleton] at hl
  refine ⟨by omega,?_,?_⟩
  ·apply XA;rw [e1,←ht,List.append_assoc,List.take_append_of_le_length (by omega),←hw,List.take_length]
  ·rw [←List.getElem?_drop,←ht,List.append_assoc,List.getElem?_append_right (by omega),hw];simp
 ·rintro ⟨h1,h2,h3⟩
  have h2:(s.extract (i+1) (i+1+w.size)).data.toList=w.data.toList:=by rw [h2]
  rw [e1] at h2
  rw [←List.getElem?_drop] at h3
  refine ⟨(s.data.toList.drop (i+1)).drop (w.size+1),?_⟩
  obtain ⟨h4,h5⟩:=List.getElem?_eq_some_iff.1 h3
  have h6:=List.drop_eq_getElem_cons h4
  rw [h5] at h6
  rw [List.append_assoc,List.singleton_append,←h6,←h2,List.take_append_drop]
set_option maxHeartbeats 4000000 in
theorem Vi (s:ByteArray) (hs:s.size≤1000000):Enters 16∧Spec prog 16 #[.string s] [] [] (RetV (tmZ (tmF s.data.toList 0 0))):=by
 have hsz:=lsz s
 obtain ⟨V,hV⟩:∃V,tmZ (tmF s.data.toList 0 0)=V:=⟨_,rfl⟩
 rw [hV]
 refine ZR [_] func16 ntmps16 fun G w hp=>?_
 repeat' (first|refine ZF ?_|refine ZI ?_|refine ZG ?_|refine ZH ?_|refine ZL ?_|refine ZJ ?_|refine ZN ?_|refine ZK (fun b=>?_)|refine ZM (fun b=>?_)|refine ZC ?_|refine ZA ?_|(refine ZB (fun hc=>?_) (fun hc=>?_)<;>(try simp at hc))|(refine ZE (fun hc=>?_) (fun hc=>?_)<;>(try simp at hc)))
 refine YK (X:={i:Nat // i≤s.size∧tmZ (tmF (s.data.toList.drop i) 0 i)=V}) (fun i=>[(0,.string s),(3,.int .i64 (i.1:Int))]) (fun _=>[]) (fun _=>[]) (fun i=>s.size - i.1) ⟨0,Nat.zero_le _,hV⟩ ⟨rfl,rfl,trivial⟩ ?_
 rintro ⟨i,hi,hR⟩
 dsimp only at hi hR ⊢
 by_cases hlt:i<s.data.toList.length
 ·have hcc:=List.getElem?_eq_getElem hlt
  have hdr:=List.drop_eq_getElem_cons hlt
  generalize hce:s.data.toList[i]=c at *
  have hlt2:i<s.size:=by omega
  rw [hdr] at hR
  have w1:=wrapi (z:=(i:Int)+1) (by omega) (by omega)
  have w2:=wrapi (z:=(i:Int)+1+1) (by omega) (by omega)
  have hd2:(s.data.toList.drop (i+1)).drop 1=s.data.toList.drop (i+2):=by rw [List.drop_drop]
  have two:∀(p:s.size ≥ i+2),tmZ (tmF (s.data.toList.drop (i+1)) 1 (i+1))=V→tmZ (tmF (s.data.toList.drop (i+2)) 0 (i+2))=V:=fun _ h=>by rw [XN,hd2] at h;exact h
  by_cases c1:c=125
  ·have k1:(c.toNat:Int)=125:=by rw [c1];rfl
   rw [tmF,if_pos c1] at hR
   by_cases hlt3:i+1<s.data.toList.length
   ·have hcd:=List.getElem?_eq_getElem hlt3
    have hhd:(s.data.toList.drop (i+1)).head? = some s.data.toList[i+1]:=by rw [List.head?_drop];exact hcd
    generalize hde:s.data.toList[i+1]=d at *
    have hlt4:i+1<s.size:=by omega
    rw [hhd] at hR
    by_cases d1:d=125
    ·have k2:(d.toNat:Int)=125:=by rw [d1];rfl
     rw [if_pos (by rw [d1])] at hR
     repeat' (first|refine Zh (s:=s) (i+1) d hcd ?_|refine Zh (s:=s) i c hcc ?_|refine ZF ?_|refine ZI ?_|refine ZG ?_|refine ZH ?_|refine ZL ?_|refine ZJ ?_|refine ZN ?_|refine ZK (fun b=>?_)|refine ZM (fun b=>?_)|refine ZC ?_|refine ZA ?_|rw [w1]|rw [w2]|(refine ZB (fun hc=>?_) (fun hc=>?_)<;>(try simp at hc)<;>(try omega))|(refine ZE (fun hc=>?_) (fun hc=>?_)<;>(try simp at hc)<;>(try omega)))
     all_goals exact ZV ⟨i+2,by show i+2≤s.size;omega,two (by omega) hR⟩ (by show s.size - (i+2)<s.size - i;omega) ⟨rfl,rfl,trivial⟩
    ·have k2:¬(d.toNat:Int)=125:=fun h=>d1 ((u8i (k:=125) (by decide)).2 h)
     rw [if_neg (by simpa using d1)] at hR
     subst hR
     repeat' (first|refine Zh (s:=s) (i+1) d hcd ?_|refine Zh (s:=s) i c hcc ?_|refine ZF ?_|refine ZI ?_|refine ZG ?_|refine ZH ?_|refine ZL ?_|refine ZJ ?_|refine ZN ?_|refine ZK (fun b=>?_)|refine ZM (fun b=>?_)|refine ZC ?_|refine ZA ?_|rw [w1]|rw [w2]|(refine ZB (fun hc=>?_) (fun hc=>?_)<;>(try simp at hc)<;>(try omega))|(refine ZE (fun hc=>?_) (fun hc=>?_)<;>(try simp at hc)<;>(try omega)))
     all_goals exact Zv (Zu (Zi () rfl trivial))
   ·have hd:s.data.toList.drop (i+1)=[]:=List.drop_eq_nil_of_le (by omega)
    have hlt4:¬i+1<s.size:=by omega
    rw [hd] at hR
    rw [if_neg (by simp)] at hR
    subst hR
    repeat' (first|refine Zh (s:=s) i c hcc ?_|refine ZF ?_|refine ZI ?_|refine ZG ?_|refine ZH ?_|refine ZL ?_|refine ZJ ?_|refine ZN ?_|refine ZK (fun b=>?_)|refine ZM (fun b=>?_)|refine ZC ?_|refine ZA ?_|rw [w1]|(refine ZB (fun hc=>?_) (fun hc=>?_)<;>(try simp at hc)<;>(try omega))|(refine ZE (fun hc=>?_) (fun hc=>?_)<;>(try simp at hc)<;>(try omega)))
    all_goals exact Zv (Zu (Zi () rfl trivial))
  have k1:¬(c.toNat:Int)=125:=fun h=>c1 ((u8i (k:=125) (by decide)).2 h)
  rw [tmF,if_neg c1] at hR
  by_cases c2:c=123
  ·have k3:(c.toNat:Int)=123:=by rw [c2];rfl
   rw [if_pos c2] at hR
   by_cases hx:(s.data.toList.drop (i+1)).head? = some 123
   ·rw [if_pos hx] at hR
    have hcd:s.data.toList[i+1]? = some 123:=by rw [←hx,List.head?_drop]
    have hlt4:i+1<s.size:=by
     have:=(List.getElem?_eq_some_iff.1 hcd).1;omega
    repeat' (first|refine Zh (s:=s) (i+1) 123 hcd ?_|refine Zh (s:=s) i c hcc ?_|refine ZF ?_|refine ZI ?_|refine ZG ?_|refine ZH ?_|refine ZL ?_|refine ZJ ?_|refine ZN ?_|refine ZK (fun b=>?_)|refine ZM (fun b=>?_)|refine ZC ?_|refine ZA ?_|rw [w1]|rw [w2]|(refine ZB (fun hc=>?_) (fun hc=>?_)<;>(try simp at hc)<;>(try omega))|(refine ZE (fun hc=>?_) (fun hc=>?_)<;>(try simp at hc)<;>(try omega)))
    all_goals exact ZV ⟨i+2,by show i+2≤s.size;omega,two (by omega) hR⟩ (by show s.size - (i+2)<s.size - i;omega) ⟨rfl,rfl,trivial⟩
   ·rw [if_neg hx] at hR
    have hd1:∀d:UInt8,s.data.toList[i+1]? = some d→¬(d.toNat:Int)=123:=fun d hd h=>hx (by
     rw [List.head?_drop,hd,(u8i (k:=123) (by decide)).2 h];rfl)
    by_cases hlt3:i+1<s.data.toList.length
    ·have hcd:=List.getElem?_eq_getElem hlt3
     have k4:=hd1 _ hcd
     generalize hde:s.data.toList[i+1]=d at *
     have hlt4:i+1<s.size:=by omega
     repeat' (first|refine Zh (s:=s) (i+1) d hcd ?_|refine Zh (s:=s) i c hcc ?_|refine ZF ?_|refine ZI ?_|refine ZG ?_|refine ZH ?_|refine ZL ?_|refine ZJ ?_|refine ZN ?_|refine ZK (fun b=>?_)|refine ZM (fun b=>?_)|refine ZC ?_|refine ZA ?_|rw [w1]|rw [w2]|(refine ZB (fun hc=>?_) (fun hc=>?_)<;>(try simp at hc)<;>(try omega))|(refine ZE (fun hc=>?_) (fun hc=>?_)<;>(try simp at hc)<;>(try omega)))
     rename_i b
     refine Yo (b:=b) (o:=.cells (wFlds.map Value.string).toArray 9) ?_
     refine Zn (F1:=[Blk b (.cells (wFlds.map Value.string).toArray 9)]) (f:=Sl 9 skl (some ⟨b,0,none⟩) 7 wFlds) (fun hp hF=>X8 (hF _ (.head _)) rfl (by decide)) ?_
     refine YK (X:={q:Nat×Nat // q.1≤7∧q.2=fldP (s.data.toList.drop (i+1)) q.1}) (fun q=>[(0,.string s),(3,.int .i64 (i:Int)),(4,.int .i64 (q.1.2:Int)),(50,.slice (some ⟨b,0,none⟩) 7 7),(51,.int .i64 7),(52,.int .i64 (q.1.1:Int))]) (fun _=>[Sl 9 skl (some ⟨b,0,none⟩) 7 wFlds]) (fun _=>[]) (fun q=>7 - q.1.1) ⟨(0,0),Nat.zero_le _,rfl⟩ ⟨rfl,rfl,rfl,rfl,rfl,rfl,trivial⟩ ?_
     rintro ⟨⟨j,m⟩,hj,hm⟩
     dsimp only at hj hm ⊢
     have fin:tmZ (if m=0 then some i else tmF ((s.data.toList.drop (i+1)).drop m) 0 (i+1+m))=V∧m≤s.size - i - 1∨j<7:=by
      by_cases hj7:j<7
      ·exact .inr hj7
      ·obtain rfl:j=7:=by omega
       rw [fldP_end] at hm
       subst hm
       have hfe:=fldAt_eq (s.data.toList.drop (i+1))
       refine .inl ⟨?_,?_⟩
       ·rw [←hR]
        cases fldAt (s.data.toList.drop (i+1)) with
        | zero=>rfl
        | succ k=>
         rw [if_neg (by omega)]
         show tmZ _=tmZ (tmF _ (k+1) (i+1))
         rw [XN _ (k+1)]
       ·rw [hfe]
        split
        ·rename_i h;have:=h.1;rw [List.length_drop] at this;omega
        ·omega
     by_cases hj7:j<7
     ·have hw:=List.getElem?_eq_getElem (l:=wFlds) hj7
      have hwz:wFlds[j].size≤6:=(by decide:∀w ∈ wFlds,w.size≤6) _ (List.getElem_mem hj7)
      generalize wFlds[j]=w at *
      have hst:=fldP_step (r:=s.data.toList.drop (i+1)) hw
      have hp3:=fld_pre3 (s:=s) (w:=w) (i:=i)
      have w3:=wrapi (z:=(i:Int)+(w.size:Int)) (by omega) (by omega)
      have w4:=wrapi (z:=(i:Int)+(w.size:Int)+2) (by omega) (by omega)
      have w5:=wrapi (z:=(i:Int)+1+(w.size:Int)) (by omega) (by omega)
      have w6:=wrapi (z:=(j:Int)+1) (by omega) (by omega)
      have w7:=wrapi (z:=(w.size:Int)+1) (by omega) (by omega)
      have hu:(s.data.toList.take (i+1+w.size)).drop (i+1)=(s.extract (i+1) (i+1+w.size)).data.toList:=by
       rw [ByteArray.data_extract,Array.toList_extract,List.extract_eq_take_drop,List.drop_take]
      by_cases q1:i+w.size+2≤s.size
      ·have q1':¬(s.size:Int)<(i:Int)+(w.size:Int)+2:=by omega
       have hlt7:i+1+w.size<s.data.toList.length:=by omega
       have hcd7:=List.getElem?_eq_getElem hlt7
       generalize s.data.toList[i+1+w.size]=d7 at *
       generalize hue:s.extract (i+1) (i+1+w.size)=u at *
       by_cases q2:u=w
       ·have b2:=beqT q2
        by_cases q3:d7=125
        ·have k7:(d7.toNat:Int)=125:=by rw [q3];rfl
         rw [if_pos (hp3.2 ⟨q1,by rw [q2],by rw [hcd7,q3]⟩)] at hst
         repeat' (first|rw [b2]|refine Zh (s:=s) (i+1+w.size) d7 hcd7 ?_|refine Yf (s:=s) (u:=u) (i+1) (i+1+w.size) (by omega) (by omega) hu ?_|refine ZX ?_|refine ZW (es:=wFlds) (f:=skl) j _ hw (fun b off=>?_)|refine ZF ?_|refine ZI ?_|refine ZG ?_|refine ZH ?_|refine ZL ?_|refine ZJ ?_|refine ZN ?_|refine ZK (fun b=>?_)|refine ZM (fun b=>?_)|refine ZC ?_|refine ZA ?_|rw [w1]|rw [w3]|rw [w4]|rw [w5]|rw [w6]|rw [w7]|(refine ZB (fun hc=>?_) (fun hc=>?_)<;>(try simp at hc)<;>(try omega))|(refine ZE (fun hc=>?_) (fun hc=>?_)<;>(try simp at hc)<;>(try omega)))
         all_goals exact ZV ⟨(j+1,w.size+1),by show j+1≤7;omega,hst.symm⟩ (by show 7 - (j+1)<7 - j;omega) ⟨rfl,rfl,rfl,rfl,rfl,rfl,trivial⟩
        ·have k7:¬(d7.toNat:Int)=125:=fun h=>q3 ((u8i (k:=125) (by decide)).2 h)
         rw [if_neg (fun h=>q3 (Option.some.inj (hcd7.symm.trans (hp3.1 h).2.2)))] at hst
         repeat' (first|rw [b2]|refine Zh (s:=s) (i+1+w.size) d7 hcd7 ?_|refine Yf (s:=s) (u:=u) (i+1) (i+1+w.size) (by omega) (by omega) hu ?_|refine ZX ?_|refine ZW (es:=wFlds) (f:=skl) j _ hw (fun b off=>?_)|refine ZF ?_|refine ZI ?_|refine ZG ?_|refine ZH ?_|refine ZL ?_|refine ZJ ?_|refine ZN ?_|refine ZK (fun b=>?_)|refine ZM (fun b=>?_)|refine ZC ?_|refine ZA ?_|rw [w1]|rw [w3]|rw [w4]|rw [w5]|rw [w6]|rw [w7]|(refine ZB (fun hc=>?_) (fun hc=>?_)<;>(try simp at hc)<;>(try omega))|(refine ZE (fun hc=>?_) (fun hc=>?_)<;>(try simp at hc)<;>(try omega)))
         all_goals exact ZV ⟨(j+1,m),by show j+1≤7;omega,by rw [hst];exact hm⟩ (by show 7 - (j+1)<7 - j;omega) ⟨rfl,rfl,rfl,rfl,rfl,rfl,trivial⟩
       ·have b2:=beqF q2
        rw [if_neg (fun h=>q2 (XI.1 (hp3.1 h).2.1))] at hst
        repeat' (first|rw [b2]|refine Yf (s:=s) (u:=u) (i+1) (i+1+w.size) (by omega) (by omega) hu ?_|refine ZX ?_|refine ZW (es:=wFlds) (f:=skl) j _ hw (fun b off=>?_)|refine ZF ?_|refine ZI ?_|refine ZG ?_|refine ZH ?_|refine ZL ?_|refine ZJ ?_|refine ZN ?_|refine ZK (fun b=>?_)|refine ZM (fun b=>?_)|refine ZC ?_|refine ZA ?_|rw [w1]|rw [w3]|rw [w4]|rw [w5]|rw [w6]|rw [w7]|(refine ZB (fun hc=>?_) (fun hc=>?_)<;>(try simp at hc)<;>(try omega))|(refine ZE (fun hc=>?_) (fun hc=>?_)<;>(try simp at hc)<;>(try omega)))
        all_goals exact ZV ⟨(j+1,m),by show j+1≤7;omega,by rw [hst];exact hm⟩ (by show 7 - (j+1)<7 - j;omega) ⟨rfl,rfl,rfl,rfl,rfl,rfl,trivial⟩
      ·rw [if_neg (fun h=>q1 (hp3.1 h).1)] at hst
       repeat' (first|refine ZX ?_|refine ZW (es:=wFlds) (f:=skl) j _ hw (fun b off=>?_)|refine ZF ?_|refine ZI ?_|refine ZG ?_|refine ZH ?_|refine ZL ?_|refine ZJ ?_|refine ZN ?_|refine ZK (fun b=>?_)|refine ZM (fun b=>?_)|refine ZC ?_|refine ZA ?_|rw [w1]|rw [w3]|rw [w4]|rw [w5]|rw [w6]|rw [w7]|(refine ZB (fun hc=>?_) (fun hc=>?_)<;>(try simp at hc)<;>(try omega))|(refine ZE (fun hc=>?_) (fun hc=>?_)<;>(try simp at hc)<;>(try omega)))
       all_goals exact ZV ⟨(j+1,m),by show j+1≤7;omega,by rw [hst];exact hm⟩ (by show 7 - (j+1)<7 - j;omega) ⟨rfl,rfl,rfl,rfl,rfl,rfl,trivial⟩
     ·obtain ⟨f1,f2⟩:=fin.resolve_right hj7
      obtain rfl:j=7:=by omega
      by_cases hm0:m=0
      ·subst hm0
       rw [if_pos rfl] at f1
       subst f1
       repeat' (first|refine ZF ?_|refine ZI ?_|refine ZG ?_|refine ZH ?_|refine ZL ?_|refine ZJ ?_|refine ZN ?_|refine ZK (fun b=>?_)|refine ZM (fun b=>?_)|refine ZC ?_|refine ZA ?_|refine ZO ?_|(refine ZB (fun hc=>?_) (fun hc=>?_)<;>(try simp at hc)<;>(try omega))|(refine ZE (fun hc=>?_) (fun hc=>?_)<;>(try simp at hc)<;>(try omega)))
       all_goals exact Zv (Zu (Zi () rfl trivial))
      ·rw [if_neg hm0,List.drop_drop] at f1
       have w8:=wrapi (z:=(i:Int)+(m:Int)) (by omega) (by omega)
       have w9:=wrapi (z:=(i:Int)+(m:Int)+1) (by omega) (by omega)
       repeat' (first|refine ZF ?_|refine ZI ?_|refine ZG ?_|refine ZH ?_|refine ZL ?_|refine ZJ ?_|refine ZN ?_|refine ZK (fun b=>?_)|refine ZM (fun b=>?_)|refine ZC ?_|refine ZA ?_|refine ZO ?_|rw [w8]|rw [w9]|(refine ZB (fun hc=>?_) (fun hc=>?_)<;>(try simp at hc)<;>(try omega))|(refine ZE (fun hc=>?_) (fun hc=>?_)<;>(try simp at hc)<;>(try omega)))
       all_goals exact ZV ⟨i+m+1,by show i+m+1≤s.size;omega,by rw [←f1,show i+m+1=i+1+m by omega]⟩ (by show s.size - (i+m+1)<s.size - i;omega) ⟨rfl,rfl,trivial⟩
    ·have hd:s.data.toList.drop (i+1)=[]:=List.drop_eq_nil_of_le (by omega)
     have hlt4:¬i+1<s.size:=by omega
     repeat' (first|refine Zh (s:=s) i c hcc ?_|refine ZF ?_|refine ZI ?_|refine ZG ?_|refine ZH ?_|refine ZL ?_|refine ZJ ?_|refine ZN ?_|refine ZK (fun b=>?_)|refine ZM (fun b=>?_)|refine ZC ?_|refine ZA ?_|rw [w1]|rw [w2]|(refine ZB (fun hc=>?_) (fun hc=>?_)<;>(try simp at hc)<;>(try omega))|(refine ZE (fun hc=>?_) (fun hc=>?_)<;>(try simp at hc)<;>(try omega)))
     rename_i b
     refine Yo (b:=b) (o:=.cells (wFlds.map Value.string).toArray 9) ?_
     refine Zn (F1:=[Blk b (.cells (wFlds.map Value.string).toArray 9)]) (f:=Sl 9 skl (some ⟨b,0,none⟩) 7 wFlds) (fun hp hF=>X8 (hF _ (.head _)) rfl (by decide)) ?_
     refine YK (X:={q:Nat×Nat // q.1≤7∧q.2=fldP (s.data.toList.drop (i+1)) q.1}) (fun q=>[(0,.string s),(3,.int .i64 (i:Int)),(4,.int .i64 (q.1.2:Int)),(50,.slice (some ⟨b,0,none⟩) 7 7),(51,.int .i64 7),(52,.int .i64 (q.1.1:Int))]) (fun _=>[Sl 9 skl (some ⟨b,0,none⟩) 7 wFlds]) (fun _=>[]) (fun q=>7 - q.1.1) ⟨(0,0),Nat.zero_le _,rfl⟩ ⟨rfl,rfl,rfl,rfl,rfl,rfl,trivial⟩ ?_
     rintro ⟨⟨j,m⟩,hj,hm⟩
     dsimp only at hj hm ⊢
     have fin:tmZ (if m=0 then some i else tmF ((s.data.toList.drop (i+1)).drop m) 0 (i+1+m))=V∧m≤s.size - i - 1∨j<7:=by
      by_cases hj7:j<7
      ·exact .inr hj7
      ·obtain rfl:j=7:=by omega
       rw [fldP_end] at hm
       subst hm
       have hfe:=fldAt_eq (s.data.toList.drop (i+1))
       refine .inl ⟨?_,?_⟩
       ·rw [←hR]
        cases fldAt (s.data.toList.drop (i+1)) with
        | zero=>rfl
        | succ k=>
         rw [if_neg (by omega)]
         show tmZ _=tmZ (tmF _ (k+1) (i+1))
         rw [XN _ (k+1)]
       ·rw [hfe]
        split
        ·rename_i h;have:=h.1;rw [List.length_drop] at this;omega
        ·omega
     by_cases hj7:j<7
     ·have hw:=List.getElem?_eq_getElem (l:=wFlds) hj7
      have hwz:wFlds[j].size≤6:=(by decide:∀w ∈ wFlds,w.size≤6) _ (List.getElem_mem hj7)
      generalize wFlds[j]=w at *
      have hst:=fldP_step (r:=s.data.toList.drop (i+1)) hw
      have hp3:=fld_pre3 (s:=s) (w:=w) (i:=i)
      have w3:=wrapi (z:=(i:Int)+(w.size:Int)) (by omega) (by omega)
      have w4:=wrapi (z:=(i:Int)+(w.size:Int)+2) (by omega) (by omega)
      have w5:=wrapi (z:=(i:Int)+1+(w.size:Int)) (by omega) (by omega)
      have w6:=wrapi (z:=(j:Int)+1) (by omega) (by omega)
      have w7:=wrapi (z:=(w.size:Int)+1) (by omega) (by omega)
      have hu:(s.data.toList.take (i+1+w.size)).drop (i+1)=(s.extract (i+1) (i+1+w.size)).data.toList:=by
       rw [ByteArray.data_extract,Array.toList_extract,List.extract_eq_take_drop,List.drop_take]
      by_cases q1:i+w.size+2≤s.size
      ·have q1':¬(s.size:Int)<(i:Int)+(w.size:Int)+2:=by omega
       have hlt7:i+1+w.size<s.data.toList.length:=by omega
       have hcd7:=List.getElem?_eq_getElem hlt7
       generalize s.data.toList[i+1+w.size]=d7 at *
       generalize hue:s.extract (i+1) (i+1+w.size)=u at *
       by_cases q2:u=w
       ·have b2:=beqT q2
        by_cases q3:d7=125
        ·have k7:(d7.toNat:Int)=125:=by rw [q3];rfl
         rw [if_pos (hp3.2 ⟨q1,by rw [q2],by rw [hcd7,q3]⟩)] at hst
         repeat' (first|rw [b2]|refine Zh (s:=s) (i+1+w.size) d7 hcd7 ?_|refine Yf (s:=s) (u:=u) (i+1) (i+1+w.size) (by omega) (by omega) hu ?_|refine ZX ?_|refine ZW (es:=wFlds) (f:=skl) j _ hw (fun b off=>?_)|refine ZF ?_|refine ZI ?_|refine ZG ?_|refine ZH ?_|refine ZL ?_|refine ZJ ?_|refine ZN ?_|refine ZK (fun b=>?_)|refine ZM (fun b=>?_)|refine ZC ?_|refine ZA ?_|rw [w1]|rw [w3]|rw [w4]|rw [w5]|rw [w6]|rw [w7]|(refine ZB (fun hc=>?_) (fun hc=>?_)<;>(try simp at hc)<;>(try omega))|(refine ZE (fun hc=>?_) (fun hc=>?_)<;>(try simp at hc)<;>(try omega)))
         all_goals exact ZV ⟨(j+1,w.size+1),by show j+1≤7;omega,hst.symm⟩ (by show 7 - (j+1)<7 - j;omega) ⟨rfl,rfl,rfl,rfl,rfl,rfl,trivial⟩
        ·have k7:¬(d7.toNat:Int)=125:=fun h=>q3 ((u8i (k:=125) (by decide)).2 h)
         rw [if_neg (fun h=>q3 (Option.some.inj (hcd7.symm.trans (hp3.1 h).2.2)))] at hst
         repeat' (first|rw [b2]|refine Zh (s:=s) (i+1+w.size) d7 hcd7 ?_|refine Yf (s:=s) (u:=u) (i+1) (i+1+w.size) (by omega) (by omega) hu ?_|refine ZX ?_|refine ZW (es:=wFlds) (f:=skl) j _ hw (fun b off=>?_)|refine ZF ?_|refine ZI ?_|refine ZG ?_|refine ZH ?_|refine ZL ?_|refine ZJ ?_|refine ZN ?_|refine ZK (fun b=>?_)|refine ZM (fun b=>?_)|refine ZC ?_|refine ZA ?_|rw [w1]|rw [w3]|rw [w4]|rw [w5]|rw [w6]|rw [w7]|(refine ZB (fun hc=>?_) (fun hc=>?_)<;>(try simp at hc)<;>(try omega))|(refine ZE (fun hc=>?_) (fun hc=>?_)<;>(try simp at hc)<;>(try omega)))
         all_goals exact ZV ⟨(j+1,m),by show j+1≤7;omega,by rw [hst];exact hm⟩ (by show 7 - (j+1)<7 - j;omega) ⟨rfl,rfl,rfl,rfl,rfl,rfl,trivial⟩
       ·have b2:=beqF q2
        rw [if_neg (fun h=>q2 (XI.1 (hp3.1 h).2.1))] at hst
        repeat' (first|rw [b2]|refine Yf (s:=s) (u:=u) (i+1) (i+1+w.size) (by omega) (by omega) hu ?_|refine ZX ?_|refine ZW (es:=wFlds) (f:=skl) j _ hw (fun b off=>?_)|refine ZF ?_|refine ZI ?_|refine ZG ?_|refine ZH ?_|refine ZL ?_|refine ZJ ?_|refine ZN ?_|refine ZK (fun b=>?_)|refine ZM (fun b=>?_)|refine ZC ?_|refine ZA ?_|rw [w1]|rw [w3]|rw [w4]|rw [w5]|rw [w6]|rw [w7]|(refine ZB (fun hc=>?_) (fun hc=>?_)<;>(try simp at hc)<;>(try omega))|(refine ZE (fun hc=>?_) (fun hc=>?_)<;>(try simp at hc)<;>(try omega)))
        all_goals exact ZV ⟨(j+1,m),by show j+1≤7;omega,by rw [hst];exact hm⟩ (by show 7 - (j+1)<7 - j;omega) ⟨rfl,rfl,rfl,rfl,rfl,rfl,trivial⟩
      ·rw [if_neg (fun h=>q1 (hp3.1 h).1)] at hst
       repeat' (first|refine ZX ?_|refine ZW (es:=wFlds) (f:=skl) j _ hw (fun b off=>?_)|refine ZF ?_|refine ZI ?_|refine ZG ?_|refine ZH ?_|refine ZL ?_|refine ZJ ?_|refine ZN ?_|refine ZK (fun b=>?_)|refine ZM (fun b=>?_)|refine ZC ?_|refine ZA ?_|rw [w1]|rw [w3]|rw [w4]|rw [w5]|rw [w6]|rw [w7]|(refine ZB (fun hc=>?_) (fun hc=>?_)<;>(try simp at hc)<;>(try omega))|(refine ZE (fun hc=>?_) (fun hc=>?_)<;>(try simp at hc)<;>(try omega)))
       all_goals exact ZV ⟨(j+1,m),by show j+1≤7;omega,by rw [hst];exact hm⟩ (by show 7 - (j+1)<7 - j;omega) ⟨rfl,rfl,rfl,rfl,rfl,rfl,trivial⟩
     ·obtain ⟨f1,f2⟩:=fin.resolve_right hj7
      obtain rfl:j=7:=by omega
      by_cases hm0:m=0
      ·subst hm0
       rw [if_pos rfl] at f1
       subst f1
       repeat' (first|refine ZF ?_|refine ZI ?_|refine ZG ?_|refine ZH ?_|refine ZL ?_|refine ZJ ?_|refine ZN ?_|refine ZK (fun b=>?_)|refine ZM (fun b=>?_)|refine ZC ?_|refine ZA ?_|refine ZO ?_|(refine ZB (fun hc=>?_) (fun hc=>?_)<;>(try simp at hc)<;>(try omega))|(refine ZE (fun hc=>?_) (fun hc=>?_)<;>(try simp at hc)<;>(try omega)))
       all_goals exact Zv (Zu (Zi () rfl trivial))
      ·rw [if_neg hm0,List.drop_drop] at f1
       have w8:=wrapi (z:=(i:Int)+(m:Int)) (by omega) (by omega)
       have w9:=wrapi (z:=(i:Int)+(m:Int)+1) (by omega) (by omega)
       repeat' (first|refine ZF ?_|refine ZI ?_|refine ZG ?_|refine ZH ?_|refine ZL ?_|refine ZJ ?_|refine ZN ?_|refine ZK (fun b=>?_)|refine ZM (fun b=>?_)|refine ZC ?_|refine ZA ?_|refine ZO ?_|rw [w8]|rw [w9]|(refine ZB (fun hc=>?_) (fun hc=>?_)<;>(try simp at hc)<;>(try omega))|(refine ZE (fun hc=>?_) (fun hc=>?_)<;>(try simp at hc)<;>(try omega)))
       all_goals exact ZV ⟨i+m+1,by show i+m+1≤s.size;omega,by rw [←f1,show i+m+1=i+1+m by omega]⟩ (by show s.size - (i+m+1)<s.size - i;omega) ⟨rfl,rfl,trivial⟩
  ·have k3:¬(c.toNat:Int)=123:=fun h=>c2 ((u8i (k:=123) (by decide)).2 h)
   rw [if_neg c2] at hR
   repeat' (first|refine Zh (s:=s) i c hcc ?_|refine ZF ?_|refine ZI ?_|refine ZG ?_|refine ZH ?_|refine ZL ?_|refine ZJ ?_|refine ZN ?_|refine ZK (fun b=>?_)|refine ZM (fun b=>?_)|refine ZC ?_|refine ZA ?_|rw [w1]|(refine ZB (fun hc=>?_) (fun hc=>?_)<;>(try simp at hc)<;>(try omega))|(refine ZE (fun hc=>?_) (fun hc=>?_)<;>(try simp at hc)<;>(try omega)))
   all_goals exact ZV ⟨i+1,by show i+1≤s.size;omega,hR⟩ (by show s.size - (i+1)<s.size - i;omega) ⟨rfl,rfl,trivial⟩
 ·have hd:s.data.toList.drop i=[]:=List.drop_eq_nil_of_le (by omega)
  rw [hd] at hR
  have hlt2:¬i<s.size:=by omega
  subst hR
  repeat' (first|refine ZF ?_|refine ZI ?_|refine ZG ?_|refine ZH ?_|refine ZL ?_|refine ZJ ?_|refine ZN ?_|refine ZK (fun b=>?_)|refine ZM (fun b=>?_)|refine ZC ?_|refine ZA ?_|refine ZO ?_|(refine ZB (fun hc=>?_) (fun hc=>?_)<;>(try simp at hc)<;>(try omega))|(refine ZE (fun hc=>?_) (fun hc=>?_)<;>(try simp at hc)<;>(try omega)))
  exact ZP () rfl trivial
structure TC where
 op:ByteArray
 o:Option Addr
 ln:Nat
 cap:Nat
 rel:ByteArray
 tx:ByteArray
 n:Int
abbrev tcf (x:TC):List Value:=[.string x.op,.slice x.o x.ln x.cap,.string x.rel,.string x.tx,.int .i64 x.n]
abbrev tcv (x:TC):Value:=.agg #[.string x.op,.slice x.o x.ln x.cap,.string x.rel,.string x.tx,.int .i64 x.n]
abbrev TcS (o:Option Addr) (cap:Nat) (vs:List TC):Pf:=Sl 65 tcf o cap vs
mutual
def TcP (h:H):Tr5→TC→Prop
 | .mk op args rel tx n,x=>x.op=op∧x.rel=rel∧x.tx=tx∧x.n=n∧∃vs:List TC,x.ln=vs.length∧(TcS x.o x.cap vs).p h∧TcsP h args vs
def TcsP (h:H):List Tr5→List TC→Prop
 | [],vs=>vs=[]
 | t::l,vs=>∃v ws,vs=v::ws∧TcP h t v∧TcsP h l ws
end
mutual
theorem tcP_mono {h k:H} (s:Sub h k):∀(t:Tr5) (x:TC),TcP h t x→TcP k t x
 | .mk op args rel tx n,x,hh=>by
  rw [TcP] at hh ⊢
  obtain ⟨h1,h2,h3,h4,vs,h5,h6,h7⟩:=hh
  exact ⟨h1,h2,h3,h4,vs,h5,(TcS x.o x.cap vs).m h k s h6,Vw s args vs h7⟩
theorem Vw {h k:H} (s:Sub h k):∀(l:List Tr5) (vs:List TC),TcsP h l vs→TcsP k l vs
 | [],vs,hh=>by rw [TcsP] at hh ⊢;exact hh
 | t::l,vs,hh=>by
  rw [TcsP] at hh ⊢
  obtain ⟨v,ws,h1,h2,h3⟩:=hh
  exact ⟨v,ws,h1,tcP_mono s t v h2,Vw s l ws h3⟩
end
def TcF (t:Tr5) (x:TC):Pf:=⟨fun h=>TcP h t x,fun _ _ s hh=>tcP_mono s t x hh⟩
def TcsF (l:List Tr5) (vs:List TC):Pf:=⟨fun h=>TcsP h l vs,fun _ _ s hh=>Vw s l vs hh⟩
theorem tcsP_len {h:H}:∀{l:List Tr5} {vs:List TC},TcsP h l vs→vs.length=l.length
 | [],vs,hh=>by rw [TcsP] at hh;rw [hh];rfl
 | c::l,vs,hh=>by
  rw [TcsP] at hh
  obtain ⟨v,ws,rfl,_,h3⟩:=hh
  simp [tcsP_len h3]
theorem Vl {h:H}:∀{l m:List Tr5} {vs ws:List TC},TcsP h l vs→TcsP h m ws→TcsP h (l++m) (vs++ws)
 | [],m,vs,ws,h1,h2=>by rw [TcsP] at h1;subst h1;exact h2
 | c::l,m,vs,ws,h1,h2=>by
  rw [TcsP] at h1
  obtain ⟨v,us,rfl,h3,h4⟩:=h1
  rw [List.cons_append,TcsP]
  exact ⟨v,us++ws,rfl,h3,Vl h4 h2⟩
theorem Y6 {h:H} {c:Tr5} {v:TC}:TcsP h [c] [v]↔TcP h c v:=by
 rw [TcsP]
 constructor
 ·rintro ⟨v',ws,h1,h2,_⟩
  obtain ⟨rfl,_⟩:=List.cons.inj h1
  exact h2
 ·intro hh
  exact ⟨v,[],rfl,hh,by rw [TcsP]⟩
theorem YI {h:H} (w rel tx:ByteArray) (n:Int):TcP h (.mk w [] rel tx n) ⟨w,none,0,0,rel,tx,n⟩:=by
 rw [TcP]
 exact ⟨rfl,rfl,rfl,rfl,[],rfl,⟨Nat.le_refl _,.inl rfl⟩,by rw [TcsP]⟩
theorem WH {h:H} {w rel tx:ByteArray} {n:Int} {l:List Tr5} {o:Option Addr} {cap:Nat} {vs:List TC} (h1:(TcS o cap vs).p h) (h2:TcsP h l vs):TcP h (.mk w l rel tx n) ⟨w,o,vs.length,cap,rel,tx,n⟩:=by
 rw [TcP]
 exact ⟨rfl,rfl,rfl,rfl,vs,rfl,h1,h2⟩
abbrev TmP (bp:Nat) (l:List Tk) (y:Tr5×Mq) (o:Option Addr) (cap:Nat):Post:=⟨TC×Kx l y.2,fun q=>tcv q.1,fun _=>True,fun q=>[TcF y.1 q.1],fun q=>[Pt bp (mqC y.2 l.length q.2.1 o cap)]⟩
def wTst:List ByteArray:=wKinds++(wChan::(wTxs++(wNms++[wBy])))
theorem tst_mem (w:ByteArray):isTst w=true↔w ∈ wTst:=by
 have h1:idx w wKinds<3↔w ∈ wKinds:=Zg (l:=wKinds)
 have h2:idx w wTxs<3↔w ∈ wTxs:=Zg (l:=wTxs)
 have h3:idx w wNms<4↔w ∈ wNms:=Zg (l:=wNms)
 unfold isTst wTst
 simp only [Bool.or_eq_true,decide_eq_true_eq,h1,h2,h3,List.mem_append,List.mem_cons,or_assoc,List.not_mem_nil,or_false]
theorem tst_cls:∀i,i<12→(i<3→idx (wTst.getD i eB) wKinds<3)∧(i=3→wTst.getD i eB=wChan)∧(4≤i→i≤6→idx (wTst.getD i eB) wTxs<3)∧(7≤i→i≤10→idx (wTst.getD i eB) wNms<4)∧(i=11→wTst.getD i eB=wBy):=by decide
theorem tst_get {i:Nat} {w:ByteArray} (h:wTst[i]? = some w):wTst.getD i eB=w:=by simp [List.getD,h]
def testM (m:Mq):Tr5×Mq:=if m.e=0∧m.has (fun t=>decide (t.kd=1) && isTst t.tx)=true then tstM m.hd m.pass else (t0,m.fail 30)
theorem Y1 {m:Mq} {w:ByteArray} (h:m.word w=true):m.e=0∧m.hd=w∧∃t ts,m.tk=t::ts∧t.kd=1∧t.tx=w:=by
 obtain ⟨tk,en,op,e,cl⟩:=m
 simp only [Mq.word,Bool.and_eq_true,decide_eq_true_eq] at h
 cases tk with
 | nil=>exact absurd h.2 (by simp [Mq.has])
 | cons t ts=>
  have h2:t.kd=1∧t.tx=w:=by simpa [Mq.has,Mq.isW] using h.2
  exact ⟨h.1,h2.2,t,ts,rfl,h2.1,h2.2⟩
theorem Wa {m:Mq} {ws:List ByteArray} (he:m.e=0) (h:∀w ∈ ws,m.word w=false) (p:ByteArray→Bool) (hpw:∀w,p w=true→w ∈ ws):m.has (fun t=>decide (t.kd=1) && p t.tx)=false:=by
 obtain ⟨tk,en,op,e,cl⟩:=m
 cases tk with
 | nil=>rfl
 | cons t ts=>
  show (decide (t.kd=1) && p t.tx)=false
  by_cases h1:t.kd=1
  ·cases h2:p t.tx with
   | false=>simp
   | true=>
    have h3:=h t.tx (hpw _ h2)
    rw [show (⟨t::ts,en,op,e,cl⟩:Mq).word t.tx=(decide (e=0) && (decide (t.kd=1) && decide (t.tx=t.tx))) from rfl,show e=0 from he] at h3
    simp [h1] at h3
  ·simp [h1]
theorem VS {m:Mq} {w:ByteArray} (h:m.word w=true) (p:ByteArray→Bool) (hpw:p w=true):m.has (fun t=>decide (t.kd=1) && p t.tx)=true:=by
 obtain ⟨_,_,t,ts,h1,h2,h3⟩:=Y1 h
 obtain ⟨tk,en,op,e,cl⟩:=m
 subst h1
 show (decide (t.kd=1) && p t.tx)=true
 rw [h3,hpw,h2];rfl
theorem test_no {m:Mq} (h:∀w ∈ wTst,m.word w=false):testM m=(t0,m.fail 30):=by
 unfold testM
 rw [if_neg]
 rintro ⟨h1,h2⟩
 rw [Wa h1 h isTst (fun w hw=>(tst_mem w).1 hw)] at h2
 cases h2
theorem test_yes {m:Mq} {w:ByteArray} (h:m.word w=true) (hw:w ∈ wTst):testM m=tstM w m.pass:=by
 unfold testM
 rw [if_pos ⟨(Y1 h).1,VS h isTst ((tst_mem w).2 hw)⟩,(Y1 h).2.1]
theorem tst_kinds {w:ByteArray} (h:idx w wKinds<3) (m:Mq):tstM w m=(.mk w [] eB eB 0,m):=by
 unfold tstM
 rw [if_pos h]
theorem mts_chan (m:Mq):tstM wChan m=if m.has (fun t=>decide (t.kd=1) && decide (idx t.tx wChs<4)) then (.mk wChan [] m.hd eB ((idx m.hd wChs:Nat)+1),m.pass) else (.mk wChan [] eB eB 0,m.fail 30):=by
 unfold tstM
 rw [if_neg (by decide),if_pos rfl]
theorem tst_txs {w:ByteArray} (hi:idx w wTxs<3) (m:Mq):tstM w m=if m.has (fun t=>decide (t.kd=1) && decide (idx t.tx wCts<3)) then let r:=m.pass.take (fun t=>decide (t.kd=3));(.mk w [] m.hd r.1 0,r.2) else (.mk w [] eB eB 0,m.fail 30):=by
 have h1:¬idx w wKinds<3:=fun h=>(VV w (Zg.1 h)).2.1 hi
 have h2:¬w=wChan:=fun h=>by rw [h] at hi;exact chan_x.1 hi
 unfold tstM
 rw [if_neg h1,if_neg h2,if_pos hi]
theorem tst_nms {w:ByteArray} (hi:idx w wNms<4) (m:Mq):tstM w m=if m.has (fun t=>decide (t.kd=4) && decide (idx t.tx yCns<3)) then let r:=numM m.pass;(.mk w [] m.hd eB r.1,r.2) else (.mk w [] eB eB 0,m.fail 30):=by
 have h1:¬idx w wKinds<3:=fun h=>(VV w (Zg.1 h)).2.2 hi
 have h2:¬w=wChan:=fun h=>by rw [h] at hi;exact chan_x.2 hi
 have h3:¬idx w wTxs<3:=fun h=>txs_x w (Zg.1 h) hi
 unfold tstM
 rw [if_neg h1,if_neg h2,if_neg h3,if_pos hi]
theorem mts_by (m:Mq):tstM wBy m=(let m1:=if m.has (fun t=>decide (t.kd=2) && !lvalid t.tx.data.toList) then m.fail 12 else m
  let r:=m1.take (fun t=>decide (t.kd=2))
  (.mk wBy [] eB r.1 0,r.2)):=by
 unfold tstM
 rw [if_neg (by decide),if_neg (by decide),if_neg (by decide),if_neg (by decide)]
theorem ix_chs:∀i,i<4→idx (wChs.getD i eB) wChs=i:=by decide
theorem cns_kd {t:Tk} (ht:TmOK t):(t.kd=4∧idx t.tx yCns<3)↔(kdB t=61∨kdB t=60∨kdB t=62):=by
 have h1:=kdB_4 ht (c:=61) (by simp)
 have h2:=kdB_4 ht (c:=60) (by simp)
 have h3:=kdB_4 ht (c:=62) (by simp)
 have e1:∀s:ByteArray,Mq.isS s t=true↔t.kd=4∧t.tx=s:=fun s=>by simp [Mq.isS]
 rw [e1] at h1 h2 h3
 have hm:idx t.tx yCns<3↔t.tx ∈ yCns:=Zg (l:=yCns)
 have hy:t.tx ∈ yCns↔t.tx=ofL [61]∨t.tx=ofL [60]∨t.tx=ofL [62]:=by simp [yCns,ofL]
 rw [hm,hy]
 have k1:kdB t=61↔t.kd=4∧t.tx=ofL [61]:=h1
 have k2:kdB t=60↔t.kd=4∧t.tx=ofL [60]:=h2
 have k3:kdB t=62↔t.kd=4∧t.tx=ofL [62]:=h3
 rw [k1,k2,k3]
 constructor
 ·rintro ⟨h,h4|h4|h4⟩
  ·exact .inl ⟨h,h4⟩
  ·exact .inr (.inl ⟨h,h4⟩)
  ·exact .inr (.inr ⟨h,h4⟩)
 ·rintro (h|h|h)
  ·exact ⟨h.1,.inl h.2⟩
  ·exact ⟨h.1,.inr (.inl h.2)⟩
  ·exact ⟨h.1,.inr (.inr h.2)⟩
set_option maxHeartbeats 8000000 in
theorem mpTest_ok (bp:Nat) (l:List Tk) (o:Option Addr) (cap:Nat) (hl:LOK l) (m:Mq) (q:Kx l m):Enters 156∧Spec prog 156 #[.pointer (some ⟨bp,0,none⟩)] [TmS o cap l] [Pt bp (mqC m l.length q.1 o cap)] (TmP bp l (testM m) o cap):=by
 refine ZR [_] func156 ntmps156 fun G w hp=>?_
 repeat' (first|refine ZF ?_|refine ZI ?_|refine ZG ?_|refine ZH ?_|refine ZL ?_|refine ZJ ?_|refine ZN ?_|refine ZK (fun b=>?_)|refine ZM (fun b=>?_)|refine ZC ?_|refine ZA ?_|(refine ZB (fun hc=>?_) (fun hc=>?_)<;>(try simp at hc)<;>(try omega))|(refine ZE (fun hc=>?_) (fun hc=>?_)<;>(try simp at hc)<;>(try omega)))
 rename_i b0
 refine Yo (b:=b) (o:=.cells (wTst.map Value.string).toArray 9) ?_
 refine Zn (F1:=[Blk b (.cells (wTst.map Value.string).toArray 9)]) (f:=Sl 9 skl (some ⟨b,0,none⟩) 12 wTst) (fun hp hF=>X8 (hF _ (.head _)) rfl (by decide)) ?_
 refine YK (X:={p:Nat×Kx l m // p.1≤12∧∀j,j<p.1→m.word (wTst.getD j eB)=false}) (fun p=>[(0,.pointer (some ⟨bp,0,none⟩)),(2,.pointer (some ⟨b0,0,none⟩)),(3,.slice (some ⟨b,0,none⟩) 12 12),(4,.int .i64 (p.1.1:Int))]) (fun _=>[TmS o cap l,Sl 9 skl (some ⟨b,0,none⟩) 12 wTst]) (fun p=>[Pt bp (mqC m l.length p.1.2.1 o cap),Pt b0 (.cells #[.string ⟨#[]⟩,.slice none 0 0,.string ⟨#[]⟩,.string ⟨#[]⟩,.int .i64 0] 65)]) (fun p=>12 - p.1.1) ⟨(0,q),Nat.zero_le _,fun j hj=>absurd hj (Nat.not_lt_zero _)⟩ ⟨rfl,rfl,rfl,rfl,trivial⟩ ?_
 rintro ⟨⟨i,q⟩,hi,hno⟩
 dsimp only at hi hno ⊢
 by_cases h12:i<12
 ·have hw:=List.getElem?_eq_getElem (l:=wTst) h12
  have hcls:=tst_cls i h12
  have hwd:wTst.getD i eB=wTst[i]:=tst_get hw
  rw [hwd] at hcls
  have hwm:wTst[i] ∈ wTst:=List.getElem_mem h12
  generalize wTst[i]=wd at *
  have n1:=YS bp l o cap hl m q wd
  have w1:=wrapi (z:=(i:Int)+1) (by omega) (by omega)
  cases hwo:m.word wd with
  | false=>
   rw [hwo,if_neg (by decide)] at n1
   repeat' (first|refine ZX ?_|refine ZW (es:=wTst) (f:=skl) i wd hw (fun b off=>?_)|refine ZF ?_|refine ZI ?_|refine ZG ?_|refine ZH ?_|refine ZL ?_|refine ZJ ?_|refine ZN ?_|refine ZK (fun b=>?_)|refine ZM (fun b=>?_)|refine ZC ?_|refine ZA ?_|refine ZD (n1) (fun _ _=>?_)|refine l_call0 (n1) (fun _ _=>?_)|rw [w1]|(refine ZB (fun hc=>?_) (fun hc=>?_)<;>(try simp at hc)<;>(try omega))|(refine ZE (fun hc=>?_) (fun hc=>?_)<;>(try simp at hc)<;>(try omega)))
   rename_i q2 _
   exact ZV ⟨(i+1,q2),by show i+1≤12;omega,fun j hj=>by rcases Nat.lt_succ_iff_lt_or_eq.1 hj with h|h;exact hno j h;rw [h,hwd,hwo]⟩ (by show 12 - (i+1)<12 - i;omega) ⟨rfl,rfl,rfl,rfl,trivial⟩
  | true=>
   rw [hwo,if_pos rfl] at n1
   rw [test_yes hwo hwm]
   have he0:=(Y1 hwo).1
   have hpe:m.pass.e=0:=he0
   have hsub:∀t ∈ m.pass.tk,t ∈ l:=fun t ht=>List.mem_of_mem_drop (q.2 ▸ List.mem_of_mem_tail ht)
   generalize m.pass=mp at *
   by_cases c1:i<3
   ·rw [tst_kinds (hcls.1 c1)]
    repeat' (first|refine ZX ?_|refine ZW (es:=wTst) (f:=skl) i wd hw (fun b off=>?_)|refine ZF ?_|refine ZI ?_|refine ZG ?_|refine ZH ?_|refine ZL ?_|refine ZJ ?_|refine ZN ?_|refine ZK (fun b=>?_)|refine ZM (fun b=>?_)|refine ZC ?_|refine ZA ?_|refine ZD (n1) (fun _ _=>?_)|refine l_call0 (n1) (fun _ _=>?_)|(refine ZB (fun hc=>?_) (fun hc=>?_)<;>(try simp at hc)<;>(try omega))|(refine ZE (fun hc=>?_) (fun hc=>?_)<;>(try simp at hc)<;>(try omega)))
    rename_i q2 _ _ _ _ _
    refine Zn (F1:=[]) (f:=TcF (.mk wd [] eB eB 0) ⟨wd,none,0,0,eB,eB,0⟩) (fun hp _=>YI wd eB eB 0) ?_
    exact Zv (Zu (Zi (⟨wd,none,0,0,eB,eB,0⟩,q2) rfl trivial))
   by_cases c2:i=3
   ·have hwc:=hcls.2.1 c2
    subst hwc
    rw [mts_chan]
    repeat' (first|refine ZX ?_|refine ZW (es:=wTst) (f:=skl) i wChan hw (fun b off=>?_)|refine ZF ?_|refine ZI ?_|refine ZG ?_|refine ZH ?_|refine ZL ?_|refine ZJ ?_|refine ZN ?_|refine ZK (fun b=>?_)|refine ZM (fun b=>?_)|refine ZC ?_|refine ZA ?_|refine ZD (n1) (fun _ _=>?_)|refine l_call0 (n1) (fun _ _=>?_)|(refine ZB (fun hc=>?_) (fun hc=>?_)<;>(try simp at hc)<;>(try omega))|(refine ZE (fun hc=>?_) (fun hc=>?_)<;>(try simp at hc)<;>(try omega)))
    rename_i q2 _ _ bt
    refine Yo (b:=b) (o:=.cells (wChs.map Value.string).toArray 9) ?_
    refine Zn (F1:=[Blk b (.cells (wChs.map Value.string).toArray 9)]) (f:=Sl 9 skl (some ⟨b,0,none⟩) 4 wChs) (fun hp hF=>X8 (hF _ (.head _)) rfl (by decide)) ?_
    refine YK (X:={p:Nat×Kx l mp // p.1≤4∧∀j,j<p.1→mp.word (wChs.getD j eB)=false}) (fun p=>[(0,.pointer (some ⟨bp,0,none⟩)),(2,.pointer (some ⟨b0,0,none⟩)),(5,.pointer (some ⟨bt,0,none⟩)),(6,.slice (some ⟨b,0,none⟩) 4 4),(7,.int .i64 (p.1.1:Int))]) (fun _=>[TmS o cap l,Sl 9 skl (some ⟨b,0,none⟩) 4 wChs]) (fun p=>[Pt bp (mqC mp l.length p.1.2.1 o cap),Pt b0 (.cells #[.string ⟨#[]⟩,.slice none 0 0,.string ⟨#[]⟩,.string ⟨#[]⟩,.int .i64 0] 65),Pt bt (.cells #[.string wChan,.slice none 0 0,.string ⟨#[]⟩,.string ⟨#[]⟩,.int .i64 0] 65)]) (fun p=>4 - p.1.1) ⟨(0,q2),Nat.zero_le _,fun j hj=>absurd hj (Nat.not_lt_zero _)⟩ ⟨rfl,rfl,rfl,rfl,rfl,trivial⟩ ?_
    rintro ⟨⟨j,q3⟩,hj,hnj⟩
    dsimp only at hj hnj ⊢
    by_cases h4:j<4
    ·have hv:=List.getElem?_eq_getElem (l:=wChs) h4
     have hix:=ix_chs j h4
     have hvd:wChs.getD j eB=wChs[j]:=by simp [List.getD,hv]
     rw [hvd] at hix
     generalize wChs[j]=vd at *
     have n2:=YS bp l o cap hl mp q3 vd
     have w2:=wrapi (z:=(j:Int)+1) (by omega) (by omega)
     cases hvo:mp.word vd with
     | false=>
      rw [hvo,if_neg (by decide)] at n2
      repeat' (first|refine ZX ?_|refine ZW (es:=wChs) (f:=skl) j vd hv (fun b off=>?_)|refine ZF ?_|refine ZI ?_|refine ZG ?_|refine ZH ?_|refine ZL ?_|refine ZJ ?_|refine ZN ?_|refine ZK (fun b=>?_)|refine ZM (fun b=>?_)|refine ZC ?_|refine ZA ?_|refine ZD (n2) (fun _ _=>?_)|refine l_call0 (n2) (fun _ _=>?_)|rw [w2]|(refine ZB (fun hc=>?_) (fun hc=>?_)<;>(try simp at hc)<;>(try omega))|(refine ZE (fun hc=>?_) (fun hc=>?_)<;>(try simp at hc)<;>(try omega)))
      rename_i q4 _
      exact ZV ⟨(j+1,q4),by show j+1≤4;omega,fun j2 hj2=>by rcases Nat.lt_succ_iff_lt_or_eq.1 hj2 with h|h;exact hnj j2 h;rw [h,hvd,hvo]⟩ (by show 4 - (j+1)<4 - j;omega) ⟨rfl,rfl,rfl,rfl,rfl,trivial⟩
     | true=>
      rw [hvo,if_pos rfl] at n2
      rw [if_pos (VS hvo (fun x=>decide (idx x wChs<4)) (by rw [hix];simpa using h4)),(Y1 hvo).2.1,hix]
      repeat' (first|refine ZX ?_|refine ZW (es:=wChs) (f:=skl) j vd hv (fun b off=>?_)|refine ZF ?_|refine ZI ?_|refine ZG ?_|refine ZH ?_|refine ZL ?_|refine ZJ ?_|refine ZN ?_|refine ZK (fun b=>?_)|refine ZM (fun b=>?_)|refine ZC ?_|refine ZA ?_|refine ZD (n2) (fun _ _=>?_)|refine l_call0 (n2) (fun _ _=>?_)|rw [w2]|(refine ZB (fun hc=>?_) (fun hc=>?_)<;>(try simp at hc)<;>(try omega))|(refine ZE (fun hc=>?_) (fun hc=>?_)<;>(try simp at hc)<;>(try omega)))
      rename_i q4 _
      refine Zn (F1:=[]) (f:=TcF (.mk wChan [] vd eB ((j:Nat)+1)) ⟨wChan,none,0,0,vd,eB,(j:Nat)+1⟩) (fun hp _=>YI wChan vd eB _) ?_
      exact Zv (Zu (Zu (Zi (⟨wChan,none,0,0,vd,eB,(j:Nat)+1⟩,q4) rfl trivial)))
    ·obtain rfl:j=4:=by omega
     have hnj2:∀w ∈ wChs,mp.word w=false:=fun w hw=>by
      obtain ⟨j2,hj2,rfl⟩:=List.getElem_of_mem hw
      have:=hnj j2 hj2
      rwa [show wChs.getD j2 eB=wChs[j2] by simp [List.getD,List.getElem?_eq_getElem hj2]] at this
     have n2:=Zm bp l o cap mp q3 30
     have hF:¬(mp.has fun t=>decide (t.kd=1) && decide (idx t.tx wChs<4))=true:=by
      rw [Wa hpe hnj2 (fun x=>decide (idx x wChs<4)) (fun w hw=>Zg (l:=wChs).1 (show idx w wChs<wChs.length from of_decide_eq_true hw))];decide
     rw [if_neg hF]
     repeat' (first|refine ZF ?_|refine ZI ?_|refine ZG ?_|refine ZH ?_|refine ZL ?_|refine ZJ ?_|refine ZN ?_|refine ZK (fun b=>?_)|refine ZM (fun b=>?_)|refine ZC ?_|refine ZA ?_|refine ZO ?_|refine ZD (n2) (fun _ _=>?_)|refine l_call0 (n2) (fun _ _=>?_)|(refine ZB (fun hc=>?_) (fun hc=>?_)<;>(try simp at hc)<;>(try omega))|(refine ZE (fun hc=>?_) (fun hc=>?_)<;>(try simp at hc)<;>(try omega)))
     rename_i q4 _
     refine Zn (F1:=[]) (f:=TcF (.mk wChan [] eB eB 0) ⟨wChan,none,0,0,eB,eB,0⟩) (fun hp _=>YI wChan eB eB 0) ?_
     exact Zv (Zu (Zi (⟨wChan,none,0,0,eB,eB,0⟩,q4) rfl trivial))
   by_cases c3:i≤6
   ·rw [tst_txs (hcls.2.2.1 (by omega) c3)]
    repeat' (first|refine ZX ?_|refine ZW (es:=wTst) (f:=skl) i wd hw (fun b off=>?_)|refine ZF ?_|refine ZI ?_|refine ZG ?_|refine ZH ?_|refine ZL ?_|refine ZJ ?_|refine ZN ?_|refine ZK (fun b=>?_)|refine ZM (fun b=>?_)|refine ZC ?_|refine ZA ?_|refine ZD (n1) (fun _ _=>?_)|refine l_call0 (n1) (fun _ _=>?_)|(refine ZB (fun hc=>?_) (fun hc=>?_)<;>(try simp at hc)<;>(try omega))|(refine ZE (fun hc=>?_) (fun hc=>?_)<;>(try simp at hc)<;>(try omega)))
    rename_i q2 _ _ bt _ _
    refine Yo (b:=b) (o:=.cells (wCts.map Value.string).toArray 9) ?_
    refine Zn (F1:=[Blk b (.cells (wCts.map Value.string).toArray 9)]) (f:=Sl 9 skl (some ⟨b,0,none⟩) 3 wCts) (fun hp hF=>X8 (hF _ (.head _)) rfl (by decide)) ?_
    refine YK (X:={p:Nat×Kx l mp // p.1≤3∧∀j,j<p.1→mp.word (wCts.getD j eB)=false}) (fun p=>[(0,.pointer (some ⟨bp,0,none⟩)),(2,.pointer (some ⟨b0,0,none⟩)),(5,.pointer (some ⟨bt,0,none⟩)),(63,.slice (some ⟨b,0,none⟩) 3 3),(64,.int .i64 3),(65,.int .i64 (p.1.1:Int))]) (fun _=>[TmS o cap l,Sl 9 skl (some ⟨b,0,none⟩) 3 wCts]) (fun p=>[Pt bp (mqC mp l.length p.1.2.1 o cap),Pt b0 (.cells #[.string ⟨#[]⟩,.slice none 0 0,.string ⟨#[]⟩,.string ⟨#[]⟩,.int .i64 0] 65),Pt bt (.cells #[.string wd,.slice none 0 0,.string ⟨#[]⟩,.string ⟨#[]⟩,.int .i64 0] 65)]) (fun p=>3 - p.1.1) ⟨(0,q2),Nat.zero_le _,fun j hj=>absurd hj (Nat.not_lt_zero _)⟩ ⟨rfl,rfl,rfl,rfl,rfl,rfl,trivial⟩ ?_
    rintro ⟨⟨j,q3⟩,hj,hnj⟩
    dsimp only at hj hnj ⊢
    by_cases h4:j<3
    ·have hv:=List.getElem?_eq_getElem (l:=wCts) h4
     have hvd:wCts.getD j eB=wCts[j]:=by simp [List.getD,hv]
     have hvm:wCts[j] ∈ wCts:=List.getElem_mem h4
     generalize wCts[j]=vd at *
     have n2:=YS bp l o cap hl mp q3 vd
     have w2:=wrapi (z:=(j:Int)+1) (by omega) (by omega)
     cases hvo:mp.word vd with
     | false=>
      rw [hvo,if_neg (by decide)] at n2
      repeat' (first|refine ZX ?_|refine ZW (es:=wCts) (f:=skl) j vd hv (fun b off=>?_)|refine ZF ?_|refine ZI ?_|refine ZG ?_|refine ZH ?_|refine ZL ?_|refine ZJ ?_|refine ZN ?_|refine ZK (fun b=>?_)|refine ZM (fun b=>?_)|refine ZC ?_|refine ZA ?_|refine ZD (n2) (fun _ _=>?_)|refine l_call0 (n2) (fun _ _=>?_)|rw [w2]|(refine ZB (fun hc=>?_) (fun hc=>?_)<;>(try simp at hc)<;>(try omega))|(refine ZE (fun hc=>?_) (fun hc=>?_)<;>(try simp at hc)<;>(try omega)))
      rename_i q4 _
      exact ZV ⟨(j+1,q4),by show j+1≤3;omega,fun j2 hj2=>by rcases Nat.lt_succ_iff_lt_or_eq.1 hj2 with h|h;exact hnj j2 h;rw [h,hvd,hvo]⟩ (by show 3 - (j+1)<3 - j;omega) ⟨rfl,rfl,rfl,rfl,rfl,rfl,trivial⟩
     | true=>
      rw [hvo,if_pos rfl] at n2
      rw [if_pos (VS hvo (fun x=>decide (idx x wCts<3)) (decide_eq_true (show idx vd wCts<3 from Zg (l:=wCts).2 hvm))),(Y1 hvo).2.1]
      have n3:=fun (q:Kx l mp.pass)=>YU bp l o cap hl mp.pass q 115 (fun t=>decide (t.kd=3)) (fun t ht=>by rw [kdB_3 ht];simp) (by decide)
      generalize mp.pass.take (fun t=>decide (t.kd=3))=y at *
      obtain ⟨tx,m5⟩:=y
      dsimp only at n3 ⊢
      repeat' (first|refine ZX ?_|refine ZW (es:=wCts) (f:=skl) j vd hv (fun b off=>?_)|refine ZF ?_|refine ZI ?_|refine ZG ?_|refine ZH ?_|refine ZL ?_|refine ZJ ?_|refine ZN ?_|refine ZK (fun b=>?_)|refine ZM (fun b=>?_)|refine ZC ?_|refine ZA ?_|refine ZD (n2) (fun _ _=>?_)|refine l_call0 (n2) (fun _ _=>?_)|refine ZD (n3 _) (fun _ _=>?_)|refine l_call0 (n3 _) (fun _ _=>?_)|rw [w2]|(refine ZB (fun hc=>?_) (fun hc=>?_)<;>(try simp at hc)<;>(try omega))|(refine ZE (fun hc=>?_) (fun hc=>?_)<;>(try simp at hc)<;>(try omega)))
      rename_i q5 _
      refine Zn (F1:=[]) (f:=TcF (.mk wd [] vd tx 0) ⟨wd,none,0,0,vd,tx,0⟩) (fun hp _=>YI wd vd tx 0) ?_
      exact Zv (Zu (Zu (Zi (⟨wd,none,0,0,vd,tx,0⟩,q5) rfl trivial)))
    ·obtain rfl:j=3:=by omega
     have hnj2:∀w ∈ wCts,mp.word w=false:=fun w hw=>by
      obtain ⟨j2,hj2,rfl⟩:=List.getElem_of_mem hw
      have:=hnj j2 hj2
      rwa [show wCts.getD j2 eB=wCts[j2] by simp [List.getD,List.getElem?_eq_getElem hj2]] at this
     have n2:=Zm bp l o cap mp q3 30
     have hF:¬(mp.has fun t=>decide (t.kd=1) && decide (idx t.tx wCts<3))=true:=by
      rw [Wa hpe hnj2 (fun x=>decide (idx x wCts<3)) (fun w hw=>Zg (l:=wCts).1 (show idx w wCts<wCts.length from of_decide_eq_true hw))];decide
     rw [if_neg hF]
     repeat' (first|refine ZF ?_|refine ZI ?_|refine ZG ?_|refine ZH ?_|refine ZL ?_|refine ZJ ?_|refine ZN ?_|refine ZK (fun b=>?_)|refine ZM (fun b=>?_)|refine ZC ?_|refine ZA ?_|refine ZO ?_|refine ZD (n2) (fun _ _=>?_)|refine l_call0 (n2) (fun _ _=>?_)|(refine ZB (fun hc=>?_) (fun hc=>?_)<;>(try simp at hc)<;>(try omega))|(refine ZE (fun hc=>?_) (fun hc=>?_)<;>(try simp at hc)<;>(try omega)))
     rename_i q4 _
     refine Zn (F1:=[]) (f:=TcF (.mk wd [] eB eB 0) ⟨wd,none,0,0,eB,eB,0⟩) (fun hp _=>YI wd eB eB 0) ?_
     exact Zv (Zu (Zi (⟨wd,none,0,0,eB,eB,0⟩,q4) rfl trivial))
   by_cases c4:i≤10
   ·rw [tst_nms (hcls.2.2.2.1 (by omega) c4)]
    obtain ⟨tk,en,op,e,cl⟩:=mp
    have hpe:e=0:=hpe
    subst hpe
    cases tk with
    | nil=>
     rw [if_neg (by simp [Mq.has])]
     have n2:=fun (q:Kx l ⟨[],en,op,0,cl⟩)=>YL bp l o cap en op 0 cl q.1 q.2
     have n3:=fun (q:Kx l ⟨[],en,op,0,cl⟩)=>Zm bp l o cap ⟨[],en,op,0,cl⟩ q 30
     repeat' (first|refine ZX ?_|refine ZW (es:=wTst) (f:=skl) i wd hw (fun b off=>?_)|refine ZF ?_|refine ZI ?_|refine ZG ?_|refine ZH ?_|refine ZL ?_|refine ZJ ?_|refine ZN ?_|refine ZK (fun b=>?_)|refine ZM (fun b=>?_)|refine ZC ?_|refine ZA ?_|refine ZD (n1) (fun _ _=>?_)|refine l_call0 (n1) (fun _ _=>?_)|refine ZD (n2 _) (fun _ _=>?_)|refine l_call0 (n2 _) (fun _ _=>?_)|refine ZD (n3 _) (fun _ _=>?_)|refine l_call0 (n3 _) (fun _ _=>?_)|(refine ZB (fun hc=>?_) (fun hc=>?_)<;>(try simp at hc)<;>(try omega))|(refine ZE (fun hc=>?_) (fun hc=>?_)<;>(try simp at hc)<;>(try omega)))
     rename_i q4 _
     refine Zn (F1:=[]) (f:=TcF (.mk wd [] eB eB 0) ⟨wd,none,0,0,eB,eB,0⟩) (fun hp _=>YI wd eB eB 0) ?_
     exact Zv (Zu (Zi (⟨wd,none,0,0,eB,eB,0⟩,q4) rfl trivial))
    | cons t ts=>
     have n2:=fun (q:Kx l ⟨t::ts,en,op,0,cl⟩)=>YN bp l o cap t ts en op 0 cl q.1 q.2
     have n3:=fun (q:Kx l ⟨t::ts,en,op,0,cl⟩)=>Zm bp l o cap ⟨t::ts,en,op,0,cl⟩ q 30
     have htm:t ∈ l:=hsub t (.head _)
     have ht:=hl.1 t htm
     have hkc:=cns_kd ht
     by_cases c5:t.kd=4∧idx t.tx yCns<3
     ·rw [if_pos (by simpa [Mq.has] using c5)]
      have hkc:=hkc.1 c5
      have n4:=fun (q:Kx l ⟨t::ts,en,op,0,cl⟩)=>YU bp l o cap hl ⟨t::ts,en,op,0,cl⟩ q (kdB t) (fun t'=>decide (kdB t'=kdB t)) (fun t' _=>by simp) (kdB_ne0 ht)
      have hT:(⟨t::ts,en,op,0,cl⟩:Mq).take (fun t'=>decide (kdB t'=kdB t))=(t.tx,⟨ts,en,op,0,cl⟩):=by simp [Mq.take,Mq.has,Mq.hd,Mq.pass]
      rw [hT] at n4
      have n5:=fun (q:Kx l ⟨ts,en,op,0,cl⟩)=>mpNumber_ok bp l o cap hl ⟨ts,en,op,0,cl⟩ q
      have hps:(⟨t::ts,en,op,0,cl⟩:Mq).pass=⟨ts,en,op,0,cl⟩:=rfl
      have hhd:(⟨t::ts,en,op,0,cl⟩:Mq).hd=t.tx:=rfl
      rw [hps,hhd]
      generalize numM ⟨ts,en,op,0,cl⟩=y at *
      obtain ⟨z,m5⟩:=y
      dsimp only at n4 n5 ⊢
      generalize kdB t=kb at *
      generalize t.tx=tx at *
      repeat' (first|refine ZX ?_|refine ZW (es:=wTst) (f:=skl) i wd hw (fun b off=>?_)|refine ZF ?_|refine ZI ?_|refine ZG ?_|refine ZH ?_|refine ZL ?_|refine ZJ ?_|refine ZN ?_|refine ZK (fun b=>?_)|refine ZM (fun b=>?_)|refine ZC ?_|refine ZA ?_|refine ZD (n1) (fun _ _=>?_)|refine l_call0 (n1) (fun _ _=>?_)|refine ZD (n2 _) (fun _ _=>?_)|refine l_call0 (n2 _) (fun _ _=>?_)|refine ZD (n4 _) (fun _ _=>?_)|refine l_call0 (n4 _) (fun _ _=>?_)|refine ZD (n5 _) (fun _ _=>?_)|refine l_call0 (n5 _) (fun _ _=>?_)|(refine ZB (fun hc=>?_) (fun hc=>?_)<;>(try simp at hc)<;>(try omega))|(refine ZE (fun hc=>?_) (fun hc=>?_)<;>(try simp at hc)<;>(try omega)))
      all_goals (rename_i q4 _;refine Zn (F1:=[]) (f:=TcF (.mk wd [] tx eB z) ⟨wd,none,0,0,tx,eB,z⟩) (fun hp _=>YI wd tx eB z) ?_;exact Zv (Zu (Zi (⟨wd,none,0,0,tx,eB,z⟩,q4) rfl trivial)))
     ·rw [if_neg (by simpa [Mq.has] using c5)]
      have hkc:¬(kdB t=61∨kdB t=60∨kdB t=62):=fun h=>c5 (hkc.2 h)
      generalize kdB t=kb at *
      repeat' (first|refine ZX ?_|refine ZW (es:=wTst) (f:=skl) i wd hw (fun b off=>?_)|refine ZF ?_|refine ZI ?_|refine ZG ?_|refine ZH ?_|refine ZL ?_|refine ZJ ?_|refine ZN ?_|refine ZK (fun b=>?_)|refine ZM (fun b=>?_)|refine ZC ?_|refine ZA ?_|refine ZD (n1) (fun _ _=>?_)|refine l_call0 (n1) (fun _ _=>?_)|refine ZD (n2 _) (fun _ _=>?_)|refine l_call0 (n2 _) (fun _ _=>?_)|refine ZD (n3 _) (fun _ _=>?_)|refine l_call0 (n3 _) (fun _ _=>?_)|(refine ZB (fun hc=>?_) (fun hc=>?_)<;>(try simp at hc)<;>(try omega))|(refine ZE (fun hc=>?_) (fun hc=>?_)<;>(try simp at hc)<;>(try omega)))
      all_goals (rename_i q4 _;refine Zn (F1:=[]) (f:=TcF (.mk wd [] eB eB 0) ⟨wd,none,0,0,eB,eB,0⟩) (fun hp _=>YI wd eB eB 0) ?_;exact Zv (Zu (Zi (⟨wd,none,0,0,eB,eB,0⟩,q4) rfl trivial)))
   ·have hi11:i=11:=by omega
    have hwc:=hcls.2.2.2.2 hi11
    subst hwc
    rw [mts_by]
    obtain ⟨tk,en,op,e,cl⟩:=mp
    have hpe:e=0:=hpe
    subst hpe
    have m1:=fun (q:Kx l ⟨tk,en,op,0,cl⟩)=>YU bp l o cap hl ⟨tk,en,op,0,cl⟩ q 110 (fun t=>decide (t.kd=2)) (fun t ht=>by rw [kdB_2 ht];simp) (by decide)
    have m2:=fun (q:Kx l ⟨tk,en,op,0,cl⟩)=>Zm bp l o cap ⟨tk,en,op,0,cl⟩ q 12
    have m3:=fun (q:Kx l ((⟨tk,en,op,0,cl⟩:Mq).fail 12))=>YU bp l o cap hl ((⟨tk,en,op,0,cl⟩:Mq).fail 12) q 110 (fun t=>decide (t.kd=2)) (fun t ht=>by rw [kdB_2 ht];simp) (by decide)
    dsimp only
    cases tk with
    | nil=>
     rw [if_neg (by simp [Mq.has])]
     have n2:=fun (q:Kx l ⟨[],en,op,0,cl⟩)=>YL bp l o cap en op 0 cl q.1 q.2
     generalize (⟨[],en,op,0,cl⟩:Mq).take (fun t=>decide (t.kd=2))=y at *
     obtain ⟨tx,m5⟩:=y
     dsimp only at m1 ⊢
     repeat' (first|refine ZX ?_|refine ZW (es:=wTst) (f:=skl) i wBy hw (fun b off=>?_)|refine ZF ?_|refine ZI ?_|refine ZG ?_|refine ZH ?_|refine ZL ?_|refine ZJ ?_|refine ZN ?_|refine ZK (fun b=>?_)|refine ZM (fun b=>?_)|refine ZC ?_|refine ZA ?_|refine ZD (n1) (fun _ _=>?_)|refine l_call0 (n1) (fun _ _=>?_)|refine ZD (n2 _) (fun _ _=>?_)|refine l_call0 (n2 _) (fun _ _=>?_)|refine ZD (m1 _) (fun _ _=>?_)|refine l_call0 (m1 _) (fun _ _=>?_)|(refine ZB (fun hc=>?_) (fun hc=>?_)<;>(try simp at hc)<;>(try omega))|(refine ZE (fun hc=>?_) (fun hc=>?_)<;>(try simp at hc)<;>(try omega)))
     rename_i q4 _
     refine Zn (F1:=[]) (f:=TcF (.mk wBy [] eB tx 0) ⟨wBy,none,0,0,eB,tx,0⟩) (fun hp _=>YI wBy eB tx 0) ?_
     exact Zv (Zu (Zi (⟨wBy,none,0,0,eB,tx,0⟩,q4) rfl trivial))
    | cons t ts=>
     have n2:=fun (q:Kx l ⟨t::ts,en,op,0,cl⟩)=>YN bp l o cap t ts en op 0 cl q.1 q.2
     have ht:=hl.1 t (hsub t (.head _))
     have hk2:=kdB_2 ht
     have m4:=Vk t.tx (by have:=ht.2;omega)
     have hhas:((⟨t::ts,en,op,0,cl⟩:Mq).has (fun t=>decide (t.kd=2) && !lvalid t.tx.data.toList))=(decide (t.kd=2) && !lvalid t.tx.data.toList):=rfl
     rw [hhas]
     by_cases c5:t.kd=2
     ·have q5:=hk2.2 c5
      generalize kdB t=kb at *
      cases c6:lvalid t.tx.data.toList with
      | true=>
       rw [c6] at m4
       rw [if_neg (by simp)]
       generalize t.tx=tx0 at *
       generalize (⟨t::ts,en,op,0,cl⟩:Mq).take (fun t=>decide (t.kd=2))=y at *
       obtain ⟨tx,m5⟩:=y
       dsimp only at m1 ⊢
       repeat' (first|refine ZX ?_|refine ZW (es:=wTst) (f:=skl) i wBy hw (fun b off=>?_)|refine ZF ?_|refine ZI ?_|refine ZG ?_|refine ZH ?_|refine ZL ?_|refine ZJ ?_|refine ZN ?_|refine ZK (fun b=>?_)|refine ZM (fun b=>?_)|refine ZC ?_|refine ZA ?_|refine ZD (n1) (fun _ _=>?_)|refine l_call0 (n1) (fun _ _=>?_)|refine ZD (n2 _) (fun _ _=>?_)|refine l_call0 (n2 _) (fun _ _=>?_)|refine ZD (m4) (fun _ _=>?_)|refine l_call0 (m4) (fun _ _=>?_)|refine ZD (m1 _) (fun _ _=>?_)|refine l_call0 (m1 _) (fun _ _=>?_)|(refine ZB (fun hc=>?_) (fun hc=>?_)<;>(try simp at hc)<;>(try omega))|(refine ZE (fun hc=>?_) (fun hc=>?_)<;>(try simp at hc)<;>(try omega)))
       rename_i q4 _
       refine Zn (F1:=[]) (f:=TcF (.mk wBy [] eB tx 0) ⟨wBy,none,0,0,eB,tx,0⟩) (fun hp _=>YI wBy eB tx 0) ?_
       exact Zv (Zu (Zi (⟨wBy,none,0,0,eB,tx,0⟩,q4) rfl trivial))
      | false=>
       rw [c6] at m4
       rw [if_pos (by simp [c5])]
       generalize t.tx=tx0 at *
       generalize (⟨t::ts,en,op,0,cl⟩:Mq).fail 12=m6 at *
       generalize m6.take (fun t=>decide (t.kd=2))=y at *
       obtain ⟨tx,m5⟩:=y
       dsimp only at m3 ⊢
       repeat' (first|refine ZX ?_|refine ZW (es:=wTst) (f:=skl) i wBy hw (fun b off=>?_)|refine ZF ?_|refine ZI ?_|refine ZG ?_|refine ZH ?_|refine ZL ?_|refine ZJ ?_|refine ZN ?_|refine ZK (fun b=>?_)|refine ZM (fun b=>?_)|refine ZC ?_|refine ZA ?_|refine ZD (n1) (fun _ _=>?_)|refine l_call0 (n1) (fun _ _=>?_)|refine ZD (n2 _) (fun _ _=>?_)|refine l_call0 (n2 _) (fun _ _=>?_)|refine ZD (m4) (fun _ _=>?_)|refine l_call0 (m4) (fun _ _=>?_)|refine ZD (m2 _) (fun _ _=>?_)|refine l_call0 (m2 _) (fun _ _=>?_)|refine ZD (m3 _) (fun _ _=>?_)|refine l_call0 (m3 _) (fun _ _=>?_)|(refine ZB (fun hc=>?_) (fun hc=>?_)<;>(try simp at hc)<;>(try omega))|(refine ZE (fun hc=>?_) (fun hc=>?_)<;>(try simp at hc)<;>(try omega)))
       rename_i q4 _
       refine Zn (F1:=[]) (f:=TcF (.mk wBy [] eB tx 0) ⟨wBy,none,0,0,eB,tx,0⟩) (fun hp _=>YI wBy eB tx 0) ?_
       exact Zv (Zu (Zi (⟨wBy,none,0,0,eB,tx,0⟩,q4) rfl trivial))
     ·have q5:¬kdB t=110:=fun h=>c5 (hk2.1 h)
      rw [if_neg (by simp [c5])]
      generalize kdB t=kb at *
      generalize t.tx=tx0 at *
      generalize (⟨t::ts,en,op,0,cl⟩:Mq).take (fun t=>decide (t.kd=2))=y at *
      obtain ⟨tx,m5⟩:=y
      dsimp only at m1 ⊢
      repeat' (first|refine ZX ?_|refine ZW (es:=wTst) (f:=skl) i wBy hw (fun b off=>?_)|refine ZF ?_|refine ZI ?_|refine ZG ?_|refine ZH ?_|refine ZL ?_|refine ZJ ?_|refine ZN ?_|refine ZK (fun b=>?_)|refine ZM (fun b=>?_)|refine ZC ?_|refine ZA ?_|refine ZD (n1) (fun _ _=>?_)|refine l_call0 (n1) (fun _ _=>?_)|refine ZD (n2 _) (fun _ _=>?_)|refine l_call0 (n2 _) (fun _ _=>?_)|refine ZD (m1 _) (fun _ _=>?_)|refine l_call0 (m1 _) (fun _ _=>?_)|(refine ZB (fun hc=>?_) (fun hc=>?_)<;>(try simp at hc)<;>(try omega))|(refine ZE (fun hc=>?_) (fun hc=>?_)<;>(try simp at hc)<;>(try omega)))
      rename_i q4 _
      refine Zn (F1:=[]) (f:=TcF (.mk wBy [] eB tx 0) ⟨wBy,none,0,0,eB,tx,0⟩) (fun hp _=>YI wBy eB tx 0) ?_
      exact Zv (Zu (Zi (⟨wBy,none,0,0,eB,tx,0⟩,q4) rfl trivial))
 ·obtain rfl:i=12:=by omega
  have hno2:∀w ∈ wTst,m.word w=false:=fun w hw=>by
   obtain ⟨j,hj,rfl⟩:=List.getElem_of_mem hw
   have:=hno j hj
   rwa [tst_get (List.getElem?_eq_getElem hj)] at this
  rw [test_no hno2]
  have n1:=Zm bp l o cap m q 30
  repeat' (first|refine ZF ?_|refine ZI ?_|refine ZG ?_|refine ZH ?_|refine ZL ?_|refine ZJ ?_|refine ZN ?_|refine ZK (fun b=>?_)|refine ZM (fun b=>?_)|refine ZC ?_|refine ZA ?_|refine ZO ?_|refine ZD (n1) (fun _ _=>?_)|refine l_call0 (n1) (fun _ _=>?_)|(refine ZB (fun hc=>?_) (fun hc=>?_)<;>(try simp at hc)<;>(try omega))|(refine ZE (fun hc=>?_) (fun hc=>?_)<;>(try simp at hc)<;>(try omega)))
  rename_i q2 _
  refine Zn (F1:=[]) (f:=TcF t0 ⟨eB,none,0,0,eB,eB,0⟩) (fun hp _=>YI eB eB eB 0) ?_
  exact ZP (⟨eB,none,0,0,eB,eB,0⟩,q2) rfl trivial
end Go.Proofs.YtodkipbnefngkaaGreatDoor
