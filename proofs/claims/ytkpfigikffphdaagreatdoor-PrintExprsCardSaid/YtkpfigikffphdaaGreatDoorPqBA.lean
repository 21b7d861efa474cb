/-
  Lemmas, part B1: what the claim needs of the texts of wip/tpl.
-/
import Derived.Test.YtkpfigikffphdaaGreatDoorProg
import Derived.Shelf.Strings.Replace
import Derived.Shelf.Strings.Fields
import Derived.Shelf.Strings.Count
import Derived.Shelf.Small.Strs
import Derived.Shelf.Strings.Search3
import Derived.Shelf.Strconv.Itoa3
import Derived.Shelf.LaysM
import Derived.Shelf.Bits.Mul64
import Derived.Shelf.Strconv.ErrVarAll
import Derived.WalkKit
import Derived.WalkLawsBesides
import Derived.WalkSpells
import Derived.WalkSmall
import Derived.Maps.AppendAt
import Derived.Outline
import Derived.Lib.ValidLaws
import Derived.Shelf.Unicode.ValidAny
import Derived.Lib.LaidU8
import Derived.Shelf.Strings.OnBuilder
import Derived.Shelf.Strings.BuilderK
set_option linter.unusedVariables false
set_option linter.unusedSimpArgs false
open Array renaming getElem?_toList→Em
open List renaming length_cons→Ac,getElem?_eq_getElem→Ag,getElem?_drop→Ca,take_of_length_le→Cy,drop_drop→Dr,getD_cons_zero→Ec,getD_cons_succ→Fh
open Nat renaming lt_of_lt_of_le→As,zero_add→Bm
open Option.some renaming inj→Cr
section
namespace Go.Proofs
def Tryz.lays137_ren:Go.Shelf.Ren:=⟨fun|137=>288|217=>295|266=>304|n=>n,fun|9=>9|5=>5|3=>3|n=>n,fun|n=>n⟩
theorem Tryz.lays137:Go.Proofs.Lays.n137 Tryz.prog Tryz.lays137_ren:={
 mixed:=by kernel_rfl
 f137:=Tryz.func288.trans (congrArg some (by kernel_rfl))
 f217:=Tryz.func295.trans (congrArg some (by kernel_rfl))
 f266:=Tryz.func304.trans (congrArg some (by kernel_rfl))
 t3:=Tryz.underlying3
 a3:=Tryz.isAgg3
 z3:=Tryz.sizeOf3
 v3:=Tryz.zeroValue3
 t5:=Tryz.underlying5
 a5:=Tryz.isAgg5
 z5:=Tryz.sizeOf5
 v5:=Tryz.zeroValue5
 t9:=Tryz.underlying9
 a9:=Tryz.isAgg9
 z9:=Tryz.sizeOf9
 v9:=Tryz.zeroValue9}
def Tryz.lays144_ren:Go.Shelf.Ren:=⟨fun|144=>223|143=>252|219=>276|217=>295|225=>296|224=>297|267=>298|266=>304|314=>305|n=>n,fun|9=>9|4=>4|3=>3|5=>5|46=>40|146=>297|51=>251|n=>n,fun|1=>2|n=>n⟩
theorem Tryz.lays144:Go.Proofs.Lays.n144 Tryz.prog Tryz.lays144_ren:={
 mixed:=by kernel_rfl
 f143:=Tryz.func252.trans (congrArg some (by kernel_rfl))
 f144:=Tryz.func223.trans (congrArg some (by kernel_rfl))
 f217:=Tryz.func295.trans (congrArg some (by kernel_rfl))
 f219:=Tryz.func276.trans (congrArg some (by kernel_rfl))
 f224:=Tryz.func297.trans (congrArg some (by kernel_rfl))
 f225:=Tryz.func296.trans (congrArg some (by kernel_rfl))
 f266:=Tryz.func304.trans (congrArg some (by kernel_rfl))
 f267:=Tryz.func298.trans (congrArg some (by kernel_rfl))
 f314:=Tryz.func305.trans (congrArg some (by kernel_rfl))
 t3:=Tryz.underlying3
 a3:=Tryz.isAgg3
 z3:=Tryz.sizeOf3
 v3:=Tryz.zeroValue3
 t4:=Tryz.underlying4
 a4:=Tryz.isAgg4
 z4:=Tryz.sizeOf4
 v4:=Tryz.zeroValue4
 t5:=Tryz.underlying5
 a5:=Tryz.isAgg5
 z5:=Tryz.sizeOf5
 v5:=Tryz.zeroValue5
 t9:=Tryz.underlying9
 a9:=Tryz.isAgg9
 z9:=Tryz.sizeOf9
 v9:=Tryz.zeroValue9
 t46:=Tryz.underlying40
 a46:=Tryz.isAgg40
 z46:=Tryz.sizeOf40
 v46:=Tryz.zeroValue40
 t51:=Tryz.underlying251
 a51:=Tryz.isAgg251
 z51:=Tryz.sizeOf251
 v51:=Tryz.zeroValue251
 t146:=Tryz.underlying297
 a146:=Tryz.isAgg297
 z146:=Tryz.sizeOf297
 v146:=Tryz.zeroValue297
 g1:=by kernel_rfl}
def Tryz.lays138_ren:Go.Shelf.Ren:=⟨fun|138=>263|195=>283|218=>284|143=>252|219=>276|217=>295|225=>296|224=>297|267=>298|266=>304|314=>305|n=>n,fun|9=>9|3=>3|4=>4|5=>5|0=>0|46=>40|146=>297|51=>251|n=>n,fun|1=>2|n=>n⟩
theorem Tryz.lays138:Go.Proofs.Lays.n138 Tryz.prog Tryz.lays138_ren:={
 mixed:=by kernel_rfl
 f138:=Tryz.func263.trans (congrArg some (by kernel_rfl))
 f143:=Tryz.func252.trans (congrArg some (by kernel_rfl))
 f195:=Tryz.func283.trans (congrArg some (by kernel_rfl))
 f217:=Tryz.func295.trans (congrArg some (by kernel_rfl))
 f218:=Tryz.func284.trans (congrArg some (by kernel_rfl))
 f219:=Tryz.func276.trans (congrArg some (by kernel_rfl))
 f224:=Tryz.func297.trans (congrArg some (by kernel_rfl))
 f225:=Tryz.func296.trans (congrArg some (by kernel_rfl))
 f266:=Tryz.func304.trans (congrArg some (by kernel_rfl))
 f267:=Tryz.func298.trans (congrArg some (by kernel_rfl))
 f314:=Tryz.func305.trans (congrArg some (by kernel_rfl))
 t0:=Tryz.underlying0
 a0:=Tryz.isAgg0
 z0:=Tryz.sizeOf0
 v0:=Tryz.zeroValue0
 t3:=Tryz.underlying3
 a3:=Tryz.isAgg3
 z3:=Tryz.sizeOf3
 v3:=Tryz.zeroValue3
 t4:=Tryz.underlying4
 a4:=Tryz.isAgg4
 z4:=Tryz.sizeOf4
 v4:=Tryz.zeroValue4
 t5:=Tryz.underlying5
 a5:=Tryz.isAgg5
 z5:=Tryz.sizeOf5
 v5:=Tryz.zeroValue5
 t9:=Tryz.underlying9
 a9:=Tryz.isAgg9
 z9:=Tryz.sizeOf9
 v9:=Tryz.zeroValue9
 t46:=Tryz.underlying40
 a46:=Tryz.isAgg40
 z46:=Tryz.sizeOf40
 v46:=Tryz.zeroValue40
 t51:=Tryz.underlying251
 a51:=Tryz.isAgg251
 z51:=Tryz.sizeOf251
 v51:=Tryz.zeroValue251
 t146:=Tryz.underlying297
 a146:=Tryz.isAgg297
 z146:=Tryz.sizeOf297
 v146:=Tryz.zeroValue297
 g1:=by kernel_rfl}
def Tryz.lays155_ren:Go.Shelf.Ren:=⟨fun|155=>215|154=>241|138=>263|165=>158|143=>252|166=>159|197=>264|169=>80|195=>283|218=>284|240=>212|241=>213|219=>276|260=>285|276=>239|277=>240|217=>295|225=>296|224=>297|267=>298|266=>304|314=>305|n=>n,fun|9=>9|3=>3|4=>4|72=>128|0=>0|76=>196|105=>254|21=>21|5=>5|70=>125|20=>20|37=>126|75=>195|127=>199|164=>235|46=>40|119=>230|139=>265|138=>264|146=>297|51=>251|80=>130|n=>n,fun|1=>2|3=>4|4=>5|n=>n⟩
theorem Tryz.lays155:Go.Proofs.Lays.n155 Tryz.prog Tryz.lays155_ren:={
 mixed:=by kernel_rfl
 f138:=Tryz.func263.trans (congrArg some (by kernel_rfl))
 f143:=Tryz.func252.trans (congrArg some (by kernel_rfl))
 f154:=Tryz.func241.trans (congrArg some (by kernel_rfl))
 f155:=Tryz.func215.trans (congrArg some (by kernel_rfl))
 f165:=Tryz.func158.trans (congrArg some (by kernel_rfl))
 f166:=Tryz.func159.trans (congrArg some (by kernel_rfl))
 f169:=Tryz.func80.trans (congrArg some (by kernel_rfl))
 f195:=Tryz.func283.trans (congrArg some (by kernel_rfl))
 f197:=Tryz.func264.trans (congrArg some (by kernel_rfl))
 f217:=Tryz.func295.trans (congrArg some (by kernel_rfl))
 f218:=Tryz.func284.trans (congrArg some (by kernel_rfl))
 f219:=Tryz.func276.trans (congrArg some (by kernel_rfl))
 f224:=Tryz.func297.trans (congrArg some (by kernel_rfl))
 f225:=Tryz.func296.trans (congrArg some (by kernel_rfl))
 f240:=Tryz.func212.trans (congrArg some (by kernel_rfl))
 f241:=Tryz.func213.trans (congrArg some (by kernel_rfl))
 f260:=Tryz.func285.trans (congrArg some (by kernel_rfl))
 f266:=Tryz.func304.trans (congrArg some (by kernel_rfl))
 f267:=Tryz.func298.trans (congrArg some (by kernel_rfl))
 f276:=Tryz.func239.trans (congrArg some (by kernel_rfl))
 f277:=Tryz.func240.trans (congrArg some (by kernel_rfl))
 f314:=Tryz.func305.trans (congrArg some (by kernel_rfl))
 t0:=Tryz.underlying0
 a0:=Tryz.isAgg0
 z0:=Tryz.sizeOf0
 v0:=Tryz.zeroValue0
 t3:=Tryz.underlying3
 a3:=Tryz.isAgg3
 z3:=Tryz.sizeOf3
 v3:=Tryz.zeroValue3
 t4:=Tryz.underlying4
 a4:=Tryz.isAgg4
 z4:=Tryz.sizeOf4
 v4:=Tryz.zeroValue4
 t5:=Tryz.underlying5
 a5:=Tryz.isAgg5
 z5:=Tryz.sizeOf5
 v5:=Tryz.zeroValue5
 t9:=Tryz.underlying9
 a9:=Tryz.isAgg9
 z9:=Tryz.sizeOf9
 v9:=Tryz.zeroValue9
 t20:=Tryz.underlying20
 a20:=Tryz.isAgg20
 z20:=Tryz.sizeOf20
 v20:=Tryz.zeroValue20
 t21:=Tryz.underlying21
 a21:=Tryz.isAgg21
 z21:=Tryz.sizeOf21
 v21:=Tryz.zeroValue21
 t37:=Tryz.underlying126
 a37:=Tryz.isAgg126
 z37:=Tryz.sizeOf126
 v37:=Tryz.zeroValue126
 t46:=Tryz.underlying40
 a46:=Tryz.isAgg40
 z46:=Tryz.sizeOf40
 v46:=Tryz.zeroValue40
 t51:=Tryz.underlying251
 a51:=Tryz.isAgg251
 z51:=Tryz.sizeOf251
 v51:=Tryz.zeroValue251
 t70:=Tryz.underlying125
 a70:=Tryz.isAgg125
 z70:=Tryz.sizeOf125
 v70:=Tryz.zeroValue125
 t72:=Tryz.underlying128
 a72:=Tryz.isAgg128
 z72:=Tryz.sizeOf128
 v72:=Tryz.zeroValue128
 t75:=Tryz.underlying195
 a75:=Tryz.isAgg195
 z75:=Tryz.sizeOf195
 v75:=Tryz.zeroValue195
 t76:=Tryz.underlying196
 a76:=Tryz.isAgg196
 z76:=Tryz.sizeOf196
 v76:=Tryz.zeroValue196
 t105:=Tryz.underlying254
 a105:=Tryz.isAgg254
 z105:=Tryz.sizeOf254
 v105:=Tryz.zeroValue254
 t119:=Tryz.underlying230
 a119:=Tryz.isAgg230
 z119:=Tryz.sizeOf230
 t127:=Tryz.underlying199
 a127:=Tryz.isAgg199
 z127:=Tryz.sizeOf199
 v127:=Tryz.zeroValue199
 t138:=Tryz.underlying264
 a138:=Tryz.isAgg264
 z138:=Tryz.sizeOf264
 v138:=Tryz.zeroValue264
 t139:=Tryz.underlying265
 a139:=Tryz.isAgg265
 z139:=Tryz.sizeOf265
 v139:=Tryz.zeroValue265
 t146:=Tryz.underlying297
 a146:=Tryz.isAgg297
 z146:=Tryz.sizeOf297
 v146:=Tryz.zeroValue297
 t164:=Tryz.underlying235
 a164:=Tryz.isAgg235
 z164:=Tryz.sizeOf235
 v164:=Tryz.zeroValue235
 g1:=by kernel_rfl
 g3:=by kernel_rfl
 g4:=by kernel_rfl}
theorem Tryz.Builder_Extra_155:Builder.Extra Tryz.prog Tryz.lays155_ren:={
 sizeBuilder:=by kernel_rfl
 liesBuilder:=by kernel_rfl
 t5:=Tryz.underlying5
 a5:=Tryz.isAgg5
 z5:=Tryz.sizeOf5
 v5:=Tryz.zeroValue5
 infoByte:=by kernel_rfl
 cellsByte:=by kernel_rfl
 sizeByte:=by kernel_rfl
 neB5:=by decide}
def Tryz.lays157_ren:Go.Shelf.Ren:=⟨fun|157=>198|229=>235|199=>236|261=>262|311=>281|312=>282|n=>n,fun|9=>9|31=>44|3=>3|5=>5|4=>4|119=>230|0=>0|40=>232|152=>248|21=>21|154=>250|51=>251|141=>253|196=>271|193=>268|198=>274|49=>272|194=>269|201=>277|226=>288|46=>40|227=>289|n=>n,fun|0=>0|6=>1|n=>n⟩
theorem Tryz.lays157:Go.Proofs.Lays.n157 Tryz.prog Tryz.lays157_ren:={
 mixed:=by kernel_rfl
 f157:=Tryz.func198.trans (congrArg some (by kernel_rfl))
 f199:=Tryz.func236.trans (congrArg some (by kernel_rfl))
 f229:=Tryz.func235.trans (congrArg some (by kernel_rfl))
 f261:=Tryz.func262.trans (congrArg some (by kernel_rfl))
 f311:=Tryz.func281.trans (congrArg some (by kernel_rfl))
 f312:=Tryz.func282.trans (congrArg some (by kernel_rfl))
 t0:=Tryz.underlying0
 a0:=Tryz.isAgg0
 z0:=Tryz.sizeOf0
 v0:=Tryz.zeroValue0
 t3:=Tryz.underlying3
 a3:=Tryz.isAgg3
 z3:=Tryz.sizeOf3
 v3:=Tryz.zeroValue3
 t4:=Tryz.underlying4
 a4:=Tryz.isAgg4
 z4:=Tryz.sizeOf4
 v4:=Tryz.zeroValue4
 t5:=Tryz.underlying5
 a5:=Tryz.isAgg5
 z5:=Tryz.sizeOf5
 v5:=Tryz.zeroValue5
 t9:=Tryz.underlying9
 a9:=Tryz.isAgg9
 z9:=Tryz.sizeOf9
 v9:=Tryz.zeroValue9
 t21:=Tryz.underlying21
 a21:=Tryz.isAgg21
 z21:=Tryz.sizeOf21
 v21:=Tryz.zeroValue21
 t31:=Tryz.underlying44
 a31:=Tryz.isAgg44
 z31:=Tryz.sizeOf44
 v31:=Tryz.zeroValue44
 t40:=Tryz.underlying232
 a40:=Tryz.isAgg232
 z40:=Tryz.sizeOf232
 v40:=Tryz.zeroValue232
 t46:=Tryz.underlying40
 a46:=Tryz.isAgg40
 z46:=Tryz.sizeOf40
 v46:=Tryz.zeroValue40
 t49:=Tryz.underlying272
 a49:=Tryz.isAgg272
 z49:=Tryz.sizeOf272
 v49:=Tryz.zeroValue272
 t51:=Tryz.underlying251
 a51:=Tryz.isAgg251
 z51:=Tryz.sizeOf251
 v51:=Tryz.zeroValue251
 t119:=Tryz.underlying230
 a119:=Tryz.isAgg230
 z119:=Tryz.sizeOf230
 t141:=Tryz.underlying253
 a141:=Tryz.isAgg253
 z141:=Tryz.sizeOf253
 v141:=Tryz.zeroValue253
 t152:=Tryz.underlying248
 a152:=Tryz.isAgg248
 z152:=Tryz.sizeOf248
 v152:=Tryz.zeroValue248
 t154:=Tryz.underlying250
 a154:=Tryz.isAgg250
 z154:=Tryz.sizeOf250
 v154:=Tryz.zeroValue250
 t193:=Tryz.underlying268
 a193:=Tryz.isAgg268
 z193:=Tryz.sizeOf268
 v193:=Tryz.zeroValue268
 t194:=Tryz.underlying269
 a194:=Tryz.isAgg269
 z194:=Tryz.sizeOf269
 v194:=Tryz.zeroValue269
 t196:=Tryz.underlying271
 a196:=Tryz.isAgg271
 z196:=Tryz.sizeOf271
 v196:=Tryz.zeroValue271
 t198:=Tryz.underlying274
 a198:=Tryz.isAgg274
 z198:=Tryz.sizeOf274
 v198:=Tryz.zeroValue274
 t201:=Tryz.underlying277
 a201:=Tryz.isAgg277
 z201:=Tryz.sizeOf277
 v201:=Tryz.zeroValue277
 t226:=Tryz.underlying288
 a226:=Tryz.isAgg288
 z226:=Tryz.sizeOf288
 v226:=Tryz.zeroValue288
 t227:=Tryz.underlying289
 a227:=Tryz.isAgg289
 z227:=Tryz.sizeOf289
 v227:=Tryz.zeroValue289
 g0:=by kernel_rfl
 g6:=by kernel_rfl}
def Tryz.laysM171_ren:Go.Shelf.Ren:=⟨fun|171=>89|243=>165|246=>218|283=>243|284=>244|285=>245|286=>246|129=>266|317=>265|318=>267|319=>268|320=>269|337=>286|338=>287|n=>n,fun|3=>3|9=>9|2=>2|4=>4|171=>239|0=>0|53=>39|37=>126|5=>5|173=>242|212=>257|51=>251|20=>20|213=>258|46=>40|232=>290|233=>291|n=>n,fun|17=>3|18=>6|19=>7|n=>n⟩
theorem Tryz.laysM171:Go.Proofs.LaysM.n171 Tryz.prog Tryz.laysM171_ren:={
 mixed:=by kernel_rfl
 f129:=Tryz.func266.trans (congrArg some (by kernel_rfl))
 f171:=Tryz.func89.trans (congrArg some (by kernel_rfl))
 f243:=Tryz.func165.trans (congrArg some (by kernel_rfl))
 f246:=Tryz.func218.trans (congrArg some (by kernel_rfl))
 f283:=Tryz.func243.trans (congrArg some (by kernel_rfl))
 f284:=Tryz.func244.trans (congrArg some (by kernel_rfl))
 f285:=Tryz.func245.trans (congrArg some (by kernel_rfl))
 f286:=Tryz.func246.trans (congrArg some (by kernel_rfl))
 f317:=Tryz.func265.trans (congrArg some (by kernel_rfl))
 f318:=Tryz.func267.trans (congrArg some (by kernel_rfl))
 f319:=Tryz.func268.trans (congrArg some (by kernel_rfl))
 f320:=Tryz.func269.trans (congrArg some (by kernel_rfl))
 f337:=Tryz.func286.trans (congrArg some (by kernel_rfl))
 f338:=Tryz.func287.trans (congrArg some (by kernel_rfl))
 t0:=Tryz.underlying0
 a0:=Tryz.isAgg0
 z0:=Tryz.sizeOf0
 v0:=Tryz.zeroValue0
 t2:=Tryz.underlying2
 a2:=Tryz.isAgg2
 z2:=Tryz.sizeOf2
 v2:=Tryz.zeroValue2
 t3:=Tryz.underlying3
 a3:=Tryz.isAgg3
 z3:=Tryz.sizeOf3
 v3:=Tryz.zeroValue3
 t4:=Tryz.underlying4
 a4:=Tryz.isAgg4
 z4:=Tryz.sizeOf4
 v4:=Tryz.zeroValue4
 t5:=Tryz.underlying5
 a5:=Tryz.isAgg5
 z5:=Tryz.sizeOf5
 v5:=Tryz.zeroValue5
 t9:=Tryz.underlying9
 a9:=Tryz.isAgg9
 z9:=Tryz.sizeOf9
 v9:=Tryz.zeroValue9
 t20:=Tryz.underlying20
 a20:=Tryz.isAgg20
 z20:=Tryz.sizeOf20
 v20:=Tryz.zeroValue20
 t37:=Tryz.underlying126
 a37:=Tryz.isAgg126
 z37:=Tryz.sizeOf126
 v37:=Tryz.zeroValue126
 t46:=Tryz.underlying40
 a46:=Tryz.isAgg40
 z46:=Tryz.sizeOf40
 v46:=Tryz.zeroValue40
 t51:=Tryz.underlying251
 a51:=Tryz.isAgg251
 z51:=Tryz.sizeOf251
 v51:=Tryz.zeroValue251
 t53:=Tryz.underlying39
 a53:=Tryz.isAgg39
 z53:=Tryz.sizeOf39
 v53:=Tryz.zeroValue39
 t171:=Tryz.underlying239
 a171:=Tryz.isAgg239
 z171:=Tryz.sizeOf239
 v171:=Tryz.zeroValue239
 t173:=Tryz.underlying242
 a173:=Tryz.isAgg242
 z173:=Tryz.sizeOf242
 v173:=Tryz.zeroValue242
 t212:=Tryz.underlying257
 a212:=Tryz.isAgg257
 z212:=Tryz.sizeOf257
 v212:=Tryz.zeroValue257
 t213:=Tryz.underlying258
 a213:=Tryz.isAgg258
 z213:=Tryz.sizeOf258
 t232:=Tryz.underlying290
 a232:=Tryz.isAgg290
 z232:=Tryz.sizeOf290
 v232:=Tryz.zeroValue290
 t233:=Tryz.underlying291
 a233:=Tryz.isAgg291
 z233:=Tryz.sizeOf291
 v233:=Tryz.zeroValue291
 g17:=by kernel_rfl
 g18:=by kernel_rfl
 g19:=by kernel_rfl
 i0:=by kernel_rfl
 i2:=by kernel_rfl
 i3:=by kernel_rfl
 i4:=by kernel_rfl
 i5:=by kernel_rfl
 i9:=by kernel_rfl
 i20:=by kernel_rfl
 i37:=by kernel_rfl
 i46:=by kernel_rfl
 i51:=by kernel_rfl
 i53:=by kernel_rfl
 i171:=by kernel_rfl
 i173:=by kernel_rfl
 i212:=by kernel_rfl
 i232:=by kernel_rfl
 i233:=by kernel_rfl
 m17:=by kernel_rfl
 m18:=by kernel_rfl
 m19:=by kernel_rfl}
def Tryz.laysC172_ren:Go.Shelf.Ren:=⟨fun|172=>250|244=>274|245=>275|247=>290|279=>291|280=>292|281=>293|282=>294|287=>301|316=>302|171=>89|205=>303|321=>312|322=>313|243=>165|246=>218|283=>243|284=>244|285=>245|286=>246|129=>266|317=>265|318=>267|319=>268|320=>269|337=>286|338=>287|n=>n,fun|9=>9|3=>3|75=>195|76=>196|4=>4|5=>5|167=>281|37=>126|0=>0|85=>282|2=>2|168=>284|53=>39|175=>292|46=>40|210=>295|127=>199|145=>309|143=>307|21=>21|171=>239|173=>242|212=>257|51=>251|20=>20|213=>258|232=>290|233=>291|80=>130|n=>n,fun|15=>8|16=>9|17=>3|18=>6|19=>7|n=>n⟩
theorem Tryz.laysC172:Go.Proofs.LaysC.n172 Tryz.prog Tryz.laysC172_ren:={
 mixed:=by kernel_rfl
 f129:=Tryz.func266.trans (congrArg some (by kernel_rfl))
 f171:=Tryz.func89.trans (congrArg some (by kernel_rfl))
 f172:=Tryz.func250.trans (congrArg some (by kernel_rfl))
 f205:=Tryz.func303.trans (congrArg some (by kernel_rfl))
 f243:=Tryz.func165.trans (congrArg some (by kernel_rfl))
 f244:=Tryz.func274.trans (congrArg some (by kernel_rfl))
 f245:=Tryz.func275.trans (congrArg some (by kernel_rfl))
 f246:=Tryz.func218.trans (congrArg some (by kernel_rfl))
 f247:=Tryz.func290.trans (congrArg some (by kernel_rfl))
 f279:=Tryz.func291.trans (congrArg some (by kernel_rfl))
 f280:=Tryz.func292.trans (congrArg some (by kernel_rfl))
 f281:=Tryz.func293.trans (congrArg some (by kernel_rfl))
 f282:=Tryz.func294.trans (congrArg some (by kernel_rfl))
 f283:=Tryz.func243.trans (congrArg some (by kernel_rfl))
 f284:=Tryz.func244.trans (congrArg some (by kernel_rfl))
 f285:=Tryz.func245.trans (congrArg some (by kernel_rfl))
 f286:=Tryz.func246.trans (congrArg some (by kernel_rfl))
 f287:=Tryz.func301.trans (congrArg some (by kernel_rfl))
 f316:=Tryz.func302.trans (congrArg some (by kernel_rfl))
 f317:=Tryz.func265.trans (congrArg some (by kernel_rfl))
 f318:=Tryz.func267.trans (congrArg some (by kernel_rfl))
 f319:=Tryz.func268.trans (congrArg some (by kernel_rfl))
 f320:=Tryz.func269.trans (congrArg some (by kernel_rfl))
 f321:=Tryz.func312.trans (congrArg some (by kernel_rfl))
 f322:=Tryz.func313.trans (congrArg some (by kernel_rfl))
 f337:=Tryz.func286.trans (congrArg some (by kernel_rfl))
 f338:=Tryz.func287.trans (congrArg some (by kernel_rfl))
 t0:=Tryz.underlying0
 a0:=Tryz.isAgg0
 z0:=Tryz.sizeOf0
 v0:=Tryz.zeroValue0
 t2:=Tryz.underlying2
 a2:=Tryz.isAgg2
 z2:=Tryz.sizeOf2
 v2:=Tryz.zeroValue2
 t3:=Tryz.underlying3
 a3:=Tryz.isAgg3
 z3:=Tryz.sizeOf3
 v3:=Tryz.zeroValue3
 t4:=Tryz.underlying4
 a4:=Tryz.isAgg4
 z4:=Tryz.sizeOf4
 v4:=Tryz.zeroValue4
 t5:=Tryz.underlying5
 a5:=Tryz.isAgg5
 z5:=Tryz.sizeOf5
 v5:=Tryz.zeroValue5
 t9:=Tryz.underlying9
 a9:=Tryz.isAgg9
 z9:=Tryz.sizeOf9
 v9:=Tryz.zeroValue9
 t20:=Tryz.underlying20
 a20:=Tryz.isAgg20
 z20:=Tryz.sizeOf20
 v20:=Tryz.zeroValue20
 t21:=Tryz.underlying21
 a21:=Tryz.isAgg21
 z21:=Tryz.sizeOf21
 v21:=Tryz.zeroValue21
 t37:=Tryz.underlying126
 a37:=Tryz.isAgg126
 z37:=Tryz.sizeOf126
 v37:=Tryz.zeroValue126
 t46:=Tryz.underlying40
 a46:=Tryz.isAgg40
 z46:=Tryz.sizeOf40
 v46:=Tryz.zeroValue40
 t51:=Tryz.underlying251
 a51:=Tryz.isAgg251
 z51:=Tryz.sizeOf251
 v51:=Tryz.zeroValue251
 t53:=Tryz.underlying39
 a53:=Tryz.isAgg39
 z53:=Tryz.sizeOf39
 v53:=Tryz.zeroValue39
 t75:=Tryz.underlying195
 a75:=Tryz.isAgg195
 z75:=Tryz.sizeOf195
 v75:=Tryz.zeroValue195
 t76:=Tryz.underlying196
 a76:=Tryz.isAgg196
 z76:=Tryz.sizeOf196
 v76:=Tryz.zeroValue196
 t85:=Tryz.underlying282
 a85:=Tryz.isAgg282
 z85:=Tryz.sizeOf282
 v85:=Tryz.zeroValue282
 t127:=Tryz.underlying199
 a127:=Tryz.isAgg199
 z127:=Tryz.sizeOf199
 v127:=Tryz.zeroValue199
 t143:=Tryz.underlying307
 a143:=Tryz.isAgg307
 z143:=Tryz.sizeOf307
 v143:=Tryz.zeroValue307
 t145:=Tryz.underlying309
 a145:=Tryz.isAgg309
 z145:=Tryz.sizeOf309
 v145:=Tryz.zeroValue309
 t167:=Tryz.underlying281
 a167:=Tryz.isAgg281
 z167:=Tryz.sizeOf281
 v167:=Tryz.zeroValue281
 t168:=Tryz.underlying284
 a168:=Tryz.isAgg284
 z168:=Tryz.sizeOf284
 v168:=Tryz.zeroValue284
 t171:=Tryz.underlying239
 a171:=Tryz.isAgg239
 z171:=Tryz.sizeOf239
 v171:=Tryz.zeroValue239
 t173:=Tryz.underlying242
 a173:=Tryz.isAgg242
 z173:=Tryz.sizeOf242
 v173:=Tryz.zeroValue242
 t175:=Tryz.underlying292
 a175:=Tryz.isAgg292
 z175:=Tryz.sizeOf292
 v175:=Tryz.zeroValue292
 t210:=Tryz.underlying295
 a210:=Tryz.isAgg295
 z210:=Tryz.sizeOf295
 v210:=Tryz.zeroValue295
 t212:=Tryz.underlying257
 a212:=Tryz.isAgg257
 z212:=Tryz.sizeOf257
 v212:=Tryz.zeroValue257
 t213:=Tryz.underlying258
 a213:=Tryz.isAgg258
 z213:=Tryz.sizeOf258
 t232:=Tryz.underlying290
 a232:=Tryz.isAgg290
 z232:=Tryz.sizeOf290
 v232:=Tryz.zeroValue290
 t233:=Tryz.underlying291
 a233:=Tryz.isAgg291
 z233:=Tryz.sizeOf291
 v233:=Tryz.zeroValue291
 g15:=by kernel_rfl
 g16:=by kernel_rfl
 g17:=by kernel_rfl
 g18:=by kernel_rfl
 g19:=by kernel_rfl
 t80:=Tryz.underlying130
 a80:=Tryz.isAgg130
 z80:=Tryz.sizeOf130
 v80:=Tryz.zeroValue130
 i0:=by kernel_rfl
 i2:=by kernel_rfl
 i3:=by kernel_rfl
 i4:=by kernel_rfl
 i5:=by kernel_rfl
 i9:=by kernel_rfl
 i20:=by kernel_rfl
 i21:=by kernel_rfl
 i37:=by kernel_rfl
 i46:=by kernel_rfl
 i51:=by kernel_rfl
 i53:=by kernel_rfl
 i75:=by kernel_rfl
 i76:=by kernel_rfl
 i80:=by kernel_rfl
 i85:=by kernel_rfl
 i127:=by kernel_rfl
 i143:=by kernel_rfl
 i145:=by kernel_rfl
 i167:=by kernel_rfl
 i168:=by kernel_rfl
 i171:=by kernel_rfl
 i173:=by kernel_rfl
 i175:=by kernel_rfl
 i210:=by kernel_rfl
 i212:=by kernel_rfl
 i232:=by kernel_rfl
 i233:=by kernel_rfl
 m15:=by kernel_rfl
 m16:=by kernel_rfl
 m17:=by kernel_rfl
 m18:=by kernel_rfl
 m19:=by kernel_rfl
 c0:=by kernel_rfl
 c2:=by kernel_rfl
 c3:=by kernel_rfl
 c4:=by kernel_rfl
 c5:=by kernel_rfl
 c9:=by kernel_rfl
 c20:=by kernel_rfl
 c21:=by kernel_rfl
 c37:=by kernel_rfl
 c46:=by kernel_rfl
 c51:=by kernel_rfl
 c53:=by kernel_rfl
 c75:=by kernel_rfl
 c76:=by kernel_rfl
 c80:=by kernel_rfl
 c85:=by kernel_rfl
 c127:=by kernel_rfl
 c143:=by kernel_rfl
 c145:=by kernel_rfl
 c167:=by kernel_rfl
 c168:=by kernel_rfl
 c171:=by kernel_rfl
 c173:=by kernel_rfl
 c175:=by kernel_rfl
 c210:=by kernel_rfl
 c212:=by kernel_rfl
 c213:=by kernel_rfl
 c232:=by kernel_rfl
 c233:=by kernel_rfl}
end Go.Proofs
end
section
namespace Go.Proofs.YtkpfigikffphdaaGreatDoor
open Go.RowKit
theorem hide {p:Prop}(h:p):Hid p:=h
theorem unhide {p:Prop}(h:Hid p):p:=h
def Ret (w:World)(v:Value):Ending->World->Prop:=fun e w'=>e=.returned v/\Below w.heap.size w w'
structure cX where
 kind:Int
 n:Int
 scale:Int
 s:List UInt8
theorem cX.ext' {a b:cX}(h1:a.kind=b.kind)(h2:a.n=b.n)(h3:a.scale=b.scale)(h4:a.s=b.s):a=b:=by
 cases a;cases b;simp_all
instance:DecidableEq cX:=fun a b =>
 if h:a.kind=b.kind/\a.n=b.n/\a.scale=b.scale/\a.s=b.s then isTrue (cX.ext' h.1 h.2.1 h.2.2.1 h.2.2.2)
 else isFalse (fun e=>h (by subst e;exact⟨rfl,rfl,rfl,rfl⟩))
structure Sl (w:World)(size:Nat)(A:Option Addr)(n c:Nat)(xs:List Value):Prop where
 len:xs.length=n * size
 nc:n<=c
 cm:c<=maxLen
 at_:0<n->∃b o,A=some ⟨b,o,none⟩/\b<w.heap.size/\∀j u,xs[j]? =some u->w.cell? ⟨b,o+j,none⟩=some u
theorem Sl.below {w w':World}{size:Nat}{A:Option Addr}{n c:Nat}{xs:List Value}(h:Sl w size A n c xs){B:Nat}(hb:Below B w w')(hB:w.heap.size<=B):Sl w' size A n c xs :=
 ⟨h.len,h.nc,h.cm,fun hn=>by
  obtain⟨b,o,e,hlt,hc⟩:=h.at_ hn
  exact⟨b,o,e,As hlt hb.size,fun j u hu=>(hb.cell (p:=⟨b,o+j,none⟩) (As hlt hB)).trans (hc j u hu)⟩⟩
theorem Sl.mono {w w':World}{size:Nat}{A:Option Addr}{n c:Nat}{xs:List Value}(h:Sl w size A n c xs)(hb:Below w.heap.size w w'):Sl w' size A n c xs:=h.below hb (Nat.le_refl _)
structure Ext (w:World)(v:Value)(w':World)(v':Value):Prop where
 grown:w.grownBy w' v.ownBlock
 lies:v'.ownBlock=v.ownBlock\/∃k,v'.ownBlock=some k/\w.heap.size<=k
theorem Ext.trans {w w1 w2:World}{v v1 v2:Value}(h:Ext w v w1 v1)(k:Ext w1 v1 w2 v2):Ext w v w2 v2:=by
 refine⟨⟨k.grown.os.trans h.grown.os,k.grown.tape.trans h.grown.tape,k.grown.output.trans h.grown.output,Nat.le_trans h.grown.size k.grown.size,fun i hi hne=>(k.grown.block i (As hi h.grown.size) ?_).trans (h.grown.block i hi hne)⟩,?_⟩
 ·rcases h.lies with e|⟨g,e,hg⟩<;>rw[e]
  ·exact hne
  ·intro c;injection c with c;omega
 ·rcases k.lies with e|⟨g,e,hg⟩
  ·rw[e];exact h.lies
  ·exact .inr ⟨g,e,Nat.le_trans h.grown.size hg⟩
end Go.Proofs.YtkpfigikffphdaaGreatDoor
end
section
namespace Go.Proofs.YtkpfigikffphdaaGreatDoor
def right (x:cX):Bool :=
 if x.kind=0 then decide (x.n=0/\x.scale=0/\x.s=[])
 else if x.kind=1 then decide ((x.n=0\/x.n=1)/\x.scale=0/\x.s=[])
 else if x.kind=2 then decide (x.scale=0/\x.s=[])
 else if x.kind=3 then decide (x.s=[]/\0<=x.scale/\x.scale<=6)
 else if x.kind=4 then decide (x.n=0/\x.scale=0/\x.s.length<=200)&&Lib.validD x.s
 else if x.kind=5 then decide (x.n=0/\x.scale=0/\x.s.length<=200)
 else false
def F65:cX:=⟨0,0,0,[]⟩
def plain (x:cX):cX:=if right x then x else F65
def cP (d:UInt8):Prop:=128<=d.toNat/\d.toNat<=191
instance (d:UInt8):Decidable (cP d):=inferInstanceAs (Decidable (_/\_))
def bM (x0:Int)(t:List UInt8)(m:Nat):Int:=(t.take m).foldl (fun x d=>64 * x+(d.toNat:Int)-128) x0
def dD (least x:Int):Prop:=x<least\/1114111<x\/(55296<=x/\x<57344)
instance (least x:Int):Decidable (dD least x):=inferInstanceAs (Decidable (_\/_))
theorem nG (x0:Int)(t:List UInt8):bM x0 t 0=x0:=by simp[bM]
theorem nJ (x0:Int)(t:List UInt8)(m:Nat)(d:UInt8)(h:t[m]? =some d):bM x0 t (m+1)=64 * bM x0 t m+(d.toNat:Int)-128:=by
 have hm:m<t.length:=by
  rcases Nat.lt_or_ge m t.length with h' |h'
  ·exact h'
  ·rw[List.getElem?_eq_none h']at h;cases h
 have hd:t[m]=d:=by rw[Ag hm]at h;injection h
 unfold bM;rw[List.take_succ_eq_append_getElem hm,List.foldl_append,hd];rfl
theorem eG {l:List UInt8}(hne:l≠[]){p:Prop}[Decidable p]{x m:Nat}(hx:¬p->x≠65533\/2<=m)(h:Lib.decodeL l=if p then(65533,1)else(x,m)) :
  Lib.validD l=if p then false else Lib.validD (l.drop m):=by
 rw[Lib.validD_step _ hne,h]
 by_cases hp:p
 ·simp[hp]
 ·have:=hx hp;rw[if_neg hp,if_neg hp,if_neg (by simp only;omega)]
theorem E9k (x0:Int)(d1:UInt8)(t:List UInt8):bM x0 (d1::t) 1=64 * x0+(d1.toNat:Int)-128:=by simp[bM]
theorem F0f (x0:Int)(d1 d2:UInt8)(t:List UInt8):bM x0 (d1::d2::t) 2=64 * (64 * x0+(d1.toNat:Int)-128)+(d2.toNat:Int)-128:=by simp[bM]
theorem E9u (x0:Int)(d1 d2 d3:UInt8)(t:List UInt8):bM x0 (d1::d2::d3::t) 3=64 * (64 * (64 * x0+(d1.toNat:Int)-128)+(d2.toNat:Int)-128)+(d3.toNat:Int)-128:=by simp[bM]
theorem oX {x0:Int}(h0:0<=x0)(h1:x0<32)(t:List UInt8)(m:Nat)(hm:m<=3)(hall:∀i d,i<m->t[i]? =some d->cP d):0<=bM x0 t m/\bM x0 t m<4294967296:=by
 have go :∀m,(∀i d,i<m->t[i]? =some d->cP d)->0<=bM x0 t m/\bM x0 t m<32 * 64^m:=by
  intro m
  induction m with
  |zero=>intro _;rw[nG];omega
  |succ m ih =>
   intro hall;have:=ih (fun i d hi hd=>hall i d (by omega) hd);rcases hg:t[m]? with _|d
   ·have:bM x0 t (m+1)=bM x0 t m:=by
     unfold bM;rw[List.getElem?_eq_none_iff]at hg;rw[Cy (by omega),Cy hg]
    rw[this,Int.pow_succ];omega
   ·have hc:=hall m d (by omega) hg;unfold cP at hc;rw[nJ _ _ _ _ hg,Int.pow_succ];omega
 have:=go m hall
 have h3:m=0\/m=1\/m=2\/m=3:=by omega
 rcases h3 with rfl|rfl|rfl|rfl<;>simp only[Int.reducePow,Int.reduceMul]at this<;>omega
structure C79 (c:UInt8)(n:Nat)(least x0:Int):Prop where
 cases_:(n=1/\least=128/\x0=c.toNat-192/\192<=c.toNat/\c.toNat<224)\/(n=2/\least=2048/\x0=c.toNat-224/\224<=c.toNat/\c.toNat<240)\/
  (n=3/\least=65536/\x0=c.toNat-240/\240<=c.toNat/\c.toNat<248)
theorem tE {c:UInt8}{t:List UInt8}(hc:128<=c.toNat)(h:Lib.decodeL (c::t)=(65533,1)):Lib.validD (c::t)=false:=by
 rw[Lib.validD_step _ (by simp),h];simp
theorem A5j {c:UInt8}(t:List UInt8)(h:(128<=c.toNat/\c.toNat<192)\/248<=c.toNat):Lib.validD (c::t)=false:=by
 have hc:=c.toNat_lt;refine tE (by omega) ?_;rw[Lib.decodeL_N];simp only[Ec];exact Lib.decodeN_bad _ _ _ _ _ (by omega)
theorem xD {c:UInt8}{t:List UInt8}{n:Nat}{least x0:Int}(h:C79 c n least x0)(ht:t.length<n):Lib.validD (c::t)=false:=by
 refine tE (by have:=h.cases_;omega) ?_;rw[Lib.decodeL_N];simp only[Ec,Ac];unfold Lib.decodeN;rcases h.cases_ with⟨rfl,_,_,h1,h2⟩|⟨rfl,_,_,h1,h2⟩|⟨rfl,_,_,h1,h2⟩<;>(repeat' split)<;>first|(exfalso;omega)|rfl
theorem xX {c:UInt8}{t:List UInt8}{n:Nat}{least x0:Int}(h:C79 c n least x0){i:Nat}(hi:i<n){d:UInt8}(hd:t[i]? =some d)(hc:¬cP d):Lib.validD (c::t)=false:=by
 refine tE (by have:=h.cases_;omega) ?_;rw[Lib.decodeL_N]
 have hg:(c::t).getD (i+1) 0=d:=by simp[List.getD,hd]
 have hdl:=d.toNat_lt
 have hq:d.toNat/64≠2:=by unfold cP at hc;omega
 have e0:(c::t).getD 0 0=c:=rfl;rw[e0];unfold Lib.decodeN;have hcl:=h.cases_;rcases i with _|_|_|i
 ·simp only[Bm]at hg;rw[hg]
  (repeat' split)<;>first|(exfalso;omega)|rfl
 ·simp only[Bm,Nat.reduceAdd]at hg;rw[hg]
  (repeat' split)<;>first|(exfalso;omega)|rfl
 ·simp only[Bm,Nat.reduceAdd]at hg;rw[hg]
  (repeat' split)<;>first|(exfalso;omega)|rfl
 ·omega
theorem A40 {c:UInt8}{t:List UInt8}{n:Nat}{least x0:Int}(h:C79 c n least x0)(ht:n<=t.length)(hall:∀i d,i<n->t[i]? =some d->cP d) :
  Lib.validD (c::t)=if dD least (bM x0 t n)then false else Lib.validD (t.drop n):=by
 have hcl:=c.toNat_lt;rcases h.cases_ with⟨rfl,rfl,rfl,h1,h2⟩|⟨rfl,rfl,rfl,h1,h2⟩|⟨rfl,rfl,rfl,h1,h2⟩
 ·match t,ht with
  |d1::t,_ =>
   have c1:cP d1:=hall 0 d1 (by omega) rfl;unfold cP at c1;rw[E9k];refine(eG (p:=dD 128 (64 * ((c.toNat:Int)-192)+(d1.toNat:Int)-128)) (x:=c.toNat%32 * 64+d1.toNat%64) (m:=2) (by simp) (by omega) ?_);rw[Lib.decodeL_N];simp only[Ec,Fh,Ac];split<;>rename_i hp<;>unfold dD at hp<;>unfold Lib.decodeN<;>(repeat' split)<;>first|(exfalso;omega)|rfl
 ·match t,ht with
  |d1::d2::t,_ =>
   have c1:cP d1:=hall 0 d1 (by omega) rfl;have c2:cP d2:=hall 1 d2 (by omega) rfl;unfold cP at c1 c2;rw[F0f];refine(eG (p:=dD 2048 (64 * (64 * ((c.toNat:Int)-224)+(d1.toNat:Int)-128)+(d2.toNat:Int)-128)) (x:=c.toNat%16 * 4096+d1.toNat%64 * 64+d2.toNat%64) (m:=3) (by simp) (by omega) ?_);rw[Lib.decodeL_N];simp only[Ec,Fh,Ac];split<;>rename_i hp<;>unfold dD at hp<;>unfold Lib.decodeN<;>(repeat' split)<;>first|(exfalso;omega)|rfl
 ·match t,ht with
  |d1::d2::d3::t,_ =>
   have c1:cP d1:=hall 0 d1 (by omega) rfl;have c2:cP d2:=hall 1 d2 (by omega) rfl;have c3:cP d3:=hall 2 d3 (by omega) rfl;unfold cP at c1 c2 c3;rw[E9u];refine(eG (p:=dD 65536 (64 * (64 * (64 * ((c.toNat:Int)-240)+(d1.toNat:Int)-128)+(d2.toNat:Int)-128)+(d3.toNat:Int)-128)) (x:=c.toNat%8 * 262144+d1.toNat%64 * 4096+d2.toNat%64 * 64+d3.toNat%64) (m:=4) (by simp) (by omega) ?_);rw[Lib.decodeL_N];simp only[Ec,Fh,Ac];split<;>rename_i hp<;>unfold dD at hp<;>unfold Lib.decodeN<;>(repeat' split)<;>first|(exfalso;omega)|rfl
end Go.Proofs.YtkpfigikffphdaaGreatDoor
end
section
namespace Go.Proofs.YtkpfigikffphdaaGreatDoor
open Go.RowKit
theorem B09 {l:List UInt8}{k:Nat}{c:UInt8}(hc:l[k]? =some c):∀h:k<(⟨l.toArray⟩:ByteArray).size,(⟨l.toArray⟩:ByteArray)[k]'h=c:=by
 intro h;have hk:k<l.length:=h;rw[Ag hk]at hc;injection hc
set_option maxRecDepth 100000 in
set_option maxHeartbeats 8000000 in
theorem D9t (l:List UInt8) (w:World) (hl:l.length<=9223372036854775807):Calls Tryz.prog 93 #[.string ⟨l.toArray⟩] w fun e w'=>e=.returned (.bool (Lib.validD l))/\w=w':=by
 obtain⟨ANS,hA⟩:∃b,Lib.validD l=b:=⟨_,rfl⟩;rw[hA];have HA:=hide hA;clear hA
 go_enter Tryz.func93,Tryz.ntmps93
 go_wp2_with fail
 go_loop [3] (fun i=>∃k:Nat,k<=l.length/\i=.int .i64 k/\Hid (Lib.validD (l.drop k)=ANS)) (fun i=>l.length-(intOf i).toNat)
 case atStart=>exact⟨0,by omega,rfl,HA⟩
 case round =>
  obtain⟨k,hk,rfl,hv⟩:=hrel
  by_cases hlt:k<l.length
  ·obtain⟨c,hc⟩:∃c,l[k]? =some c:=⟨l[k],by simp⟩;have hbyte:=B09 hc
   have hd:l.drop k=c::l.drop (k+1):=by
    rw[List.drop_eq_getElem_cons hlt];congr 1;rw[Ag hlt]at hc;injection hc
   have htl:(l.drop (k+1)).length+(k+1)=l.length:=by rw[List.length_drop];omega
   rw[hd]at hv;have HT:=hide htl;clear hc hd htl HA
   have hlt':(k:Int)<(l.length:Int):=by omega
   have hcl:=c.toNat_lt
   have b0:(0:Int)<=(c.toNat:Int):=by omega
   have b1:(c.toNat:Int)<256:=by omega
   by_cases h1:c.toNat<128
   ·have g1:(c.toNat:Int)<128:=by omega
    go_wp2_with fail
    go_loop [7,8] (fun x m=>x=.int .i64 (c.toNat:Int)/\m=.int .i64 1) (fun _ m=>1-(intOf m).toNat)
    case atStart=>exact⟨rfl,rfl⟩
    case round =>
     obtain⟨rfl,rfl⟩:=hrel
     go_wp2_with fail
     go_round
     case rel=>exact⟨k+1,by omega,by go_num,by
      have:=unhide hv;rw[Lib.validD_cons c _ h1]at this
      exact this⟩
     case measure=>exact(by first|(simp[intOf];done)|(simp[intOf];omega))
   by_cases h2:248<=c.toNat
   ·have g1:(248:Int)<=(c.toNat:Int):=by omega
    go_wp2_with fail
    go_ret
    exact⟨by rw[<-unhide hv,A5j _ (by omega)];rfl,rfl⟩
   by_cases h3:c.toNat<192
   ·have g1:(c.toNat:Int)<192:=by omega
    have g2:(128:Int)<=(c.toNat:Int):=by omega
    go_wp2_with fail
    go_ret
    exact⟨by rw[<-unhide hv,A5j _ (by omega)];rfl,rfl⟩
   by_cases h41:c.toNat<224
   ·have g1 :(192:Int)<=(c.toNat:Int):=by omega
    have g2:(c.toNat:Int)<224:=by omega
    have hL:Hid (C79 c 1 128 ((c.toNat:Int)-192)):=hide ⟨by omega⟩
    by_cases h5:(l.drop (k+1)).length<1
    ·have g3:(l.length:Int)-1-(k:Int)<1:=by have:=unhide HT;omega
     go_wp2_with fail
     go_ret
     exact⟨by rw[<-unhide hv,xD (unhide hL) h5];rfl,rfl⟩
    ·have g3 :(1:Int)<=(l.length:Int)-1-(k:Int):=by have:=unhide HT;omega
     obtain⟨S,hS⟩:∃S:Nat->Int,S=bM ((c.toNat:Int)-192) (l.drop (k+1)):=⟨_,rfl⟩;have HS:=hide hS
     have s0:S 0=(c.toNat:Int)-192:=by rw[hS,nG]
     have HS0:=hide s0
     have hSb:∀j,j<=1->Hid (∀i d,i<j->(l.drop (k+1))[i]? =some d->cP d)->0<=S j/\S j<4294967296:=by
      intro j hj hall;rw[hS];exact oX (by omega) (by omega) _ j (by omega) (unhide hall)
     clear hS s0
     go_wp2_with fail
     go_loop [7,8] (fun x m=>∃j:Nat,j<=1/\m=.int .i64 ((j:Int)+1)/\x=.int .i64 (S j)/\Hid (∀i d,i<j->(l.drop (k+1))[i]? =some d->cP d)) (fun _ m=>1+1-(intOf m).toNat)
     case atStart=>exact⟨0,by omega,rfl,by rw[unhide HS0],hide (fun i d h=>absurd h (by omega))⟩
     case round =>
      obtain⟨j,hj,rfl,rfl,hall⟩:=hrel;have hb:=hSb j hj hall;obtain⟨sb0,sb1⟩:=hb
      by_cases hjn:j<1
      ·have hjn':(j:Int)+1<=1:=by omega
       obtain⟨d,hd⟩:∃d,(l.drop (k+1))[j]? =some d:=⟨(l.drop (k+1))[j]'(by omega),by simp⟩;have hdb:∀h:(k+(j+1))<(⟨l.toArray⟩:ByteArray).size,(⟨l.toArray⟩:ByteArray)[k+(j+1)]'h=d:=B09 (by rw[Ca]at hd;rw[<-hd];congr 1;omega);have HDD:=hide hd;have hdl:=d.toNat_lt
       have d0:(0:Int)<=(d.toNat:Int):=by omega
       have d1:(d.toNat:Int)<256:=by omega
       have d2:(k:Int)+((j:Int)+1)<l.length:=by omega
       clear hd
       by_cases hcn:cP d
       ·unfold cP at hcn;obtain⟨c1,c2⟩:=hcn
        have c1':(128:Int)<=(d.toNat:Int):=by omega
        have c2':(d.toNat:Int)<=191:=by omega
        have hsx:S (j+1)=64 * S j+(d.toNat:Int)-128:=by rw[unhide HS,nJ _ _ _ _ (unhide HDD)]
        have HSX:=hide hsx;clear hsx
        go_wp2_with fail
        go_round
        case rel=>exact⟨j+1,by omega,by go_num,by rw[unhide HSX],hide (fun i e hi he=>by
         by_cases hij:i=j
         ·subst hij;rw[unhide HDD]at he;injection he with he;subst he;exact⟨by omega,by omega⟩
         ·exact unhide hall i e (by omega) he)⟩
        case measure=>exact(by first|(simp[intOf];done)|(simp[intOf];omega))
       ·have hstray:=xX (unhide hL) hjn (unhide HDD) hcn
        have hend:ANS=false:=by rw[<-unhide hv,hstray]
        subst hend;clear hstray hv
        by_cases hd1:d.toNat<128
        ·have c1':(d.toNat:Int)<128:=by omega
         go_wp2_with fail
         go_ret
         exact⟨rfl,rfl⟩
        ·have c0':(128:Int)<=(d.toNat:Int):=by omega
         have c1':(191:Int)<(d.toNat:Int):=by unfold cP at hcn;omega
         go_wp2_with fail
         go_ret
         exact⟨rfl,rfl⟩
      ·obtain rfl:j=1:=by omega
       have hstep:=A40 (unhide hL) (by omega) (unhide hall);rw[<-unhide HS,unhide hv]at hstep
       have hrest:1+(k+1)<=l.length:=by have:=unhide HT;omega
       have HR:=hide hstep;clear hstep hall hv;generalize hy:S 1=y at HR sb0 sb1 ⊢;clear hy HS HS0 hSb
       by_cases e1:y<128
       ·have hend:ANS=false:=by have:=unhide HR;rw[if_pos (.inl e1)]at this;exact this
        subst hend
        go_wp2_with fail
        go_ret
        exact⟨rfl,rfl⟩
       by_cases e2:1114111<y
       ·have hend:ANS=false:=by have:=unhide HR;rw[if_pos (.inr (.inl e2))]at this;exact this
        subst hend
        have e1':(128:Int)<=y:=by omega
        go_wp2_with fail
        go_ret
        exact⟨rfl,rfl⟩
       by_cases e3:55296<=y/\y<57344
       ·have hend:ANS=false:=by have:=unhide HR;rw[if_pos (.inr (.inr e3))]at this;exact this
        subst hend
        have e1':(128:Int)<=y:=by omega
        have e2':y<=(1114111:Int):=by omega
        obtain⟨e3,e4⟩:=e3
        go_wp2_with fail
        go_ret
        exact⟨rfl,rfl⟩
       have hgo:Hid (Lib.validD (l.drop (k+(1+1)))=ANS):=by
        have:=unhide HR;rw[if_neg (by unfold dD;omega),Dr]at this;rw[this];congr 2<;>omega
       clear HR
       have e1':(128:Int)<=y:=by omega
       have e2':y<=(1114111:Int):=by omega
       by_cases e4:55296<=y
       ·have e5:(57344:Int)<=y:=by omega
        clear e3
        go_wp2_with fail
        go_round
        case rel=>exact⟨k+(1+1),by omega,by go_num,hgo⟩
        case measure=>exact(by first|(simp[intOf];done)|(simp[intOf];omega))
       ·have e5:y<55296:=by omega
        clear e3 e4
        go_wp2_with fail
        go_round
        case rel=>exact⟨k+(1+1),by omega,by go_num,hgo⟩
        case measure=>exact(by first|(simp[intOf];done)|(simp[intOf];omega))
   by_cases h42:c.toNat<240
   ·have g1 :(224:Int)<=(c.toNat:Int):=by omega
    have g2:(c.toNat:Int)<240:=by omega
    have hL:Hid (C79 c 2 2048 ((c.toNat:Int)-224)):=hide ⟨by omega⟩
    by_cases h5:(l.drop (k+1)).length<2
    ·have g3:(l.length:Int)-1-(k:Int)<2:=by have:=unhide HT;omega
     go_wp2_with fail
     go_ret
     exact⟨by rw[<-unhide hv,xD (unhide hL) h5];rfl,rfl⟩
    ·have g3 :(2:Int)<=(l.length:Int)-1-(k:Int):=by have:=unhide HT;omega
     obtain⟨S,hS⟩:∃S:Nat->Int,S=bM ((c.toNat:Int)-224) (l.drop (k+1)):=⟨_,rfl⟩;have HS:=hide hS
     have s0:S 0=(c.toNat:Int)-224:=by rw[hS,nG]
     have HS0:=hide s0
     have hSb:∀j,j<=2->Hid (∀i d,i<j->(l.drop (k+1))[i]? =some d->cP d)->0<=S j/\S j<4294967296:=by
      intro j hj hall;rw[hS];exact oX (by omega) (by omega) _ j (by omega) (unhide hall)
     clear hS s0
     go_wp2_with fail
     go_loop [7,8] (fun x m=>∃j:Nat,j<=2/\m=.int .i64 ((j:Int)+1)/\x=.int .i64 (S j)/\Hid (∀i d,i<j->(l.drop (k+1))[i]? =some d->cP d)) (fun _ m=>2+1-(intOf m).toNat)
     case atStart=>exact⟨0,by omega,rfl,by rw[unhide HS0],hide (fun i d h=>absurd h (by omega))⟩
     case round =>
      obtain⟨j,hj,rfl,rfl,hall⟩:=hrel;have hb:=hSb j hj hall;obtain⟨sb0,sb1⟩:=hb
      by_cases hjn:j<2
      ·have hjn':(j:Int)+1<=2:=by omega
       obtain⟨d,hd⟩:∃d,(l.drop (k+1))[j]? =some d:=⟨(l.drop (k+1))[j]'(by omega),by simp⟩;have hdb:∀h:(k+(j+1))<(⟨l.toArray⟩:ByteArray).size,(⟨l.toArray⟩:ByteArray)[k+(j+1)]'h=d:=B09 (by rw[Ca]at hd;rw[<-hd];congr 1;omega);have HDD:=hide hd;have hdl:=d.toNat_lt
       have d0:(0:Int)<=(d.toNat:Int):=by omega
       have d1:(d.toNat:Int)<256:=by omega
       have d2:(k:Int)+((j:Int)+1)<l.length:=by omega
       clear hd
       by_cases hcn:cP d
       ·unfold cP at hcn;obtain⟨c1,c2⟩:=hcn
        have c1':(128:Int)<=(d.toNat:Int):=by omega
        have c2':(d.toNat:Int)<=191:=by omega
        have hsx:S (j+1)=64 * S j+(d.toNat:Int)-128:=by rw[unhide HS,nJ _ _ _ _ (unhide HDD)]
        have HSX:=hide hsx;clear hsx
        go_wp2_with fail
        go_round
        case rel=>exact⟨j+1,by omega,by go_num,by rw[unhide HSX],hide (fun i e hi he=>by
         by_cases hij:i=j
         ·subst hij;rw[unhide HDD]at he;injection he with he;subst he;exact⟨by omega,by omega⟩
         ·exact unhide hall i e (by omega) he)⟩
        case measure=>exact(by first|(simp[intOf];done)|(simp[intOf];omega))
       ·have hstray:=xX (unhide hL) hjn (unhide HDD) hcn
        have hend:ANS=false:=by rw[<-unhide hv,hstray]
        subst hend;clear hstray hv
        by_cases hd1:d.toNat<128
        ·have c1':(d.toNat:Int)<128:=by omega
         go_wp2_with fail
         go_ret
         exact⟨rfl,rfl⟩
        ·have c0':(128:Int)<=(d.toNat:Int):=by omega
         have c1':(191:Int)<(d.toNat:Int):=by unfold cP at hcn;omega
         go_wp2_with fail
         go_ret
         exact⟨rfl,rfl⟩
      ·obtain rfl:j=2:=by omega
       have hstep:=A40 (unhide hL) (by omega) (unhide hall);rw[<-unhide HS,unhide hv]at hstep
       have hrest:2+(k+1)<=l.length:=by have:=unhide HT;omega
       have HR:=hide hstep;clear hstep hall hv;generalize hy:S 2=y at HR sb0 sb1 ⊢;clear hy HS HS0 hSb
       by_cases e1:y<2048
       ·have hend:ANS=false:=by have:=unhide HR;rw[if_pos (.inl e1)]at this;exact this
        subst hend
        go_wp2_with fail
        go_ret
        exact⟨rfl,rfl⟩
       by_cases e2:1114111<y
       ·have hend:ANS=false:=by have:=unhide HR;rw[if_pos (.inr (.inl e2))]at this;exact this
        subst hend
        have e1':(2048:Int)<=y:=by omega
        go_wp2_with fail
        go_ret
        exact⟨rfl,rfl⟩
       by_cases e3:55296<=y/\y<57344
       ·have hend:ANS=false:=by have:=unhide HR;rw[if_pos (.inr (.inr e3))]at this;exact this
        subst hend
        have e1':(2048:Int)<=y:=by omega
        have e2':y<=(1114111:Int):=by omega
        obtain⟨e3,e4⟩:=e3
        go_wp2_with fail
        go_ret
        exact⟨rfl,rfl⟩
       have hgo:Hid (Lib.validD (l.drop (k+(1+2)))=ANS):=by
        have:=unhide HR;rw[if_neg (by unfold dD;omega),Dr]at this;rw[this];congr 2<;>omega
       clear HR
       have e1':(2048:Int)<=y:=by omega
       have e2':y<=(1114111:Int):=by omega
       by_cases e4:55296<=y
       ·have e5:(57344:Int)<=y:=by omega
        clear e3
        go_wp2_with fail
        go_round
        case rel=>exact⟨k+(1+2),by omega,by go_num,hgo⟩
        case measure=>exact(by first|(simp[intOf];done)|(simp[intOf];omega))
       ·have e5:y<55296:=by omega
        clear e3 e4
        go_wp2_with fail
        go_round
        case rel=>exact⟨k+(1+2),by omega,by go_num,hgo⟩
        case measure=>exact(by first|(simp[intOf];done)|(simp[intOf];omega))
   have g1:(240:Int)<=(c.toNat:Int):=by omega
   have g2:(c.toNat:Int)<248:=by omega
   have hL:Hid (C79 c 3 65536 ((c.toNat:Int)-240)):=hide ⟨by omega⟩
   by_cases h5:(l.drop (k+1)).length<3
   ·have g3:(l.length:Int)-1-(k:Int)<3:=by have:=unhide HT;omega
    go_wp2_with fail
    go_ret
    exact⟨by rw[<-unhide hv,xD (unhide hL) h5];rfl,rfl⟩
   ·have g3 :(3:Int)<=(l.length:Int)-1-(k:Int):=by have:=unhide HT;omega
    obtain⟨S,hS⟩:∃S:Nat->Int,S=bM ((c.toNat:Int)-240) (l.drop (k+1)):=⟨_,rfl⟩;have HS:=hide hS
    have s0:S 0=(c.toNat:Int)-240:=by rw[hS,nG]
    have HS0:=hide s0
    have hSb:∀j,j<=3->Hid (∀i d,i<j->(l.drop (k+1))[i]? =some d->cP d)->0<=S j/\S j<4294967296:=by
     intro j hj hall;rw[hS];exact oX (by omega) (by omega) _ j (by omega) (unhide hall)
    clear hS s0
    go_wp2_with fail
    go_loop [7,8] (fun x m=>∃j:Nat,j<=3/\m=.int .i64 ((j:Int)+1)/\x=.int .i64 (S j)/\Hid (∀i d,i<j->(l.drop (k+1))[i]? =some d->cP d)) (fun _ m=>3+1-(intOf m).toNat)
    case atStart=>exact⟨0,by omega,rfl,by rw[unhide HS0],hide (fun i d h=>absurd h (by omega))⟩
    case round =>
     obtain⟨j,hj,rfl,rfl,hall⟩:=hrel;have hb:=hSb j hj hall;obtain⟨sb0,sb1⟩:=hb
     by_cases hjn:j<3
     ·have hjn':(j:Int)+1<=3:=by omega
      obtain⟨d,hd⟩:∃d,(l.drop (k+1))[j]? =some d:=⟨(l.drop (k+1))[j]'(by omega),by simp⟩;have hdb:∀h:(k+(j+1))<(⟨l.toArray⟩:ByteArray).size,(⟨l.toArray⟩:ByteArray)[k+(j+1)]'h=d:=B09 (by rw[Ca]at hd;rw[<-hd];congr 1;omega);have HDD:=hide hd;have hdl:=d.toNat_lt
      have d0:(0:Int)<=(d.toNat:Int):=by omega
      have d1:(d.toNat:Int)<256:=by omega
      have d2:(k:Int)+((j:Int)+1)<l.length:=by omega
      clear hd
      by_cases hcn:cP d
      ·unfold cP at hcn;obtain⟨c1,c2⟩:=hcn
       have c1':(128:Int)<=(d.toNat:Int):=by omega
       have c2':(d.toNat:Int)<=191:=by omega
       have hsx:S (j+1)=64 * S j+(d.toNat:Int)-128:=by rw[unhide HS,nJ _ _ _ _ (unhide HDD)]
       have HSX:=hide hsx;clear hsx
       go_wp2_with fail
       go_round
       case rel=>exact⟨j+1,by omega,by go_num,by rw[unhide HSX],hide (fun i e hi he=>by
        by_cases hij:i=j
        ·subst hij;rw[unhide HDD]at he;injection he with he;subst he;exact⟨by omega,by omega⟩
        ·exact unhide hall i e (by omega) he)⟩
       case measure=>exact(by first|(simp[intOf];done)|(simp[intOf];omega))
      ·have hstray:=xX (unhide hL) hjn (unhide HDD) hcn
       have hend:ANS=false:=by rw[<-unhide hv,hstray]
       subst hend;clear hstray hv
       by_cases hd1:d.toNat<128
       ·have c1':(d.toNat:Int)<128:=by omega
        go_wp2_with fail
        go_ret
        exact⟨rfl,rfl⟩
       ·have c0':(128:Int)<=(d.toNat:Int):=by omega
        have c1':(191:Int)<(d.toNat:Int):=by unfold cP at hcn;omega
        go_wp2_with fail
        go_ret
        exact⟨rfl,rfl⟩
     ·obtain rfl:j=3:=by omega
      have hstep:=A40 (unhide hL) (by omega) (unhide hall);rw[<-unhide HS,unhide hv]at hstep
      have hrest:3+(k+1)<=l.length:=by have:=unhide HT;omega
      have HR:=hide hstep;clear hstep hall hv;generalize hy:S 3=y at HR sb0 sb1 ⊢;clear hy HS HS0 hSb
      by_cases e1:y<65536
      ·have hend:ANS=false:=by have:=unhide HR;rw[if_pos (.inl e1)]at this;exact this
       subst hend
       go_wp2_with fail
       go_ret
       exact⟨rfl,rfl⟩
      by_cases e2:1114111<y
      ·have hend:ANS=false:=by have:=unhide HR;rw[if_pos (.inr (.inl e2))]at this;exact this
       subst hend
       have e1':(65536:Int)<=y:=by omega
       go_wp2_with fail
       go_ret
       exact⟨rfl,rfl⟩
      by_cases e3:55296<=y/\y<57344
      ·have hend:ANS=false:=by have:=unhide HR;rw[if_pos (.inr (.inr e3))]at this;exact this
       subst hend
       have e1':(65536:Int)<=y:=by omega
       have e2':y<=(1114111:Int):=by omega
       obtain⟨e3,e4⟩:=e3
       go_wp2_with fail
       go_ret
       exact⟨rfl,rfl⟩
      have hgo:Hid (Lib.validD (l.drop (k+(1+3)))=ANS):=by
       have:=unhide HR;rw[if_neg (by unfold dD;omega),Dr]at this;rw[this];congr 2<;>omega
      clear HR
      have e1':(65536:Int)<=y:=by omega
      have e2':y<=(1114111:Int):=by omega
      by_cases e4:55296<=y
      ·have e5:(57344:Int)<=y:=by omega
       clear e3
       go_wp2_with fail
       go_round
       case rel=>exact⟨k+(1+3),by omega,by go_num,hgo⟩
       case measure=>exact(by first|(simp[intOf];done)|(simp[intOf];omega))
      ·exfalso;omega
  ·have hlt':(l.length:Int)<=(k:Int):=by omega
   have hk':k=l.length:=by omega
   subst hk'
   have:Lib.validD (l.drop l.length)=true:=by rw[List.drop_length];rfl
   have hend:ANS=true:=by rw[<-unhide hv,this]
   subst hend;clear this hv
   go_wp2_with fail
   go_ret
   exact⟨rfl,rfl⟩
end Go.Proofs.YtkpfigikffphdaaGreatDoor
end
section
namespace Go.Proofs.YtkpfigikffphdaaGreatDoor
open Go.RowKit Go.Shelf
def D2y:Ren :=
 {f:=fun x=>if x=196 then 257 else if x=259 then 278 else 0
  t:=fun x=>if x=0 then 0 else if x=3 then 3 else if x=4 then 4 else if x=5 then 5 else if x=9 then 9 else if x=12 then 12 else if x=46 then 40 else if x=53 then 39 else if x=119 then 230 else if x=138 then 264 else if x=139 then 265 else 0
  g:=fun x=>if x=3 then 4 else if x=4 then 5 else 0}
set_option maxRecDepth 100000 in
theorem lW:Lays.n196 Tryz.prog D2y:={
 mixed:=by kernel_rfl
 f196:=by kernel_rfl
 f259:=by kernel_rfl
 t0:=by kernel_rfl
 a0:=fun _=>by kernel_rfl
 z0:=fun _=>by kernel_rfl
 v0:=fun _=>by kernel_rfl
 t3:=by kernel_rfl
 a3:=fun _=>by kernel_rfl
 z3:=fun _=>by kernel_rfl
 v3:=fun _=>by kernel_rfl
 t4:=by kernel_rfl
 a4:=fun _=>by kernel_rfl
 z4:=fun _=>by kernel_rfl
 v4:=fun _=>by kernel_rfl
 t5:=by kernel_rfl
 a5:=fun _=>by kernel_rfl
 z5:=fun _=>by kernel_rfl
 v5:=fun _=>by kernel_rfl
 t9:=by kernel_rfl
 a9:=fun _=>by kernel_rfl
 z9:=fun _=>by kernel_rfl
 v9:=fun _=>by kernel_rfl
 t12:=by kernel_rfl
 a12:=fun _=>by kernel_rfl
 z12:=fun _=>by kernel_rfl
 v12:=fun _=>by kernel_rfl
 t46:=by kernel_rfl
 a46:=fun _=>by kernel_rfl
 z46:=fun _=>by kernel_rfl
 v46:=fun _=>by kernel_rfl
 t53:=by kernel_rfl
 a53:=fun _=>by kernel_rfl
 z53:=fun _=>by kernel_rfl
 v53:=fun _=>by kernel_rfl
 t119:=by kernel_rfl
 a119:=fun _=>by kernel_rfl
 z119:=fun _=>by kernel_rfl
 t138:=by kernel_rfl
 a138:=fun _=>by kernel_rfl
 z138:=fun _=>by kernel_rfl
 v138:=fun _=>by kernel_rfl
 t139:=by kernel_rfl
 a139:=fun _=>by kernel_rfl
 z139:=fun _=>by kernel_rfl
 v139:=fun _=>by kernel_rfl
 g3:=by kernel_rfl
 g4:=by kernel_rfl}
def yF (w:World):Prop:=Lib.Utf8Tabs 4 5 w
theorem C3w (l:List UInt8)(w:World)(hl:l.length<=9223372036854775807)(hT:yF w):Calls Tryz.prog 257 #[.string ⟨l.toArray⟩] w (Ret w (.bool (Lib.validD l))) :=
 Any.utf8_ValidString lW ⟨l.toArray⟩ w hl hT
theorem E9n:Tryz.prog.globalNamed "unicode/utf8.first" =some 4:=by kernel_rfl
theorem E0r:Tryz.prog.globalNamed "unicode/utf8.acceptRanges" =some 5:=by kernel_rfl
theorem B6s:(Tryz.prog.globals[4]?).map (·.type)=some 230:=by kernel_rfl
theorem B1d:(Tryz.prog.globals[5]?).map (·.type)=some 265:=by kernel_rfl
theorem A8j:Tryz.prog.cellsOf 5=1:=by kernel_rfl
theorem B8e:Tryz.prog.cellsOf 230=256:=by kernel_rfl
theorem A1x:Tryz.prog.cellsOf 264=2:=by kernel_rfl
theorem A4w {w:World}(h3:Lib.VarReads Tryz.prog w "unicode/utf8.first" Lib.firstData)(h4:Lib.VarReads Tryz.prog w "unicode/utf8.acceptRanges" Lib.acceptData):yF w:=by
 have t119:=lW.t119;have t139:=lW.t139;have t138:=lW.t138;have t5:=lW.t5;refine⟨fun c hc=>?_,fun i hi=>?_⟩
 ·obtain⟨g,t,cs,fuel,p,hg,hty,hvar,hd⟩:=h3;obtain rfl:=Cr (E9n.symm.trans hg);obtain rfl:=Cr (B6s.symm.trans hty);have hcs:=Lib.cells_of_tab t119 t5 A8j B8e hd;have:=World.var?_cell hg hvar c;rw[this,<-Em,hcs];simp[Lib.firstTab,hc]
 ·obtain⟨g,t,cs,fuel,p,hg,hty,hvar,hd⟩:=h4;obtain rfl:=Cr (E0r.symm.trans hg);obtain rfl:=Cr (B1d.symm.trans hty);obtain⟨fuel',d,q,hdi,he⟩:=Lib.array_elem t139 hd i hi;simp only[List.getElem?_map,List.getElem?_range hi,Option.map_some,Option.some.injEq]at hdi;subst hdi;rw[show D2y.t 138=264 from rfl,A1x]at he
  have hcs:=Lib.ints_of_struct t138 (fun j f hj=>by
   match j,hj with
   |0,hj=>simp at hj;subst hj;exact⟨t5,rfl,A8j⟩
   |1,hj=>simp at hj;subst hj;exact⟨t5,rfl,A8j⟩
   |j+2,hj=>simp at hj) (by rw[show D2y.t 138=264 from rfl,A1x];rfl) he
  have e0:=congrArg (·[0]?) hcs;have e1:=congrArg (·[1]?) hcs;simp only[List.getElem?_take,Ca]at e0 e1;constructor
  ·rw[World.var?_cell hg hvar (2 * i),<-Em];simpa [Nat.mul_comm]using e0
  ·rw[World.var?_cell hg hvar (2 * i+1),<-Em];simpa [Nat.mul_comm]using e1
end Go.Proofs.YtkpfigikffphdaaGreatDoor
end
section
namespace Go.Proofs
def Tryz.lays156_ren:Go.Shelf.Ren:=⟨fun|156=>78|165=>158|166=>159|169=>80|240=>212|241=>213|276=>239|277=>240|n=>n,fun|31=>44|9=>9|3=>3|4=>4|0=>0|20=>20|72=>128|76=>196|70=>125|37=>126|75=>195|127=>199|164=>235|5=>5|80=>130|n=>n,fun|n=>n⟩
theorem Tryz.lays156:Go.Proofs.Lays.n156 Tryz.prog Tryz.lays156_ren:={
 mixed:=by kernel_rfl
 f156:=Tryz.func78.trans (congrArg some (by kernel_rfl))
 f165:=Tryz.func158.trans (congrArg some (by kernel_rfl))
 f166:=Tryz.func159.trans (congrArg some (by kernel_rfl))
 f169:=Tryz.func80.trans (congrArg some (by kernel_rfl))
 f240:=Tryz.func212.trans (congrArg some (by kernel_rfl))
 f241:=Tryz.func213.trans (congrArg some (by kernel_rfl))
 f276:=Tryz.func239.trans (congrArg some (by kernel_rfl))
 f277:=Tryz.func240.trans (congrArg some (by kernel_rfl))
 t0:=Tryz.underlying0
 a0:=Tryz.isAgg0
 z0:=Tryz.sizeOf0
 v0:=Tryz.zeroValue0
 t3:=Tryz.underlying3
 a3:=Tryz.isAgg3
 z3:=Tryz.sizeOf3
 v3:=Tryz.zeroValue3
 t4:=Tryz.underlying4
 a4:=Tryz.isAgg4
 z4:=Tryz.sizeOf4
 v4:=Tryz.zeroValue4
 t9:=Tryz.underlying9
 a9:=Tryz.isAgg9
 z9:=Tryz.sizeOf9
 v9:=Tryz.zeroValue9
 t20:=Tryz.underlying20
 a20:=Tryz.isAgg20
 z20:=Tryz.sizeOf20
 v20:=Tryz.zeroValue20
 t31:=Tryz.underlying44
 a31:=Tryz.isAgg44
 z31:=Tryz.sizeOf44
 v31:=Tryz.zeroValue44
 t37:=Tryz.underlying126
 a37:=Tryz.isAgg126
 z37:=Tryz.sizeOf126
 v37:=Tryz.zeroValue126
 t70:=Tryz.underlying125
 a70:=Tryz.isAgg125
 z70:=Tryz.sizeOf125
 v70:=Tryz.zeroValue125
 t72:=Tryz.underlying128
 a72:=Tryz.isAgg128
 z72:=Tryz.sizeOf128
 v72:=Tryz.zeroValue128
 t75:=Tryz.underlying195
 a75:=Tryz.isAgg195
 z75:=Tryz.sizeOf195
 v75:=Tryz.zeroValue195
 t76:=Tryz.underlying196
 a76:=Tryz.isAgg196
 z76:=Tryz.sizeOf196
 v76:=Tryz.zeroValue196
 t127:=Tryz.underlying199
 a127:=Tryz.isAgg199
 z127:=Tryz.sizeOf199
 v127:=Tryz.zeroValue199
 t164:=Tryz.underlying235
 a164:=Tryz.isAgg235
 z164:=Tryz.sizeOf235
 v164:=Tryz.zeroValue235}
theorem Tryz.Builder_Extra_156:Builder.Extra Tryz.prog Tryz.lays156_ren:={
 sizeBuilder:=by kernel_rfl
 liesBuilder:=by kernel_rfl
 t5:=Tryz.underlying5
 a5:=Tryz.isAgg5
 z5:=Tryz.sizeOf5
 v5:=Tryz.zeroValue5
 infoByte:=by kernel_rfl
 cellsByte:=by kernel_rfl
 sizeByte:=by kernel_rfl
 neB5:=by decide}
def Tryz.laysB_ren:Go.Shelf.Ren:=⟨fun|166=>159|167=>161|169=>80|240=>212|276=>239|n=>n,fun|0=>0|3=>3|4=>4|5=>5|9=>9|20=>20|37=>126|70=>125|72=>128|75=>195|127=>199|164=>235|80=>130|n=>n,fun|n=>n⟩
theorem Tryz.laysB166:Go.Proofs.Lays.n166 Tryz.prog Tryz.laysB_ren:={
 mixed:=by kernel_rfl
 f166:=Tryz.func159.trans (congrArg some (by kernel_rfl))
 f240:=Tryz.func212.trans (congrArg some (by kernel_rfl))
 f276:=Tryz.func239.trans (congrArg some (by kernel_rfl))
 t0:=Tryz.underlying0
 a0:=Tryz.isAgg0
 z0:=Tryz.sizeOf0
 v0:=Tryz.zeroValue0
 t3:=Tryz.underlying3
 a3:=Tryz.isAgg3
 z3:=Tryz.sizeOf3
 v3:=Tryz.zeroValue3
 t4:=Tryz.underlying4
 a4:=Tryz.isAgg4
 z4:=Tryz.sizeOf4
 v4:=Tryz.zeroValue4
 t9:=Tryz.underlying9
 a9:=Tryz.isAgg9
 z9:=Tryz.sizeOf9
 v9:=Tryz.zeroValue9
 t20:=Tryz.underlying20
 a20:=Tryz.isAgg20
 z20:=Tryz.sizeOf20
 v20:=Tryz.zeroValue20
 t37:=Tryz.underlying126
 a37:=Tryz.isAgg126
 z37:=Tryz.sizeOf126
 v37:=Tryz.zeroValue126
 t70:=Tryz.underlying125
 a70:=Tryz.isAgg125
 z70:=Tryz.sizeOf125
 v70:=Tryz.zeroValue125
 t72:=Tryz.underlying128
 a72:=Tryz.isAgg128
 z72:=Tryz.sizeOf128
 v72:=Tryz.zeroValue128
 t75:=Tryz.underlying195
 a75:=Tryz.isAgg195
 z75:=Tryz.sizeOf195
 v75:=Tryz.zeroValue195
 t164:=Tryz.underlying235
 a164:=Tryz.isAgg235
 z164:=Tryz.sizeOf235
 v164:=Tryz.zeroValue235}
theorem Tryz.laysB167:Go.Proofs.Lays.n167 Tryz.prog Tryz.laysB_ren:={
 mixed:=by kernel_rfl
 f167:=Tryz.func161.trans (congrArg some (by kernel_rfl))
 f240:=Tryz.func212.trans (congrArg some (by kernel_rfl))
 f276:=Tryz.func239.trans (congrArg some (by kernel_rfl))
 t0:=Tryz.underlying0
 a0:=Tryz.isAgg0
 z0:=Tryz.sizeOf0
 v0:=Tryz.zeroValue0
 t4:=Tryz.underlying4
 a4:=Tryz.isAgg4
 z4:=Tryz.sizeOf4
 v4:=Tryz.zeroValue4
 t5:=Tryz.underlying5
 a5:=Tryz.isAgg5
 z5:=Tryz.sizeOf5
 v5:=Tryz.zeroValue5
 t9:=Tryz.underlying9
 a9:=Tryz.isAgg9
 z9:=Tryz.sizeOf9
 v9:=Tryz.zeroValue9
 t20:=Tryz.underlying20
 a20:=Tryz.isAgg20
 z20:=Tryz.sizeOf20
 v20:=Tryz.zeroValue20
 t37:=Tryz.underlying126
 a37:=Tryz.isAgg126
 z37:=Tryz.sizeOf126
 v37:=Tryz.zeroValue126
 t70:=Tryz.underlying125
 a70:=Tryz.isAgg125
 z70:=Tryz.sizeOf125
 v70:=Tryz.zeroValue125
 t72:=Tryz.underlying128
 a72:=Tryz.isAgg128
 z72:=Tryz.sizeOf128
 v72:=Tryz.zeroValue128
 t75:=Tryz.underlying195
 a75:=Tryz.isAgg195
 z75:=Tryz.sizeOf195
 v75:=Tryz.zeroValue195
 t164:=Tryz.underlying235
 a164:=Tryz.isAgg235
 z164:=Tryz.sizeOf235
 v164:=Tryz.zeroValue235}
theorem Tryz.laysB169:Go.Proofs.Lays.n169 Tryz.prog Tryz.laysB_ren:={
 mixed:=by kernel_rfl
 f169:=Tryz.func80.trans (congrArg some (by kernel_rfl))
 t0:=Tryz.underlying0
 a0:=Tryz.isAgg0
 z0:=Tryz.sizeOf0
 v0:=Tryz.zeroValue0
 t3:=Tryz.underlying3
 a3:=Tryz.isAgg3
 z3:=Tryz.sizeOf3
 v3:=Tryz.zeroValue3
 t9:=Tryz.underlying9
 a9:=Tryz.isAgg9
 z9:=Tryz.sizeOf9
 v9:=Tryz.zeroValue9
 t37:=Tryz.underlying126
 a37:=Tryz.isAgg126
 z37:=Tryz.sizeOf126
 v37:=Tryz.zeroValue126
 t70:=Tryz.underlying125
 a70:=Tryz.isAgg125
 z70:=Tryz.sizeOf125
 v70:=Tryz.zeroValue125
 t72:=Tryz.underlying128
 a72:=Tryz.isAgg128
 z72:=Tryz.sizeOf128
 v72:=Tryz.zeroValue128
 t127:=Tryz.underlying199
 a127:=Tryz.isAgg199
 z127:=Tryz.sizeOf199
 v127:=Tryz.zeroValue199}
theorem Tryz.laysBX:Builder.Extra Tryz.prog Tryz.laysB_ren:={
 sizeBuilder:=by kernel_rfl
 liesBuilder:=by kernel_rfl
 t5:=Tryz.underlying5
 a5:=Tryz.isAgg5
 z5:=Tryz.sizeOf5
 v5:=Tryz.zeroValue5
 infoByte:=by kernel_rfl
 cellsByte:=by kernel_rfl
 sizeByte:=by kernel_rfl
 neB5:=by decide}
end Go.Proofs
end
