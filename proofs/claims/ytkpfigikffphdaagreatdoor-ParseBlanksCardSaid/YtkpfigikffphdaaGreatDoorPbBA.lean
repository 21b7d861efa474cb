/-
  Lemmas, part B1: what the claim needs of the texts of wip/tpl.
-/
import Derived.Test.YtkpfigikffphdaaGreatDoorProg
import Derived.Shelf.Strings.Replace
import Derived.Shelf.Strings.Fields
import Derived.Shelf.Strings.Count
import Derived.Shelf.Small.Strs
import Derived.Shelf.Strings.Search3
import Derived.Shelf.Strconv.Itoa3
import Derived.Shelf.LaysM
import Derived.Shelf.Bits.Mul64
import Derived.Shelf.Strconv.ErrVarAll
import Derived.WalkKit
import Derived.WalkLawsBesides
import Derived.WalkSpells
import Derived.WalkSmall
import Derived.Maps.AppendAt
import Derived.Outline
import Derived.Lib.ValidLaws
import Derived.Shelf.Unicode.ValidAny
import Derived.Lib.LaidU8
set_option linter.unusedVariables false
set_option linter.unusedSimpArgs false
section
namespace Go.Proofs
def Tryz.lays137_ren:Go.Shelf.Ren:=⟨fun|137=>288|217=>295|266=>304|n=>n,fun|9=>9|5=>5|3=>3|n=>n,fun|n=>n⟩
theorem Tryz.lays137:Go.Proofs.Lays.n137 Tryz.prog Tryz.lays137_ren:={
 mixed:=by kernel_rfl
 f137:=Tryz.func288.trans (congrArg some (by kernel_rfl))
 f217:=Tryz.func295.trans (congrArg some (by kernel_rfl))
 f266:=Tryz.func304.trans (congrArg some (by kernel_rfl))
 t3:=Tryz.underlying3
 a3:=Tryz.isAgg3
 z3:=Tryz.sizeOf3
 v3:=Tryz.zeroValue3
 t5:=Tryz.underlying5
 a5:=Tryz.isAgg5
 z5:=Tryz.sizeOf5
 v5:=Tryz.zeroValue5
 t9:=Tryz.underlying9
 a9:=Tryz.isAgg9
 z9:=Tryz.sizeOf9
 v9:=Tryz.zeroValue9 }
def Tryz.lays144_ren:Go.Shelf.Ren:=⟨fun|144=>223|143=>252|219=>276|217=>295|225=>296|224=>297|267=>298|266=>304|314=>305|n=>n,fun|9=>9|4=>4|3=>3|5=>5|46=>40|146=>297|51=>251|n=>n,fun|1=>2|n=>n⟩
theorem Tryz.lays144:Go.Proofs.Lays.n144 Tryz.prog Tryz.lays144_ren:={
 mixed:=by kernel_rfl
 f143:=Tryz.func252.trans (congrArg some (by kernel_rfl))
 f144:=Tryz.func223.trans (congrArg some (by kernel_rfl))
 f217:=Tryz.func295.trans (congrArg some (by kernel_rfl))
 f219:=Tryz.func276.trans (congrArg some (by kernel_rfl))
 f224:=Tryz.func297.trans (congrArg some (by kernel_rfl))
 f225:=Tryz.func296.trans (congrArg some (by kernel_rfl))
 f266:=Tryz.func304.trans (congrArg some (by kernel_rfl))
 f267:=Tryz.func298.trans (congrArg some (by kernel_rfl))
 f314:=Tryz.func305.trans (congrArg some (by kernel_rfl))
 t3:=Tryz.underlying3
 a3:=Tryz.isAgg3
 z3:=Tryz.sizeOf3
 v3:=Tryz.zeroValue3
 t4:=Tryz.underlying4
 a4:=Tryz.isAgg4
 z4:=Tryz.sizeOf4
 v4:=Tryz.zeroValue4
 t5:=Tryz.underlying5
 a5:=Tryz.isAgg5
 z5:=Tryz.sizeOf5
 v5:=Tryz.zeroValue5
 t9:=Tryz.underlying9
 a9:=Tryz.isAgg9
 z9:=Tryz.sizeOf9
 v9:=Tryz.zeroValue9
 t46:=Tryz.underlying40
 a46:=Tryz.isAgg40
 z46:=Tryz.sizeOf40
 v46:=Tryz.zeroValue40
 t51:=Tryz.underlying251
 a51:=Tryz.isAgg251
 z51:=Tryz.sizeOf251
 v51:=Tryz.zeroValue251
 t146:=Tryz.underlying297
 a146:=Tryz.isAgg297
 z146:=Tryz.sizeOf297
 v146:=Tryz.zeroValue297
 g1:=by kernel_rfl }
def Tryz.lays138_ren:Go.Shelf.Ren:=⟨fun|138=>263|195=>283|218=>284|143=>252|219=>276|217=>295|225=>296|224=>297|267=>298|266=>304|314=>305|n=>n,fun|9=>9|3=>3|4=>4|5=>5|0=>0|46=>40|146=>297|51=>251|n=>n,fun|1=>2|n=>n⟩
theorem Tryz.lays138:Go.Proofs.Lays.n138 Tryz.prog Tryz.lays138_ren:={
 mixed:=by kernel_rfl
 f138:=Tryz.func263.trans (congrArg some (by kernel_rfl))
 f143:=Tryz.func252.trans (congrArg some (by kernel_rfl))
 f195:=Tryz.func283.trans (congrArg some (by kernel_rfl))
 f217:=Tryz.func295.trans (congrArg some (by kernel_rfl))
 f218:=Tryz.func284.trans (congrArg some (by kernel_rfl))
 f219:=Tryz.func276.trans (congrArg some (by kernel_rfl))
 f224:=Tryz.func297.trans (congrArg some (by kernel_rfl))
 f225:=Tryz.func296.trans (congrArg some (by kernel_rfl))
 f266:=Tryz.func304.trans (congrArg some (by kernel_rfl))
 f267:=Tryz.func298.trans (congrArg some (by kernel_rfl))
 f314:=Tryz.func305.trans (congrArg some (by kernel_rfl))
 t0:=Tryz.underlying0
 a0:=Tryz.isAgg0
 z0:=Tryz.sizeOf0
 v0:=Tryz.zeroValue0
 t3:=Tryz.underlying3
 a3:=Tryz.isAgg3
 z3:=Tryz.sizeOf3
 v3:=Tryz.zeroValue3
 t4:=Tryz.underlying4
 a4:=Tryz.isAgg4
 z4:=Tryz.sizeOf4
 v4:=Tryz.zeroValue4
 t5:=Tryz.underlying5
 a5:=Tryz.isAgg5
 z5:=Tryz.sizeOf5
 v5:=Tryz.zeroValue5
 t9:=Tryz.underlying9
 a9:=Tryz.isAgg9
 z9:=Tryz.sizeOf9
 v9:=Tryz.zeroValue9
 t46:=Tryz.underlying40
 a46:=Tryz.isAgg40
 z46:=Tryz.sizeOf40
 v46:=Tryz.zeroValue40
 t51:=Tryz.underlying251
 a51:=Tryz.isAgg251
 z51:=Tryz.sizeOf251
 v51:=Tryz.zeroValue251
 t146:=Tryz.underlying297
 a146:=Tryz.isAgg297
 z146:=Tryz.sizeOf297
 v146:=Tryz.zeroValue297
 g1:=by kernel_rfl }
def Tryz.lays155_ren:Go.Shelf.Ren:=⟨fun|155=>215|154=>241|138=>263|165=>158|143=>252|166=>159|197=>264|169=>80|195=>283|218=>284|240=>212|241=>213|219=>276|260=>285|276=>239|277=>240|217=>295|225=>296|224=>297|267=>298|266=>304|314=>305|n=>n,fun|9=>9|3=>3|4=>4|72=>128|0=>0|76=>196|105=>254|21=>21|5=>5|70=>125|20=>20|37=>126|75=>195|127=>199|164=>235|46=>40|119=>230|139=>265|138=>264|146=>297|51=>251|80=>130|n=>n,fun|1=>2|3=>4|4=>5|n=>n⟩
theorem Tryz.lays155:Go.Proofs.Lays.n155 Tryz.prog Tryz.lays155_ren:={
 mixed:=by kernel_rfl
 f138:=Tryz.func263.trans (congrArg some (by kernel_rfl))
 f143:=Tryz.func252.trans (congrArg some (by kernel_rfl))
 f154:=Tryz.func241.trans (congrArg some (by kernel_rfl))
 f155:=Tryz.func215.trans (congrArg some (by kernel_rfl))
 f165:=Tryz.func158.trans (congrArg some (by kernel_rfl))
 f166:=Tryz.func159.trans (congrArg some (by kernel_rfl))
 f169:=Tryz.func80.trans (congrArg some (by kernel_rfl))
 f195:=Tryz.func283.trans (congrArg some (by kernel_rfl))
 f197:=Tryz.func264.trans (congrArg some (by kernel_rfl))
 f217:=Tryz.func295.trans (congrArg some (by kernel_rfl))
 f218:=Tryz.func284.trans (congrArg some (by kernel_rfl))
 f219:=Tryz.func276.trans (congrArg some (by kernel_rfl))
 f224:=Tryz.func297.trans (congrArg some (by kernel_rfl))
 f225:=Tryz.func296.trans (congrArg some (by kernel_rfl))
 f240:=Tryz.func212.trans (congrArg some (by kernel_rfl))
 f241:=Tryz.func213.trans (congrArg some (by kernel_rfl))
 f260:=Tryz.func285.trans (congrArg some (by kernel_rfl))
 f266:=Tryz.func304.trans (congrArg some (by kernel_rfl))
 f267:=Tryz.func298.trans (congrArg some (by kernel_rfl))
 f276:=Tryz.func239.trans (congrArg some (by kernel_rfl))
 f277:=Tryz.func240.trans (congrArg some (by kernel_rfl))
 f314:=Tryz.func305.trans (congrArg some (by kernel_rfl))
 t0:=Tryz.underlying0
 a0:=Tryz.isAgg0
 z0:=Tryz.sizeOf0
 v0:=Tryz.zeroValue0
 t3:=Tryz.underlying3
 a3:=Tryz.isAgg3
 z3:=Tryz.sizeOf3
 v3:=Tryz.zeroValue3
 t4:=Tryz.underlying4
 a4:=Tryz.isAgg4
 z4:=Tryz.sizeOf4
 v4:=Tryz.zeroValue4
 t5:=Tryz.underlying5
 a5:=Tryz.isAgg5
 z5:=Tryz.sizeOf5
 v5:=Tryz.zeroValue5
 t9:=Tryz.underlying9
 a9:=Tryz.isAgg9
 z9:=Tryz.sizeOf9
 v9:=Tryz.zeroValue9
 t20:=Tryz.underlying20
 a20:=Tryz.isAgg20
 z20:=Tryz.sizeOf20
 v20:=Tryz.zeroValue20
 t21:=Tryz.underlying21
 a21:=Tryz.isAgg21
 z21:=Tryz.sizeOf21
 v21:=Tryz.zeroValue21
 t37:=Tryz.underlying126
 a37:=Tryz.isAgg126
 z37:=Tryz.sizeOf126
 v37:=Tryz.zeroValue126
 t46:=Tryz.underlying40
 a46:=Tryz.isAgg40
 z46:=Tryz.sizeOf40
 v46:=Tryz.zeroValue40
 t51:=Tryz.underlying251
 a51:=Tryz.isAgg251
 z51:=Tryz.sizeOf251
 v51:=Tryz.zeroValue251
 t70:=Tryz.underlying125
 a70:=Tryz.isAgg125
 z70:=Tryz.sizeOf125
 v70:=Tryz.zeroValue125
 t72:=Tryz.underlying128
 a72:=Tryz.isAgg128
 z72:=Tryz.sizeOf128
 v72:=Tryz.zeroValue128
 t75:=Tryz.underlying195
 a75:=Tryz.isAgg195
 z75:=Tryz.sizeOf195
 v75:=Tryz.zeroValue195
 t76:=Tryz.underlying196
 a76:=Tryz.isAgg196
 z76:=Tryz.sizeOf196
 v76:=Tryz.zeroValue196
 t105:=Tryz.underlying254
 a105:=Tryz.isAgg254
 z105:=Tryz.sizeOf254
 v105:=Tryz.zeroValue254
 t119:=Tryz.underlying230
 a119:=Tryz.isAgg230
 z119:=Tryz.sizeOf230
 t127:=Tryz.underlying199
 a127:=Tryz.isAgg199
 z127:=Tryz.sizeOf199
 v127:=Tryz.zeroValue199
 t138:=Tryz.underlying264
 a138:=Tryz.isAgg264
 z138:=Tryz.sizeOf264
 v138:=Tryz.zeroValue264
 t139:=Tryz.underlying265
 a139:=Tryz.isAgg265
 z139:=Tryz.sizeOf265
 v139:=Tryz.zeroValue265
 t146:=Tryz.underlying297
 a146:=Tryz.isAgg297
 z146:=Tryz.sizeOf297
 v146:=Tryz.zeroValue297
 t164:=Tryz.underlying235
 a164:=Tryz.isAgg235
 z164:=Tryz.sizeOf235
 v164:=Tryz.zeroValue235
 g1:=by kernel_rfl
 g3:=by kernel_rfl
 g4:=by kernel_rfl }
theorem Tryz.Builder_Extra_155:Builder.Extra Tryz.prog Tryz.lays155_ren:={
 sizeBuilder:=by kernel_rfl
 liesBuilder:=by kernel_rfl
 t5:=Tryz.underlying5
 a5:=Tryz.isAgg5
 z5:=Tryz.sizeOf5
 v5:=Tryz.zeroValue5
 infoByte:=by kernel_rfl
 cellsByte:=by kernel_rfl
 sizeByte:=by kernel_rfl
 neB5:=by decide }
def Tryz.lays157_ren:Go.Shelf.Ren:=⟨fun|157=>198|229=>235|199=>236|261=>262|311=>281|312=>282|n=>n,fun|9=>9|31=>44|3=>3|5=>5|4=>4|119=>230|0=>0|40=>232|152=>248|21=>21|154=>250|51=>251|141=>253|196=>271|193=>268|198=>274|49=>272|194=>269|201=>277|226=>288|46=>40|227=>289|n=>n,fun|0=>0|6=>1|n=>n⟩
theorem Tryz.lays157:Go.Proofs.Lays.n157 Tryz.prog Tryz.lays157_ren:={
 mixed:=by kernel_rfl
 f157:=Tryz.func198.trans (congrArg some (by kernel_rfl))
 f199:=Tryz.func236.trans (congrArg some (by kernel_rfl))
 f229:=Tryz.func235.trans (congrArg some (by kernel_rfl))
 f261:=Tryz.func262.trans (congrArg some (by kernel_rfl))
 f311:=Tryz.func281.trans (congrArg some (by kernel_rfl))
 f312:=Tryz.func282.trans (congrArg some (by kernel_rfl))
 t0:=Tryz.underlying0
 a0:=Tryz.isAgg0
 z0:=Tryz.sizeOf0
 v0:=Tryz.zeroValue0
 t3:=Tryz.underlying3
 a3:=Tryz.isAgg3
 z3:=Tryz.sizeOf3
 v3:=Tryz.zeroValue3
 t4:=Tryz.underlying4
 a4:=Tryz.isAgg4
 z4:=Tryz.sizeOf4
 v4:=Tryz.zeroValue4
 t5:=Tryz.underlying5
 a5:=Tryz.isAgg5
 z5:=Tryz.sizeOf5
 v5:=Tryz.zeroValue5
 t9:=Tryz.underlying9
 a9:=Tryz.isAgg9
 z9:=Tryz.sizeOf9
 v9:=Tryz.zeroValue9
 t21:=Tryz.underlying21
 a21:=Tryz.isAgg21
 z21:=Tryz.sizeOf21
 v21:=Tryz.zeroValue21
 t31:=Tryz.underlying44
 a31:=Tryz.isAgg44
 z31:=Tryz.sizeOf44
 v31:=Tryz.zeroValue44
 t40:=Tryz.underlying232
 a40:=Tryz.isAgg232
 z40:=Tryz.sizeOf232
 v40:=Tryz.zeroValue232
 t46:=Tryz.underlying40
 a46:=Tryz.isAgg40
 z46:=Tryz.sizeOf40
 v46:=Tryz.zeroValue40
 t49:=Tryz.underlying272
 a49:=Tryz.isAgg272
 z49:=Tryz.sizeOf272
 v49:=Tryz.zeroValue272
 t51:=Tryz.underlying251
 a51:=Tryz.isAgg251
 z51:=Tryz.sizeOf251
 v51:=Tryz.zeroValue251
 t119:=Tryz.underlying230
 a119:=Tryz.isAgg230
 z119:=Tryz.sizeOf230
 t141:=Tryz.underlying253
 a141:=Tryz.isAgg253
 z141:=Tryz.sizeOf253
 v141:=Tryz.zeroValue253
 t152:=Tryz.underlying248
 a152:=Tryz.isAgg248
 z152:=Tryz.sizeOf248
 v152:=Tryz.zeroValue248
 t154:=Tryz.underlying250
 a154:=Tryz.isAgg250
 z154:=Tryz.sizeOf250
 v154:=Tryz.zeroValue250
 t193:=Tryz.underlying268
 a193:=Tryz.isAgg268
 z193:=Tryz.sizeOf268
 v193:=Tryz.zeroValue268
 t194:=Tryz.underlying269
 a194:=Tryz.isAgg269
 z194:=Tryz.sizeOf269
 v194:=Tryz.zeroValue269
 t196:=Tryz.underlying271
 a196:=Tryz.isAgg271
 z196:=Tryz.sizeOf271
 v196:=Tryz.zeroValue271
 t198:=Tryz.underlying274
 a198:=Tryz.isAgg274
 z198:=Tryz.sizeOf274
 v198:=Tryz.zeroValue274
 t201:=Tryz.underlying277
 a201:=Tryz.isAgg277
 z201:=Tryz.sizeOf277
 v201:=Tryz.zeroValue277
 t226:=Tryz.underlying288
 a226:=Tryz.isAgg288
 z226:=Tryz.sizeOf288
 v226:=Tryz.zeroValue288
 t227:=Tryz.underlying289
 a227:=Tryz.isAgg289
 z227:=Tryz.sizeOf289
 v227:=Tryz.zeroValue289
 g0:=by kernel_rfl
 g6:=by kernel_rfl }
def Tryz.laysM171_ren:Go.Shelf.Ren:=⟨fun|171=>89|243=>165|246=>218|283=>243|284=>244|285=>245|286=>246|129=>266|317=>265|318=>267|319=>268|320=>269|337=>286|338=>287|n=>n,fun|3=>3|9=>9|2=>2|4=>4|171=>239|0=>0|53=>39|37=>126|5=>5|173=>242|212=>257|51=>251|20=>20|213=>258|46=>40|232=>290|233=>291|n=>n,fun|17=>3|18=>6|19=>7|n=>n⟩
theorem Tryz.laysM171:Go.Proofs.LaysM.n171 Tryz.prog Tryz.laysM171_ren:={
 mixed:=by kernel_rfl
 f129:=Tryz.func266.trans (congrArg some (by kernel_rfl))
 f171:=Tryz.func89.trans (congrArg some (by kernel_rfl))
 f243:=Tryz.func165.trans (congrArg some (by kernel_rfl))
 f246:=Tryz.func218.trans (congrArg some (by kernel_rfl))
 f283:=Tryz.func243.trans (congrArg some (by kernel_rfl))
 f284:=Tryz.func244.trans (congrArg some (by kernel_rfl))
 f285:=Tryz.func245.trans (congrArg some (by kernel_rfl))
 f286:=Tryz.func246.trans (congrArg some (by kernel_rfl))
 f317:=Tryz.func265.trans (congrArg some (by kernel_rfl))
 f318:=Tryz.func267.trans (congrArg some (by kernel_rfl))
 f319:=Tryz.func268.trans (congrArg some (by kernel_rfl))
 f320:=Tryz.func269.trans (congrArg some (by kernel_rfl))
 f337:=Tryz.func286.trans (congrArg some (by kernel_rfl))
 f338:=Tryz.func287.trans (congrArg some (by kernel_rfl))
 t0:=Tryz.underlying0
 a0:=Tryz.isAgg0
 z0:=Tryz.sizeOf0
 v0:=Tryz.zeroValue0
 t2:=Tryz.underlying2
 a2:=Tryz.isAgg2
 z2:=Tryz.sizeOf2
 v2:=Tryz.zeroValue2
 t3:=Tryz.underlying3
 a3:=Tryz.isAgg3
 z3:=Tryz.sizeOf3
 v3:=Tryz.zeroValue3
 t4:=Tryz.underlying4
 a4:=Tryz.isAgg4
 z4:=Tryz.sizeOf4
 v4:=Tryz.zeroValue4
 t5:=Tryz.underlying5
 a5:=Tryz.isAgg5
 z5:=Tryz.sizeOf5
 v5:=Tryz.zeroValue5
 t9:=Tryz.underlying9
 a9:=Tryz.isAgg9
 z9:=Tryz.sizeOf9
 v9:=Tryz.zeroValue9
 t20:=Tryz.underlying20
 a20:=Tryz.isAgg20
 z20:=Tryz.sizeOf20
 v20:=Tryz.zeroValue20
 t37:=Tryz.underlying126
 a37:=Tryz.isAgg126
 z37:=Tryz.sizeOf126
 v37:=Tryz.zeroValue126
 t46:=Tryz.underlying40
 a46:=Tryz.isAgg40
 z46:=Tryz.sizeOf40
 v46:=Tryz.zeroValue40
 t51:=Tryz.underlying251
 a51:=Tryz.isAgg251
 z51:=Tryz.sizeOf251
 v51:=Tryz.zeroValue251
 t53:=Tryz.underlying39
 a53:=Tryz.isAgg39
 z53:=Tryz.sizeOf39
 v53:=Tryz.zeroValue39
 t171:=Tryz.underlying239
 a171:=Tryz.isAgg239
 z171:=Tryz.sizeOf239
 v171:=Tryz.zeroValue239
 t173:=Tryz.underlying242
 a173:=Tryz.isAgg242
 z173:=Tryz.sizeOf242
 v173:=Tryz.zeroValue242
 t212:=Tryz.underlying257
 a212:=Tryz.isAgg257
 z212:=Tryz.sizeOf257
 v212:=Tryz.zeroValue257
 t213:=Tryz.underlying258
 a213:=Tryz.isAgg258
 z213:=Tryz.sizeOf258
 t232:=Tryz.underlying290
 a232:=Tryz.isAgg290
 z232:=Tryz.sizeOf290
 v232:=Tryz.zeroValue290
 t233:=Tryz.underlying291
 a233:=Tryz.isAgg291
 z233:=Tryz.sizeOf291
 v233:=Tryz.zeroValue291
 g17:=by kernel_rfl
 g18:=by kernel_rfl
 g19:=by kernel_rfl
 i0:=by kernel_rfl
 i2:=by kernel_rfl
 i3:=by kernel_rfl
 i4:=by kernel_rfl
 i5:=by kernel_rfl
 i9:=by kernel_rfl
 i20:=by kernel_rfl
 i37:=by kernel_rfl
 i46:=by kernel_rfl
 i51:=by kernel_rfl
 i53:=by kernel_rfl
 i171:=by kernel_rfl
 i173:=by kernel_rfl
 i212:=by kernel_rfl
 i232:=by kernel_rfl
 i233:=by kernel_rfl
 m17:=by kernel_rfl
 m18:=by kernel_rfl
 m19:=by kernel_rfl }
def Tryz.laysC172_ren:Go.Shelf.Ren:=⟨fun|172=>250|244=>274|245=>275|247=>290|279=>291|280=>292|281=>293|282=>294|287=>301|316=>302|171=>89|205=>303|321=>312|322=>313|243=>165|246=>218|283=>243|284=>244|285=>245|286=>246|129=>266|317=>265|318=>267|319=>268|320=>269|337=>286|338=>287|n=>n,fun|9=>9|3=>3|75=>195|76=>196|4=>4|5=>5|167=>281|37=>126|0=>0|85=>282|2=>2|168=>284|53=>39|175=>292|46=>40|210=>295|127=>199|145=>309|143=>307|21=>21|171=>239|173=>242|212=>257|51=>251|20=>20|213=>258|232=>290|233=>291|80=>130|n=>n,fun|15=>8|16=>9|17=>3|18=>6|19=>7|n=>n⟩
theorem Tryz.laysC172:Go.Proofs.LaysC.n172 Tryz.prog Tryz.laysC172_ren:={
 mixed:=by kernel_rfl
 f129:=Tryz.func266.trans (congrArg some (by kernel_rfl))
 f171:=Tryz.func89.trans (congrArg some (by kernel_rfl))
 f172:=Tryz.func250.trans (congrArg some (by kernel_rfl))
 f205:=Tryz.func303.trans (congrArg some (by kernel_rfl))
 f243:=Tryz.func165.trans (congrArg some (by kernel_rfl))
 f244:=Tryz.func274.trans (congrArg some (by kernel_rfl))
 f245:=Tryz.func275.trans (congrArg some (by kernel_rfl))
 f246:=Tryz.func218.trans (congrArg some (by kernel_rfl))
 f247:=Tryz.func290.trans (congrArg some (by kernel_rfl))
 f279:=Tryz.func291.trans (congrArg some (by kernel_rfl))
 f280:=Tryz.func292.trans (congrArg some (by kernel_rfl))
 f281:=Tryz.func293.trans (congrArg some (by kernel_rfl))
 f282:=Tryz.func294.trans (congrArg some (by kernel_rfl))
 f283:=Tryz.func243.trans (congrArg some (by kernel_rfl))
 f284:=Tryz.func244.trans (congrArg some (by kernel_rfl))
 f285:=Tryz.func245.trans (congrArg some (by kernel_rfl))
 f286:=Tryz.func246.trans (congrArg some (by kernel_rfl))
 f287:=Tryz.func301.trans (congrArg some (by kernel_rfl))
 f316:=Tryz.func302.trans (congrArg some (by kernel_rfl))
 f317:=Tryz.func265.trans (congrArg some (by kernel_rfl))
 f318:=Tryz.func267.trans (congrArg some (by kernel_rfl))
 f319:=Tryz.func268.trans (congrArg some (by kernel_rfl))
 f320:=Tryz.func269.trans (congrArg some (by kernel_rfl))
 f321:=Tryz.func312.trans (congrArg some (by kernel_rfl))
 f322:=Tryz.func313.trans (congrArg some (by kernel_rfl))
 f337:=Tryz.func286.trans (congrArg some (by kernel_rfl))
 f338:=Tryz.func287.trans (congrArg some (by kernel_rfl))
 t0:=Tryz.underlying0
 a0:=Tryz.isAgg0
 z0:=Tryz.sizeOf0
 v0:=Tryz.zeroValue0
 t2:=Tryz.underlying2
 a2:=Tryz.isAgg2
 z2:=Tryz.sizeOf2
 v2:=Tryz.zeroValue2
 t3:=Tryz.underlying3
 a3:=Tryz.isAgg3
 z3:=Tryz.sizeOf3
 v3:=Tryz.zeroValue3
 t4:=Tryz.underlying4
 a4:=Tryz.isAgg4
 z4:=Tryz.sizeOf4
 v4:=Tryz.zeroValue4
 t5:=Tryz.underlying5
 a5:=Tryz.isAgg5
 z5:=Tryz.sizeOf5
 v5:=Tryz.zeroValue5
 t9:=Tryz.underlying9
 a9:=Tryz.isAgg9
 z9:=Tryz.sizeOf9
 v9:=Tryz.zeroValue9
 t20:=Tryz.underlying20
 a20:=Tryz.isAgg20
 z20:=Tryz.sizeOf20
 v20:=Tryz.zeroValue20
 t21:=Tryz.underlying21
 a21:=Tryz.isAgg21
 z21:=Tryz.sizeOf21
 v21:=Tryz.zeroValue21
 t37:=Tryz.underlying126
 a37:=Tryz.isAgg126
 z37:=Tryz.sizeOf126
 v37:=Tryz.zeroValue126
 t46:=Tryz.underlying40
 a46:=Tryz.isAgg40
 z46:=Tryz.sizeOf40
 v46:=Tryz.zeroValue40
 t51:=Tryz.underlying251
 a51:=Tryz.isAgg251
 z51:=Tryz.sizeOf251
 v51:=Tryz.zeroValue251
 t53:=Tryz.underlying39
 a53:=Tryz.isAgg39
 z53:=Tryz.sizeOf39
 v53:=Tryz.zeroValue39
 t75:=Tryz.underlying195
 a75:=Tryz.isAgg195
 z75:=Tryz.sizeOf195
 v75:=Tryz.zeroValue195
 t76:=Tryz.underlying196
 a76:=Tryz.isAgg196
 z76:=Tryz.sizeOf196
 v76:=Tryz.zeroValue196
 t85:=Tryz.underlying282
 a85:=Tryz.isAgg282
 z85:=Tryz.sizeOf282
 v85:=Tryz.zeroValue282
 t127:=Tryz.underlying199
 a127:=Tryz.isAgg199
 z127:=Tryz.sizeOf199
 v127:=Tryz.zeroValue199
 t143:=Tryz.underlying307
 a143:=Tryz.isAgg307
 z143:=Tryz.sizeOf307
 v143:=Tryz.zeroValue307
 t145:=Tryz.underlying309
 a145:=Tryz.isAgg309
 z145:=Tryz.sizeOf309
 v145:=Tryz.zeroValue309
 t167:=Tryz.underlying281
 a167:=Tryz.isAgg281
 z167:=Tryz.sizeOf281
 v167:=Tryz.zeroValue281
 t168:=Tryz.underlying284
 a168:=Tryz.isAgg284
 z168:=Tryz.sizeOf284
 v168:=Tryz.zeroValue284
 t171:=Tryz.underlying239
 a171:=Tryz.isAgg239
 z171:=Tryz.sizeOf239
 v171:=Tryz.zeroValue239
 t173:=Tryz.underlying242
 a173:=Tryz.isAgg242
 z173:=Tryz.sizeOf242
 v173:=Tryz.zeroValue242
 t175:=Tryz.underlying292
 a175:=Tryz.isAgg292
 z175:=Tryz.sizeOf292
 v175:=Tryz.zeroValue292
 t210:=Tryz.underlying295
 a210:=Tryz.isAgg295
 z210:=Tryz.sizeOf295
 v210:=Tryz.zeroValue295
 t212:=Tryz.underlying257
 a212:=Tryz.isAgg257
 z212:=Tryz.sizeOf257
 v212:=Tryz.zeroValue257
 t213:=Tryz.underlying258
 a213:=Tryz.isAgg258
 z213:=Tryz.sizeOf258
 t232:=Tryz.underlying290
 a232:=Tryz.isAgg290
 z232:=Tryz.sizeOf290
 v232:=Tryz.zeroValue290
 t233:=Tryz.underlying291
 a233:=Tryz.isAgg291
 z233:=Tryz.sizeOf291
 v233:=Tryz.zeroValue291
 g15:=by kernel_rfl
 g16:=by kernel_rfl
 g17:=by kernel_rfl
 g18:=by kernel_rfl
 g19:=by kernel_rfl
 t80:=Tryz.underlying130
 a80:=Tryz.isAgg130
 z80:=Tryz.sizeOf130
 v80:=Tryz.zeroValue130
 i0:=by kernel_rfl
 i2:=by kernel_rfl
 i3:=by kernel_rfl
 i4:=by kernel_rfl
 i5:=by kernel_rfl
 i9:=by kernel_rfl
 i20:=by kernel_rfl
 i21:=by kernel_rfl
 i37:=by kernel_rfl
 i46:=by kernel_rfl
 i51:=by kernel_rfl
 i53:=by kernel_rfl
 i75:=by kernel_rfl
 i76:=by kernel_rfl
 i80:=by kernel_rfl
 i85:=by kernel_rfl
 i127:=by kernel_rfl
 i143:=by kernel_rfl
 i145:=by kernel_rfl
 i167:=by kernel_rfl
 i168:=by kernel_rfl
 i171:=by kernel_rfl
 i173:=by kernel_rfl
 i175:=by kernel_rfl
 i210:=by kernel_rfl
 i212:=by kernel_rfl
 i232:=by kernel_rfl
 i233:=by kernel_rfl
 m15:=by kernel_rfl
 m16:=by kernel_rfl
 m17:=by kernel_rfl
 m18:=by kernel_rfl
 m19:=by kernel_rfl
 c0:=by kernel_rfl
 c2:=by kernel_rfl
 c3:=by kernel_rfl
 c4:=by kernel_rfl
 c5:=by kernel_rfl
 c9:=by kernel_rfl
 c20:=by kernel_rfl
 c21:=by kernel_rfl
 c37:=by kernel_rfl
 c46:=by kernel_rfl
 c51:=by kernel_rfl
 c53:=by kernel_rfl
 c75:=by kernel_rfl
 c76:=by kernel_rfl
 c80:=by kernel_rfl
 c85:=by kernel_rfl
 c127:=by kernel_rfl
 c143:=by kernel_rfl
 c145:=by kernel_rfl
 c167:=by kernel_rfl
 c168:=by kernel_rfl
 c171:=by kernel_rfl
 c173:=by kernel_rfl
 c175:=by kernel_rfl
 c210:=by kernel_rfl
 c212:=by kernel_rfl
 c213:=by kernel_rfl
 c232:=by kernel_rfl
 c233:=by kernel_rfl }
end Go.Proofs
end
section
namespace Go.Proofs.YtkpfigikffphdaaGreatDoor
open Go.RowKit
def Ret (w:World)(v:Value):Ending→World→Prop:=fun e w'=>e=.returned v∧Below w.heap.size w w'
def bv (c:UInt8):Value:=.int .u8 c.toNat
def bvs (l:List UInt8):List Value:=l.map bv
theorem bvs_length (l:List UInt8):(bvs l).length=l.length:=by simp[bvs]
theorem bvs_get {l:List UInt8}{k:Nat}{c:UInt8}(h:l[k]? = some c):(bvs l)[k]? = some (bv c):=by simp[bvs,h]
structure Val where
 kind:Int
 n:Int
 scale:Int
 s:List UInt8
theorem Val.ext' {a b:Val}(h1:a.kind=b.kind)(h2:a.n=b.n)(h3:a.scale=b.scale)(h4:a.s=b.s):a=b:=by
 cases a;cases b;simp_all
instance:DecidableEq Val:=fun a b =>
 if h:a.kind=b.kind∧a.n=b.n∧a.scale=b.scale∧a.s=b.s then isTrue (Val.ext' h.1 h.2.1 h.2.2.1 h.2.2.2)
 else isFalse (fun e=>h (by subst e;exact⟨rfl,rfl,rfl,rfl⟩))
def Val.cells (v:Val):List Value:=[.int .i64 v.kind,.int .i64 v.n,.int .i64 v.scale,.string ⟨v.s.toArray⟩]
structure Sl (w:World)(size:Nat)(A:Option Addr)(n c:Nat)(xs:List Value):Prop where
 len:xs.length=n * size
 nc:n≤c
 cm:c≤maxLen
 at_:0<n→∃ b o,A=some ⟨b,o,none⟩∧b<w.heap.size∧∀ j u,xs[j]? = some u→w.cell? ⟨b,o+j,none⟩=some u
theorem Sl.below {w w':World}{size:Nat}{A:Option Addr}{n c:Nat}{xs:List Value}(h:Sl w size A n c xs){B:Nat}(hb:Below B w w')(hB:w.heap.size≤B):Sl w' size A n c xs :=
 ⟨h.len,h.nc,h.cm,fun hn=>by
  obtain⟨b,o,e,hlt,hc⟩:=h.at_ hn
  exact⟨b,o,e,Nat.lt_of_lt_of_le hlt hb.size,fun j u hu=>(hb.cell (p:=⟨b,o+j,none⟩) (Nat.lt_of_lt_of_le hlt hB)).trans (hc j u hu)⟩⟩
theorem Sl.mono {w w':World}{size:Nat}{A:Option Addr}{n c:Nat}{xs:List Value}(h:Sl w size A n c xs)(hb:Below w.heap.size w w'):Sl w' size A n c xs:=h.below hb (Nat.le_refl _)
theorem Sl.zero (w:World)(size:Nat)(A:Option Addr)(c:Nat)(hc:c≤maxLen):Sl w size A 0 c []:=⟨by simp,Nat.zero_le _,hc,fun h=>absurd h (by omega)⟩
theorem Sl.blen {w:World}{A:Option Addr}{n c:Nat}{l:List UInt8}(h:Sl w 1 A n c (bvs l)):l.length=n:=by have:=h.len;rw[bvs_length] at this;omega
theorem Sl.byte {w:World}{A:Option Addr}{n c:Nat}{l:List UInt8}(h:Sl w 1 A n c (bvs l)){k:Nat}(hk:k<n) :
  ∃ b o x,A=some ⟨b,o,none⟩∧b<w.heap.size∧l[k]? = some x∧w.cell? ⟨b,o+k,none⟩=some (.int .u8 (x.toNat:Int)):=by
 obtain⟨b,o,rfl,hlt,hc⟩:=h.at_ (by omega)
 have hlen:=h.blen
 have hx:l[k]? = some l[k]:=by simp
 exact⟨b,o,l[k],rfl,hlt,hx,hc k _ (bvs_get hx)⟩
structure Ext (w:World)(v:Value)(w':World)(v':Value):Prop where
 grown:w.grownBy w' v.ownBlock
 lies:v'.ownBlock=v.ownBlock∨∃ k,v'.ownBlock=some k∧w.heap.size≤k
theorem Ext.trans {w w1 w2:World}{v v1 v2:Value}(h:Ext w v w1 v1)(k:Ext w1 v1 w2 v2):Ext w v w2 v2:=by
 refine⟨⟨k.grown.os.trans h.grown.os,k.grown.tape.trans h.grown.tape,k.grown.output.trans h.grown.output,Nat.le_trans h.grown.size k.grown.size,fun i hi hne=>(k.grown.block i (Nat.lt_of_lt_of_le hi h.grown.size) ?_).trans (h.grown.block i hi hne)⟩,?_⟩
 ·rcases h.lies with e|⟨g,e,hg⟩<;>rw[e]
  ·exact hne
  ·intro c
   injection c with c
   omega
 ·rcases k.lies with e|⟨g,e,hg⟩
  ·rw[e]
   exact h.lies
  ·exact .inr ⟨g,e,Nat.le_trans h.grown.size hg⟩
end Go.Proofs.YtkpfigikffphdaaGreatDoor
end
section
namespace Go.Proofs.YtkpfigikffphdaaGreatDoor
def right (x:Val):Bool :=
 if x.kind=0 then decide (x.n=0∧x.scale=0∧x.s=[])
 else if x.kind=1 then decide ((x.n=0∨x.n=1)∧x.scale=0∧x.s=[])
 else if x.kind=2 then decide (x.scale=0∧x.s=[])
 else if x.kind=3 then decide (x.s=[]∧0≤x.scale∧x.scale≤6)
 else if x.kind=4 then decide (x.n=0∧x.scale=0∧x.s.length≤200)&&Lib.validD x.s
 else if x.kind=5 then decide (x.n=0∧x.scale=0∧x.s.length≤200)
 else false
def vnull:Val:=⟨0,0,0,[]⟩
def plain (x:Val):Val:=if right x then x else vnull
def cont (d:UInt8):Prop:=128≤d.toNat∧d.toNat≤191
instance (d:UInt8):Decidable (cont d):=inferInstanceAs (Decidable (_∧_))
def badRune (least x:Int):Prop:=x<least∨1114111<x∨(55296≤x∧x<57344)
instance (least x:Int):Decidable (badRune least x):=inferInstanceAs (Decidable (_∨_))
end Go.Proofs.YtkpfigikffphdaaGreatDoor
end
section
namespace Go.Proofs.YtkpfigikffphdaaGreatDoor
open Go.RowKit Go.Shelf
def u8ren:Ren :=
 {f:=fun x=>if x=196 then 257 else if x=259 then 278 else 0
  t:=fun x=>if x=0 then 0 else if x=3 then 3 else if x=4 then 4 else if x=5 then 5 else if x=9 then 9 else if x=12 then 12 else if x=46 then 40 else if x=53 then 39 else if x=119 then 230 else if x=138 then 264 else if x=139 then 265 else 0
  g:=fun x=>if x=3 then 4 else if x=4 then 5 else 0 }
set_option maxRecDepth 100000 in
theorem laysValid:Lays.n196 Tryz.prog u8ren:={
 mixed:=by kernel_rfl
 f196:=by kernel_rfl
 f259:=by kernel_rfl
 t0:=by kernel_rfl
 a0:=fun _=>by kernel_rfl
 z0:=fun _=>by kernel_rfl
 v0:=fun _=>by kernel_rfl
 t3:=by kernel_rfl
 a3:=fun _=>by kernel_rfl
 z3:=fun _=>by kernel_rfl
 v3:=fun _=>by kernel_rfl
 t4:=by kernel_rfl
 a4:=fun _=>by kernel_rfl
 z4:=fun _=>by kernel_rfl
 v4:=fun _=>by kernel_rfl
 t5:=by kernel_rfl
 a5:=fun _=>by kernel_rfl
 z5:=fun _=>by kernel_rfl
 v5:=fun _=>by kernel_rfl
 t9:=by kernel_rfl
 a9:=fun _=>by kernel_rfl
 z9:=fun _=>by kernel_rfl
 v9:=fun _=>by kernel_rfl
 t12:=by kernel_rfl
 a12:=fun _=>by kernel_rfl
 z12:=fun _=>by kernel_rfl
 v12:=fun _=>by kernel_rfl
 t46:=by kernel_rfl
 a46:=fun _=>by kernel_rfl
 z46:=fun _=>by kernel_rfl
 v46:=fun _=>by kernel_rfl
 t53:=by kernel_rfl
 a53:=fun _=>by kernel_rfl
 z53:=fun _=>by kernel_rfl
 v53:=fun _=>by kernel_rfl
 t119:=by kernel_rfl
 a119:=fun _=>by kernel_rfl
 z119:=fun _=>by kernel_rfl
 t138:=by kernel_rfl
 a138:=fun _=>by kernel_rfl
 z138:=fun _=>by kernel_rfl
 v138:=fun _=>by kernel_rfl
 t139:=by kernel_rfl
 a139:=fun _=>by kernel_rfl
 z139:=fun _=>by kernel_rfl
 v139:=fun _=>by kernel_rfl
 g3:=by kernel_rfl
 g4:=by kernel_rfl }
def Tabs (w:World):Prop:=Lib.Utf8Tabs 4 5 w
theorem valid_any (l:List UInt8)(w:World)(hl:l.length≤9223372036854775807)(hT:Tabs w):Calls Tryz.prog 257 #[.string ⟨l.toArray⟩] w (Ret w (.bool (Lib.validD l))) :=
 Any.utf8_ValidString laysValid ⟨l.toArray⟩ w hl hT
theorem gFirst:Tryz.prog.globalNamed "unicode/utf8.first" = some 4:=by kernel_rfl
theorem gAccept:Tryz.prog.globalNamed "unicode/utf8.acceptRanges" = some 5:=by kernel_rfl
theorem gFirstType:(Tryz.prog.globals[4]?).map (·.type)=some 230:=by kernel_rfl
theorem gAcceptType:(Tryz.prog.globals[5]?).map (·.type)=some 265:=by kernel_rfl
theorem cellsU8:Tryz.prog.cellsOf 5=1:=by kernel_rfl
theorem cellsFirst:Tryz.prog.cellsOf 230=256:=by kernel_rfl
theorem cellsRange:Tryz.prog.cellsOf 264=2:=by kernel_rfl
theorem tabs_of_reads {w:World}(h3:Lib.VarReads Tryz.prog w "unicode/utf8.first" Lib.firstData)(h4:Lib.VarReads Tryz.prog w "unicode/utf8.acceptRanges" Lib.acceptData):Tabs w:=by
 have t119:=laysValid.t119
 have t139:=laysValid.t139
 have t138:=laysValid.t138
 have t5:=laysValid.t5
 refine⟨fun c hc=>?_,fun i hi=>?_⟩
 ·obtain⟨g,t,cs,fuel,p,hg,hty,hvar,hd⟩:=h3
  obtain rfl:=Option.some.inj (gFirst.symm.trans hg)
  obtain rfl:=Option.some.inj (gFirstType.symm.trans hty)
  have hcs:=Lib.cells_of_tab t119 t5 cellsU8 cellsFirst hd
  have:=World.var?_cell hg hvar c
  rw[this,← Array.getElem?_toList,hcs]
  simp[Lib.firstTab,hc]
 ·obtain⟨g,t,cs,fuel,p,hg,hty,hvar,hd⟩:=h4
  obtain rfl:=Option.some.inj (gAccept.symm.trans hg)
  obtain rfl:=Option.some.inj (gAcceptType.symm.trans hty)
  obtain⟨fuel',d,q,hdi,he⟩:=Lib.array_elem t139 hd i hi
  simp only[List.getElem?_map,List.getElem?_range hi,Option.map_some,Option.some.injEq] at hdi
  subst hdi
  rw[show u8ren.t 138=264 from rfl,cellsRange] at he
  have hcs:=Lib.ints_of_struct t138 (fun j f hj=>by
   match j,hj with
   |0,hj=>simp at hj;subst hj;exact⟨t5,rfl,cellsU8⟩
   |1,hj=>simp at hj;subst hj;exact⟨t5,rfl,cellsU8⟩
   |j+2,hj=>simp at hj) (by rw[show u8ren.t 138=264 from rfl,cellsRange];rfl) he
  have e0:=congrArg (·[0]?) hcs
  have e1:=congrArg (·[1]?) hcs
  simp only[List.getElem?_take,List.getElem?_drop] at e0 e1
  constructor
  ·rw[World.var?_cell hg hvar (2 * i),← Array.getElem?_toList]
   simpa [Nat.mul_comm] using e0
  ·rw[World.var?_cell hg hvar (2 * i+1),← Array.getElem?_toList]
   simpa [Nat.mul_comm] using e1
end Go.Proofs.YtkpfigikffphdaaGreatDoor
end
