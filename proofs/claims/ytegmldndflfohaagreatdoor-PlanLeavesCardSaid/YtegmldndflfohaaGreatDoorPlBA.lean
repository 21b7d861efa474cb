/-
  Lemmas, part B1: what the claim needs of the texts of wip/tpl.
-/
import Derived.Test.YtegmldndflfohaaGreatDoorProg
import Derived.Shelf.Strconv.Itoa3
import Derived.Shelf.LaysM
import Derived.Shelf.Bits.Mul64
import Derived.Shelf.Strconv.ErrVarAll
import Derived.WalkKit
import Derived.WalkLawsBesides
import Derived.WalkSpells
import Derived.WalkSmall
import Derived.Maps.AppendAt
import Derived.Outline
import Derived.Lib.ValidLaws
import Derived.Shelf.Unicode.ValidAny
import Derived.Lib.LaidU8
import Derived.Shelf.Small.Strs
import Derived.Deep.RegionHeld3
import Derived.BigQuiet
import Derived.Deep.RegionWith
import Derived.Deep.DeepCutAuto
import Derived.Lib.SlBytesConst
import Derived.Test.YtegmldndflfohaaGreatDoorCards
import Derived.Test.YtegmldndflfohaaGreatDoorTie
import Derived.ProofKit
import Derived.OpenShut
import Derived.Deep.DeepHandedRow
import Derived.Lib.LaidTab
import Derived.Deep.Slices
set_option linter.unusedVariables false
set_option linter.unusedSimpArgs false
section
namespace Go.Proofs
def Tryz.laysM171_ren:Go.Shelf.Ren:=⟨fun|171=>109|243=>124|246=>137|283=>148|284=>149|285=>150|286=>151|129=>160|317=>159|318=>161|319=>162|320=>163|337=>168|338=>169|n=>n,fun|3=>3|9=>9|2=>2|4=>4|171=>194|0=>0|53=>125|37=>112|5=>5|173=>197|212=>207|51=>208|20=>20|213=>209|46=>156|232=>219|233=>220|n=>n,fun|17=>5|18=>6|19=>7|n=>n⟩
theorem Tryz.laysM171:Go.Proofs.LaysM.n171 Tryz.prog Tryz.laysM171_ren:={
 mixed:=by kernel_rfl
 f129:=Tryz.func160.trans (congrArg some (by kernel_rfl))
 f171:=Tryz.func109.trans (congrArg some (by kernel_rfl))
 f243:=Tryz.func124.trans (congrArg some (by kernel_rfl))
 f246:=Tryz.func137.trans (congrArg some (by kernel_rfl))
 f283:=Tryz.func148.trans (congrArg some (by kernel_rfl))
 f284:=Tryz.func149.trans (congrArg some (by kernel_rfl))
 f285:=Tryz.func150.trans (congrArg some (by kernel_rfl))
 f286:=Tryz.func151.trans (congrArg some (by kernel_rfl))
 f317:=Tryz.func159.trans (congrArg some (by kernel_rfl))
 f318:=Tryz.func161.trans (congrArg some (by kernel_rfl))
 f319:=Tryz.func162.trans (congrArg some (by kernel_rfl))
 f320:=Tryz.func163.trans (congrArg some (by kernel_rfl))
 f337:=Tryz.func168.trans (congrArg some (by kernel_rfl))
 f338:=Tryz.func169.trans (congrArg some (by kernel_rfl))
 t0:=Tryz.underlying0
 a0:=Tryz.isAgg0
 z0:=Tryz.sizeOf0
 v0:=Tryz.zeroValue0
 t2:=Tryz.underlying2
 a2:=Tryz.isAgg2
 z2:=Tryz.sizeOf2
 v2:=Tryz.zeroValue2
 t3:=Tryz.underlying3
 a3:=Tryz.isAgg3
 z3:=Tryz.sizeOf3
 v3:=Tryz.zeroValue3
 t4:=Tryz.underlying4
 a4:=Tryz.isAgg4
 z4:=Tryz.sizeOf4
 v4:=Tryz.zeroValue4
 t5:=Tryz.underlying5
 a5:=Tryz.isAgg5
 z5:=Tryz.sizeOf5
 v5:=Tryz.zeroValue5
 t9:=Tryz.underlying9
 a9:=Tryz.isAgg9
 z9:=Tryz.sizeOf9
 v9:=Tryz.zeroValue9
 t20:=Tryz.underlying20
 a20:=Tryz.isAgg20
 z20:=Tryz.sizeOf20
 v20:=Tryz.zeroValue20
 t37:=Tryz.underlying112
 a37:=Tryz.isAgg112
 z37:=Tryz.sizeOf112
 v37:=Tryz.zeroValue112
 t46:=Tryz.underlying156
 a46:=Tryz.isAgg156
 z46:=Tryz.sizeOf156
 v46:=Tryz.zeroValue156
 t51:=Tryz.underlying208
 a51:=Tryz.isAgg208
 z51:=Tryz.sizeOf208
 v51:=Tryz.zeroValue208
 t53:=Tryz.underlying125
 a53:=Tryz.isAgg125
 z53:=Tryz.sizeOf125
 v53:=Tryz.zeroValue125
 t171:=Tryz.underlying194
 a171:=Tryz.isAgg194
 z171:=Tryz.sizeOf194
 v171:=Tryz.zeroValue194
 t173:=Tryz.underlying197
 a173:=Tryz.isAgg197
 z173:=Tryz.sizeOf197
 v173:=Tryz.zeroValue197
 t212:=Tryz.underlying207
 a212:=Tryz.isAgg207
 z212:=Tryz.sizeOf207
 v212:=Tryz.zeroValue207
 t213:=Tryz.underlying209
 a213:=Tryz.isAgg209
 z213:=Tryz.sizeOf209
 t232:=Tryz.underlying219
 a232:=Tryz.isAgg219
 z232:=Tryz.sizeOf219
 v232:=Tryz.zeroValue219
 t233:=Tryz.underlying220
 a233:=Tryz.isAgg220
 z233:=Tryz.sizeOf220
 v233:=Tryz.zeroValue220
 g17:=by kernel_rfl
 g18:=by kernel_rfl
 g19:=by kernel_rfl
 i0:=by kernel_rfl
 i2:=by kernel_rfl
 i3:=by kernel_rfl
 i4:=by kernel_rfl
 i5:=by kernel_rfl
 i9:=by kernel_rfl
 i20:=by kernel_rfl
 i37:=by kernel_rfl
 i46:=by kernel_rfl
 i51:=by kernel_rfl
 i53:=by kernel_rfl
 i171:=by kernel_rfl
 i173:=by kernel_rfl
 i212:=by kernel_rfl
 i232:=by kernel_rfl
 i233:=by kernel_rfl
 m17:=by kernel_rfl
 m18:=by kernel_rfl
 m19:=by kernel_rfl }
def Tryz.lays264_ren:Go.Shelf.Ren:=⟨fun|264=>131|n=>n,fun|53=>125|46=>156|n=>n,fun|n=>n⟩
theorem Tryz.lays264:Go.Proofs.Lays.n264 Tryz.prog Tryz.lays264_ren:={
 mixed:=by kernel_rfl
 f264:=Tryz.func131.trans (congrArg some (by kernel_rfl))
 t46:=Tryz.underlying156
 a46:=Tryz.isAgg156
 z46:=Tryz.sizeOf156
 v46:=Tryz.zeroValue156
 t53:=Tryz.underlying125
 a53:=Tryz.isAgg125
 z53:=Tryz.sizeOf125
 v53:=Tryz.zeroValue125 }
def Tryz.laysC172_ren:Go.Shelf.Ren:=⟨fun|172=>112|244=>126|245=>127|247=>139|279=>140|280=>141|281=>142|282=>143|287=>156|316=>157|171=>109|205=>158|321=>166|322=>167|243=>124|246=>137|283=>148|284=>149|285=>150|286=>151|129=>160|317=>159|318=>161|319=>162|320=>163|337=>168|338=>169|n=>n,fun|9=>9|3=>3|75=>165|76=>166|4=>4|5=>5|167=>186|37=>112|0=>0|85=>187|2=>2|168=>189|53=>125|175=>201|46=>156|210=>204|127=>214|145=>217|143=>215|21=>21|171=>194|173=>197|212=>207|51=>208|20=>20|213=>209|232=>219|233=>220|80=>221|n=>n,fun|15=>3|16=>4|17=>5|18=>6|19=>7|n=>n⟩
theorem Tryz.laysC172:Go.Proofs.LaysC.n172 Tryz.prog Tryz.laysC172_ren:={
 mixed:=by kernel_rfl
 f129:=Tryz.func160.trans (congrArg some (by kernel_rfl))
 f171:=Tryz.func109.trans (congrArg some (by kernel_rfl))
 f172:=Tryz.func112.trans (congrArg some (by kernel_rfl))
 f205:=Tryz.func158.trans (congrArg some (by kernel_rfl))
 f243:=Tryz.func124.trans (congrArg some (by kernel_rfl))
 f244:=Tryz.func126.trans (congrArg some (by kernel_rfl))
 f245:=Tryz.func127.trans (congrArg some (by kernel_rfl))
 f246:=Tryz.func137.trans (congrArg some (by kernel_rfl))
 f247:=Tryz.func139.trans (congrArg some (by kernel_rfl))
 f279:=Tryz.func140.trans (congrArg some (by kernel_rfl))
 f280:=Tryz.func141.trans (congrArg some (by kernel_rfl))
 f281:=Tryz.func142.trans (congrArg some (by kernel_rfl))
 f282:=Tryz.func143.trans (congrArg some (by kernel_rfl))
 f283:=Tryz.func148.trans (congrArg some (by kernel_rfl))
 f284:=Tryz.func149.trans (congrArg some (by kernel_rfl))
 f285:=Tryz.func150.trans (congrArg some (by kernel_rfl))
 f286:=Tryz.func151.trans (congrArg some (by kernel_rfl))
 f287:=Tryz.func156.trans (congrArg some (by kernel_rfl))
 f316:=Tryz.func157.trans (congrArg some (by kernel_rfl))
 f317:=Tryz.func159.trans (congrArg some (by kernel_rfl))
 f318:=Tryz.func161.trans (congrArg some (by kernel_rfl))
 f319:=Tryz.func162.trans (congrArg some (by kernel_rfl))
 f320:=Tryz.func163.trans (congrArg some (by kernel_rfl))
 f321:=Tryz.func166.trans (congrArg some (by kernel_rfl))
 f322:=Tryz.func167.trans (congrArg some (by kernel_rfl))
 f337:=Tryz.func168.trans (congrArg some (by kernel_rfl))
 f338:=Tryz.func169.trans (congrArg some (by kernel_rfl))
 t0:=Tryz.underlying0
 a0:=Tryz.isAgg0
 z0:=Tryz.sizeOf0
 v0:=Tryz.zeroValue0
 t2:=Tryz.underlying2
 a2:=Tryz.isAgg2
 z2:=Tryz.sizeOf2
 v2:=Tryz.zeroValue2
 t3:=Tryz.underlying3
 a3:=Tryz.isAgg3
 z3:=Tryz.sizeOf3
 v3:=Tryz.zeroValue3
 t4:=Tryz.underlying4
 a4:=Tryz.isAgg4
 z4:=Tryz.sizeOf4
 v4:=Tryz.zeroValue4
 t5:=Tryz.underlying5
 a5:=Tryz.isAgg5
 z5:=Tryz.sizeOf5
 v5:=Tryz.zeroValue5
 t9:=Tryz.underlying9
 a9:=Tryz.isAgg9
 z9:=Tryz.sizeOf9
 v9:=Tryz.zeroValue9
 t20:=Tryz.underlying20
 a20:=Tryz.isAgg20
 z20:=Tryz.sizeOf20
 v20:=Tryz.zeroValue20
 t21:=Tryz.underlying21
 a21:=Tryz.isAgg21
 z21:=Tryz.sizeOf21
 v21:=Tryz.zeroValue21
 t37:=Tryz.underlying112
 a37:=Tryz.isAgg112
 z37:=Tryz.sizeOf112
 v37:=Tryz.zeroValue112
 t46:=Tryz.underlying156
 a46:=Tryz.isAgg156
 z46:=Tryz.sizeOf156
 v46:=Tryz.zeroValue156
 t51:=Tryz.underlying208
 a51:=Tryz.isAgg208
 z51:=Tryz.sizeOf208
 v51:=Tryz.zeroValue208
 t53:=Tryz.underlying125
 a53:=Tryz.isAgg125
 z53:=Tryz.sizeOf125
 v53:=Tryz.zeroValue125
 t75:=Tryz.underlying165
 a75:=Tryz.isAgg165
 z75:=Tryz.sizeOf165
 v75:=Tryz.zeroValue165
 t76:=Tryz.underlying166
 a76:=Tryz.isAgg166
 z76:=Tryz.sizeOf166
 v76:=Tryz.zeroValue166
 t85:=Tryz.underlying187
 a85:=Tryz.isAgg187
 z85:=Tryz.sizeOf187
 v85:=Tryz.zeroValue187
 t127:=Tryz.underlying214
 a127:=Tryz.isAgg214
 z127:=Tryz.sizeOf214
 v127:=Tryz.zeroValue214
 t143:=Tryz.underlying215
 a143:=Tryz.isAgg215
 z143:=Tryz.sizeOf215
 v143:=Tryz.zeroValue215
 t145:=Tryz.underlying217
 a145:=Tryz.isAgg217
 z145:=Tryz.sizeOf217
 v145:=Tryz.zeroValue217
 t167:=Tryz.underlying186
 a167:=Tryz.isAgg186
 z167:=Tryz.sizeOf186
 v167:=Tryz.zeroValue186
 t168:=Tryz.underlying189
 a168:=Tryz.isAgg189
 z168:=Tryz.sizeOf189
 v168:=Tryz.zeroValue189
 t171:=Tryz.underlying194
 a171:=Tryz.isAgg194
 z171:=Tryz.sizeOf194
 v171:=Tryz.zeroValue194
 t173:=Tryz.underlying197
 a173:=Tryz.isAgg197
 z173:=Tryz.sizeOf197
 v173:=Tryz.zeroValue197
 t175:=Tryz.underlying201
 a175:=Tryz.isAgg201
 z175:=Tryz.sizeOf201
 v175:=Tryz.zeroValue201
 t210:=Tryz.underlying204
 a210:=Tryz.isAgg204
 z210:=Tryz.sizeOf204
 v210:=Tryz.zeroValue204
 t212:=Tryz.underlying207
 a212:=Tryz.isAgg207
 z212:=Tryz.sizeOf207
 v212:=Tryz.zeroValue207
 t213:=Tryz.underlying209
 a213:=Tryz.isAgg209
 z213:=Tryz.sizeOf209
 t232:=Tryz.underlying219
 a232:=Tryz.isAgg219
 z232:=Tryz.sizeOf219
 v232:=Tryz.zeroValue219
 t233:=Tryz.underlying220
 a233:=Tryz.isAgg220
 z233:=Tryz.sizeOf220
 v233:=Tryz.zeroValue220
 g15:=by kernel_rfl
 g16:=by kernel_rfl
 g17:=by kernel_rfl
 g18:=by kernel_rfl
 g19:=by kernel_rfl
 t80:=Tryz.underlying221
 a80:=Tryz.isAgg221
 z80:=Tryz.sizeOf221
 v80:=Tryz.zeroValue221
 i0:=by kernel_rfl
 i2:=by kernel_rfl
 i3:=by kernel_rfl
 i4:=by kernel_rfl
 i5:=by kernel_rfl
 i9:=by kernel_rfl
 i20:=by kernel_rfl
 i21:=by kernel_rfl
 i37:=by kernel_rfl
 i46:=by kernel_rfl
 i51:=by kernel_rfl
 i53:=by kernel_rfl
 i75:=by kernel_rfl
 i76:=by kernel_rfl
 i80:=by kernel_rfl
 i85:=by kernel_rfl
 i127:=by kernel_rfl
 i143:=by kernel_rfl
 i145:=by kernel_rfl
 i167:=by kernel_rfl
 i168:=by kernel_rfl
 i171:=by kernel_rfl
 i173:=by kernel_rfl
 i175:=by kernel_rfl
 i210:=by kernel_rfl
 i212:=by kernel_rfl
 i232:=by kernel_rfl
 i233:=by kernel_rfl
 m15:=by kernel_rfl
 m16:=by kernel_rfl
 m17:=by kernel_rfl
 m18:=by kernel_rfl
 m19:=by kernel_rfl
 c0:=by kernel_rfl
 c2:=by kernel_rfl
 c3:=by kernel_rfl
 c4:=by kernel_rfl
 c5:=by kernel_rfl
 c9:=by kernel_rfl
 c20:=by kernel_rfl
 c21:=by kernel_rfl
 c37:=by kernel_rfl
 c46:=by kernel_rfl
 c51:=by kernel_rfl
 c53:=by kernel_rfl
 c75:=by kernel_rfl
 c76:=by kernel_rfl
 c80:=by kernel_rfl
 c85:=by kernel_rfl
 c127:=by kernel_rfl
 c143:=by kernel_rfl
 c145:=by kernel_rfl
 c167:=by kernel_rfl
 c168:=by kernel_rfl
 c171:=by kernel_rfl
 c173:=by kernel_rfl
 c175:=by kernel_rfl
 c210:=by kernel_rfl
 c212:=by kernel_rfl
 c213:=by kernel_rfl
 c232:=by kernel_rfl
 c233:=by kernel_rfl }
end Go.Proofs
end
section
namespace Go.Proofs.YtegmldndflfohaaGreatDoor
open Go.RowKit
theorem hide {p:Prop}(h:p):Hid p:=h
theorem unhide {p:Prop}(h:Hid p):p:=h
def Ret (w:World)(v:Value):Ending→World→Prop:=fun e w'=>e=.returned v∧Below w.heap.size w w'
def bv (c:UInt8):Value:=.int .u8 c.toNat
def bvs (l:List UInt8):List Value:=l.map bv
theorem bvs_length (l:List UInt8):(bvs l).length=l.length:=by simp[bvs]
theorem bvs_append (a b:List UInt8):bvs (a++b)=bvs a++bvs b:=by simp[bvs]
theorem bvs_one (l:List UInt8):∀ u∈bvs l,u.oneCell'=true:=by
 intro u hu
 simp only[bvs,List.mem_map] at hu
 obtain⟨c,_,rfl⟩:=hu
 rfl
theorem bvs_get {l:List UInt8}{k:Nat}{c:UInt8}(h:l[k]? = some c):(bvs l)[k]? = some (bv c):=by simp[bvs,h]
structure Val where
 kind:Int
 n:Int
 scale:Int
 s:List UInt8
theorem Val.ext' {a b:Val}(h1:a.kind=b.kind)(h2:a.n=b.n)(h3:a.scale=b.scale)(h4:a.s=b.s):a=b:=by
 cases a;cases b;simp_all
instance:DecidableEq Val:=fun a b =>
 if h:a.kind=b.kind∧a.n=b.n∧a.scale=b.scale∧a.s=b.s then isTrue (Val.ext' h.1 h.2.1 h.2.2.1 h.2.2.2)
 else isFalse (fun e=>h (by subst e;exact⟨rfl,rfl,rfl,rfl⟩))
def Val.cells (v:Val):List Value:=[.int .i64 v.kind,.int .i64 v.n,.int .i64 v.scale,.string ⟨v.s.toArray⟩]
def vcs (l:List Val):List Value:=l.flatMap Val.cells
structure Sl (w:World)(size:Nat)(A:Option Addr)(n c:Nat)(xs:List Value):Prop where
 len:xs.length=n * size
 nc:n≤c
 cm:c≤maxLen
 at_:0<n→∃ b o,A=some ⟨b,o,none⟩∧b<w.heap.size∧∀ j u,xs[j]? = some u→w.cell? ⟨b,o+j,none⟩=some u
theorem Sl.below {w w':World}{size:Nat}{A:Option Addr}{n c:Nat}{xs:List Value}(h:Sl w size A n c xs){B:Nat}(hb:Below B w w')(hB:w.heap.size≤B):Sl w' size A n c xs :=
 ⟨h.len,h.nc,h.cm,fun hn=>by
  obtain⟨b,o,e,hlt,hc⟩:=h.at_ hn
  exact⟨b,o,e,Nat.lt_of_lt_of_le hlt hb.size,fun j u hu=>(hb.cell (p:=⟨b,o+j,none⟩) (Nat.lt_of_lt_of_le hlt hB)).trans (hc j u hu)⟩⟩
theorem Sl.mono {w w':World}{size:Nat}{A:Option Addr}{n c:Nat}{xs:List Value}(h:Sl w size A n c xs)(hb:Below w.heap.size w w'):Sl w' size A n c xs:=h.below hb (Nat.le_refl _)
theorem Sl.alloc {w:World}{size:Nat}{A:Option Addr}{n c:Nat}{xs:List Value}(h:Sl w size A n c xs)(o:Obj):Sl (w.alloc o) size A n c xs :=
 h.mono ((Below.refl _ _).alloc (Nat.le_refl _) _)
theorem Sl.drewN {w:World}{size:Nat}{A:Option Addr}{n c:Nat}{xs:List Value}(h:Sl w size A n c xs)(q:Nat):Sl (w.drewN q) size A n c xs:=h.mono (Go.below_drewN (Below.refl _ _) q)
theorem Sl.zero (w:World)(size:Nat)(A:Option Addr)(c:Nat)(hc:c≤maxLen):Sl w size A 0 c []:=⟨by simp,Nat.zero_le _,hc,fun h=>absurd h (by omega)⟩
theorem Sl.blen {w:World}{A:Option Addr}{n c:Nat}{l:List UInt8}(h:Sl w 1 A n c (bvs l)):l.length=n:=by have:=h.len;rw[bvs_length] at this;omega
theorem own_form {w:World}{B:Nat}{e:TypeId}{size:Nat}{v:Value}{n:Nat}{xs:List Value}(h:w.ownsRow B e size v n xs) :
  ∃ A c,v=.slice A n c∧Sl w size A n c xs∧(A=none∨∃ g,A=some ⟨g,0,none⟩∧B≤g∧g<w.heap.size):=by
 have hl:=h.1
 rcases h.2 with ⟨rfl,rfl⟩|⟨g,cap,cur,rfl,hg,hh,hnc,hcm,hsz,ht⟩
 ·exact⟨none,0,rfl,⟨hl,Nat.le_refl _,Nat.zero_le _,fun h=>absurd h (by omega)⟩,.inl rfl⟩
 ·have hlt:=(h.lt g rfl).2
  refine⟨_,cap,rfl,⟨hl,hnc,hcm,fun _=>⟨g,0,rfl,hlt,fun j u hu=>?_⟩⟩,.inr ⟨g,rfl,hg,hlt⟩⟩
  have:=h.cells (g:=g) rfl j u hu
  rw[← this]
  congr 1
  unfold Addr.add
  split<;>simp_all
structure Ext (w:World)(v:Value)(w':World)(v':Value):Prop where
 grown:w.grownBy w' v.ownBlock
 lies:v'.ownBlock=v.ownBlock∨∃ k,v'.ownBlock=some k∧w.heap.size≤k
theorem Ext.refl (w:World)(v:Value):Ext w v w v:=⟨World.grownBy.refl _ _,.inl rfl⟩
theorem Ext.trans {w w1 w2:World}{v v1 v2:Value}(h:Ext w v w1 v1)(k:Ext w1 v1 w2 v2):Ext w v w2 v2:=by
 refine⟨⟨k.grown.os.trans h.grown.os,k.grown.tape.trans h.grown.tape,k.grown.output.trans h.grown.output,Nat.le_trans h.grown.size k.grown.size,fun i hi hne=>(k.grown.block i (Nat.lt_of_lt_of_le hi h.grown.size) ?_).trans (h.grown.block i hi hne)⟩,?_⟩
 ·rcases h.lies with e|⟨g,e,hg⟩<;>rw[e]
  ·exact hne
  ·intro c
   injection c with c
   omega
 ·rcases k.lies with e|⟨g,e,hg⟩
  ·rw[e]
   exact h.lies
  ·exact .inr ⟨g,e,Nat.le_trans h.grown.size hg⟩
theorem Ext.appended {w w1 w':World}{v v':Value}(hb:Below w.heap.size w w1)(hg:w1.grownBy w' v.ownBlock)(hat:v'.ownBlock=v.ownBlock∨v'.ownBlock=some w1.heap.size):Ext w v w' v':=by
 refine⟨⟨hg.os.trans hb.os,hg.tape.trans hb.tape,hg.output.trans hb.output,Nat.le_trans hb.size hg.size,fun i hi hne=>(hg.block i (Nat.lt_of_lt_of_le hi hb.size) hne).trans (hb.block i hi)⟩,?_⟩
 rcases hat with e|e
 ·exact .inl e
 ·exact .inr ⟨_,e,hb.size⟩
theorem Ext.below {w w':World}{v v':Value}(h:Ext w v w' v'){B:Nat}(hB:B≤w.heap.size)(hv:∀ k,v.ownBlock=some k→B≤k):Below B w w' :=
 ⟨h.grown.os,h.grown.tape,h.grown.output,h.grown.size,fun i hi=>h.grown.block i (by omega) (fun e=>by have:=hv i e.symm;omega)⟩
theorem run_sl_string {P:Program}(w:World)(src dst e:TypeId)(hs:P.underlying src=some (.slice e))(he:P.underlying e=some (.int .u8))(hd:P.underlying dst=some .string)
  (A:Option Addr) (n c:Nat) (l:List UInt8) (h:Sl w 1 A n c (bvs l)):(convert src dst (.slice A n c)).run P w=.ok (.string ⟨l.toArray⟩) w:=by
 have hlen:=h.blen
 rcases A with _|ad
 ·have hn:n=0:=by
   rcases Nat.eq_zero_or_pos n with h0|h0
   ·exact h0
   ·obtain⟨_,_,e,_⟩:=h.at_ h0
    cases e
  subst hn
  have:l=[]:=List.eq_nil_of_length_eq_zero hlen
  subst this
  exact run_convert_bytes_nil w src e hs he 0 c dst hd
 ·rcases Nat.eq_zero_or_pos n with h0|h0
  ·subst h0
   have:l=[]:=List.eq_nil_of_length_eq_zero hlen
   subst this
   have hl:(loadCells ad 0).run P w=.ok (([]:List Int).map (Value.int .u8)).toArray w:=by
    have:=run_loadCells_list (P:=P) w ad [] (fun j v hj=>by simp at hj)
    simpa using this
   rw[run_convert_bytes_string w src dst e _ 0 c hs he hd,run_bytesToString w ad 0 c [] hl,foldl_push_bytes]
   rfl
  ·obtain⟨b,o,e1,_,hc⟩:=h.at_ h0
   injection e1 with e1
   subst e1
   have:=run_convert_bytes_arg w src e hs he b o n c (l.map fun x=>(x.toNat:Int)) (by simpa using hlen) (fun i hi=>by
    have hx:l[i]? = some (l[i]'(by omega)):=List.getElem?_eq_getElem (by omega)
    have h2:=hc i _ (bvs_get hx)
    rw[h2]
    simp[bv,List.getD,hx]) dst hd
   rw[this]
   unfold strOfNums
   congr 4
   rw[List.map_map]
   conv=>rhs;rw[← List.map_id l]
   apply List.map_congr_left
   intro x _
   simp
theorem wpList_sl_string {P:Program}{w:World}{ops:Array Oper}{rest:List Oper}{o:Oper}{a:Act}{Q:Exit→Act→World→Prop}(hgd:o.guard=none)(src dst e:TypeId)(x:Operand)
  (ho:o.op=.convert src dst x) (hs:P.underlying src=some (.slice e)) (he:P.underlying e=some (.int .u8)) (hd:P.underlying dst=some .string)
  {A:Option Addr} {n c:Nat} {l:List UInt8} (hx:a.eval x=.slice A n c) (h:Sl w 1 A n c (bvs l))
  (k:wpList P ops Q rest (a.put o.dst (.string ⟨l.toArray⟩)) w):wpList P ops Q (o::rest) a w:=by
 refine wpList_plain hgd fun K hK=>?_
 unfold Oper.wp execOp
 simp only[ho,hx,Sem.run_bind,run_sl_string w src dst e hs he hd A n c l h,Result.andThen_ok,Sem.run_pure]
 exact hK _ _ k
theorem run_append_sl {P:Program}(w:World)(base:Nat)(t ty e:TypeId)(i:TypeInfo)(z:Value)(size bytes:Nat)(ht:P.underlying t=some (.slice e))(hi:P.info? e=some i)(hz:i.zero=some z)
  (hsize:i.size=size) (hby:i.bytes=bytes) (hzs:z.cells.size=size) (hsz:0<size)
  (v:Value) (n:Nat) (xs:List Value) (hown:w.ownsRow base e size v n xs)
  (A:Option Addr) (m c:Nat) (news:List Value) (hr:Sl w size A m c news) (h1:∀ u∈news,u.oneCell'=true)
  (h63:n+m≤maxLen) (hbytes:(n+m) * bytes≤140737488355328) (hbase:base≤w.heap.size) :
  ∃ v' w',(Builtin.append_ #[t,t] ty #[v,.slice A m c]).run P w=.ok v' w'∧w'.ownsRow base e size v' (n+m) (xs++news)∧w.grownBy w' v.ownBlock ∧
   (v'.ownBlock=v.ownBlock∨v'.ownBlock=some w.heap.size):=by
 rcases A with _|ad
 ·have hm:m=0:=by
   rcases Nat.eq_zero_or_pos m with h0|h0
   ·exact h0
   ·obtain⟨_,_,e,_⟩:=hr.at_ h0
    cases e
  subst hm
  have hn:news=[]:=List.eq_nil_of_length_eq_zero (by have:=hr.len;omega)
  subst hn
  refine⟨v,w,?_,by simpa using hown,World.grownBy.refl w _,.inl rfl⟩
  rcases hown.2 with ⟨rfl,rfl⟩|⟨g,cap,cur,rfl,_,_,hnc,_⟩
  ·simp[Builtin.append_,run_underlying ht,sizeOf,typeInfo,hi,Builtin.lenOf,Builtin.firstCells]
  ·simp[Builtin.append_,run_underlying ht,sizeOf,typeInfo,hi,Builtin.lenOf,Builtin.firstCells,hnc,storeCells]
 ·have hcells:∀ j u,news[j]? = some u→w.cell? (ad.add j)=some u:=by
   intro j u hu
   rcases Nat.eq_zero_or_pos m with h0|h0
   ·subst h0
    have hn:news=[]:=List.eq_nil_of_length_eq_zero (by have:=hr.len;omega)
    subst hn
    simp at hu
   ·obtain⟨b,o,h,_,hc⟩:=hr.at_ h0
    injection h with h
    subst h
    rw[← hc j u hu]
    congr 1
    unfold Addr.add
    split<;>simp_all
  obtain⟨v',w',hrun,h2,h3,_,h5⟩:=run_append_own_at (P:=P) w base t ty e i z size bytes ht hi hz hsize hby hzs hsz v n xs hown ad m c news hr.len hcells h1 h63 hbytes hbase
  exact⟨v',w',hrun,h2,h3,h5⟩
theorem wpList_append_sl {P:Program}{w:World}{ops:Array Oper}{rest:List Oper}{o:Oper}{a:Act}{Q:Exit→Act→World→Prop}(hgd:o.guard=none)(s x:Operand)(t:TypeId)
  (ho:o.op=.call { callee:=.builtin .append,args:=#[s,x],argTypes:=#[t,t] })
  (base:Nat) (e:TypeId) (z:Value) (size bytes:Nat) (ht:P.underlying t=some (.slice e)) (hinfo:(P.info? e).map (fun i=>(i.zero,i.size,i.bytes))=some (some z,size,bytes))
  (hzs:z.cells.size=size) (hsz:0<size)
  {v:Value} {n:Nat} {xs:List Value} (hs:a.eval s=v) (hown:w.ownsRow base e size v n xs)
  {A:Option Addr} {m c:Nat} {news:List Value} (hx:a.eval x=.slice A m c) (hr:Sl w size A m c news) (h1:∀ u∈news,u.oneCell'=true)
  (h63:n+m≤maxLen) (hbytes:(n+m) * bytes≤140737488355328) (hbase:base≤w.heap.size)
  (h:∀ v' w',w'.ownsRow base e size v' (n+m) (xs++news)→w.grownBy w' v.ownBlock→(v'.ownBlock=v.ownBlock∨v'.ownBlock=some w.heap.size)→wpList P ops Q rest (a.put o.dst v') w') :
  wpList P ops Q (o::rest) a w:=by
 obtain⟨i,hi,hz,hsize,hby⟩:=info_parts hinfo
 refine wpList_plain hgd fun K hK=>?_
 obtain⟨v',w',hr',h2,h3,h5⟩:=run_append_sl (P:=P) w base t o.type e i z size bytes ht hi hz hsize hby hzs hsz v n xs hown A m c news hr h1 h63 hbytes hbase
 unfold Oper.wp execOp
 simp only[ho,resolve,invoke,builtin,Sem.run_bind,Sem.run_pure,Result.andThen_ok,List.map_toArray,List.map_cons,List.map_nil,hs,hx,hr']
 exact hK _ _ (h v' w' h2 h3 h5)
end Go.Proofs.YtegmldndflfohaaGreatDoor
end
section
namespace Go.Proofs.YtegmldndflfohaaGreatDoor
def right (x:Val):Bool :=
 if x.kind=0 then decide (x.n=0∧x.scale=0∧x.s=[])
 else if x.kind=1 then decide ((x.n=0∨x.n=1)∧x.scale=0∧x.s=[])
 else if x.kind=2 then decide (x.scale=0∧x.s=[])
 else if x.kind=3 then decide (x.s=[]∧0≤x.scale∧x.scale≤6)
 else if x.kind=4 then decide (x.n=0∧x.scale=0∧x.s.length≤200)&&Lib.validD x.s
 else if x.kind=5 then decide (x.n=0∧x.scale=0∧x.s.length≤200)
 else false
def vnull:Val:=⟨0,0,0,[]⟩
def plain (x:Val):Val:=if right x then x else vnull
theorem right_null:right vnull=true:=by decide
theorem right_plain (x:Val):right (plain x)=true:=by
 unfold plain
 split
 ·assumption
 ·exact right_null
theorem plain_right {x:Val}(h:right x=true):plain x=x:=if_pos h
theorem plain_wrong {x:Val}(h:right x=false):plain x=vnull:=if_neg (by simp[h])
def cont (d:UInt8):Prop:=128≤d.toNat∧d.toNat≤191
instance (d:UInt8):Decidable (cont d):=inferInstanceAs (Decidable (_∧_))
def spell (x0:Int)(t:List UInt8)(m:Nat):Int:=(t.take m).foldl (fun x d=>64 * x+(d.toNat:Int)-128) x0
def badRune (least x:Int):Prop:=x<least∨1114111<x∨(55296≤x∧x<57344)
instance (least x:Int):Decidable (badRune least x):=inferInstanceAs (Decidable (_∨_))
theorem spell_zero (x0:Int)(t:List UInt8):spell x0 t 0=x0:=by simp[spell]
theorem spell_succ (x0:Int)(t:List UInt8)(m:Nat)(d:UInt8)(h:t[m]? = some d):spell x0 t (m+1)=64 * spell x0 t m+(d.toNat:Int)-128:=by
 have hm:m<t.length:=by
  rcases Nat.lt_or_ge m t.length with h' | h'
  ·exact h'
  ·rw[List.getElem?_eq_none h'] at h;cases h
 have hd:t[m]=d:=by rw[List.getElem?_eq_getElem hm] at h;injection h
 unfold spell
 rw[List.take_succ_eq_append_getElem hm,List.foldl_append,hd]
 rfl
theorem validD_of_decode {l:List UInt8}(hne:l≠[]){p:Prop}[Decidable p]{x m:Nat}(hx:¬ p→x≠65533∨2≤m)(h:Lib.decodeL l=if p then (65533,1) else (x,m)) :
  Lib.validD l=if p then false else Lib.validD (l.drop m):=by
 rw[Lib.validD_step _ hne,h]
 by_cases hp:p
 ·simp[hp]
 ·have:=hx hp
  rw[if_neg hp,if_neg hp,if_neg (by simp only;omega)]
theorem spell1 (x0:Int)(d1:UInt8)(t:List UInt8):spell x0 (d1::t) 1=64 * x0+(d1.toNat:Int)-128:=by simp[spell]
theorem spell2 (x0:Int)(d1 d2:UInt8)(t:List UInt8):spell x0 (d1::d2::t) 2=64 * (64 * x0+(d1.toNat:Int)-128)+(d2.toNat:Int)-128:=by simp[spell]
theorem spell3 (x0:Int)(d1 d2 d3:UInt8)(t:List UInt8):spell x0 (d1::d2::d3::t) 3=64 * (64 * (64 * x0+(d1.toNat:Int)-128)+(d2.toNat:Int)-128)+(d3.toNat:Int)-128:=by simp[spell]
theorem spell_bound {x0:Int}(h0:0≤x0)(h1:x0<32)(t:List UInt8)(m:Nat)(hm:m≤3)(hall:∀ i d,i<m→t[i]? = some d→cont d):0≤spell x0 t m∧spell x0 t m<4294967296:=by
 have go : ∀ m,(∀ i d,i<m→t[i]? = some d→cont d)→0≤spell x0 t m∧spell x0 t m<32 * 64^m:=by
  intro m
  induction m with
  |zero=>intro _;rw[spell_zero];omega
  |succ m ih =>
   intro hall
   have:=ih (fun i d hi hd=>hall i d (by omega) hd)
   rcases hg:t[m]? with _|d
   ·have:spell x0 t (m+1)=spell x0 t m:=by
     unfold spell
     rw[List.getElem?_eq_none_iff] at hg
     rw[List.take_of_length_le (by omega),List.take_of_length_le hg]
    rw[this,Int.pow_succ]
    omega
   ·have hc:=hall m d (by omega) hg
    unfold cont at hc
    rw[spell_succ _ _ _ _ hg,Int.pow_succ]
    omega
 have:=go m hall
 have h3:m=0∨m=1∨m=2∨m=3:=by omega
 rcases h3 with rfl|rfl|rfl|rfl<;>simp only[Int.reducePow,Int.reduceMul] at this<;>omega
structure Lead (c:UInt8)(n:Nat)(least x0:Int):Prop where
 cases_:(n=1∧least=128∧x0=c.toNat-192∧192≤c.toNat∧c.toNat<224)∨(n=2∧least=2048∧x0=c.toNat-224∧224≤c.toNat∧c.toNat<240) ∨
  (n=3∧least=65536∧x0=c.toNat-240∧240≤c.toNat∧c.toNat<248)
theorem decode_bad {c:UInt8}{t:List UInt8}(hc:128≤c.toNat)(h:Lib.decodeL (c::t)=(65533,1)):Lib.validD (c::t)=false:=by
 rw[Lib.validD_step _ (by simp),h];simp
theorem utf_wrong {c:UInt8}(t:List UInt8)(h:(128≤c.toNat∧c.toNat<192)∨248≤c.toNat):Lib.validD (c::t)=false:=by
 have hc:=c.toNat_lt
 refine decode_bad (by omega) ?_
 rw[Lib.decodeL_N]
 simp only[List.getD_cons_zero]
 exact Lib.decodeN_bad _ _ _ _ _ (by omega)
theorem utf_short {c:UInt8}{t:List UInt8}{n:Nat}{least x0:Int}(h:Lead c n least x0)(ht:t.length<n):Lib.validD (c::t)=false:=by
 refine decode_bad (by have:=h.cases_;omega) ?_
 rw[Lib.decodeL_N]
 simp only[List.getD_cons_zero,List.length_cons]
 unfold Lib.decodeN
 rcases h.cases_ with ⟨rfl,_,_,h1,h2⟩|⟨rfl,_,_,h1,h2⟩|⟨rfl,_,_,h1,h2⟩<;>(repeat' split)<;>first|(exfalso;omega)|rfl
theorem utf_stray {c:UInt8}{t:List UInt8}{n:Nat}{least x0:Int}(h:Lead c n least x0){i:Nat}(hi:i<n){d:UInt8}(hd:t[i]? = some d)(hc:¬ cont d):Lib.validD (c::t)=false:=by
 refine decode_bad (by have:=h.cases_;omega) ?_
 rw[Lib.decodeL_N]
 have hg:(c::t).getD (i+1) 0=d:=by simp[List.getD,hd]
 have hdl:=d.toNat_lt
 have hq:d.toNat/64≠2:=by unfold cont at hc;omega
 have e0:(c::t).getD 0 0=c:=rfl
 rw[e0]
 unfold Lib.decodeN
 have hcl:=h.cases_
 rcases i with _|_|_|i
 ·simp only[Nat.zero_add] at hg
  rw[hg]
  (repeat' split)<;>first|(exfalso;omega)|rfl
 ·simp only[Nat.zero_add,Nat.reduceAdd] at hg
  rw[hg]
  (repeat' split)<;>first|(exfalso;omega)|rfl
 ·simp only[Nat.zero_add,Nat.reduceAdd] at hg
  rw[hg]
  (repeat' split)<;>first|(exfalso;omega)|rfl
 ·omega
theorem utf_step {c:UInt8}{t:List UInt8}{n:Nat}{least x0:Int}(h:Lead c n least x0)(ht:n≤t.length)(hall:∀ i d,i<n→t[i]? = some d→cont d) :
  Lib.validD (c::t)=if badRune least (spell x0 t n) then false else Lib.validD (t.drop n):=by
 have hcl:=c.toNat_lt
 rcases h.cases_ with ⟨rfl,rfl,rfl,h1,h2⟩|⟨rfl,rfl,rfl,h1,h2⟩|⟨rfl,rfl,rfl,h1,h2⟩
 ·match t,ht with
  |d1::t,_ =>
   have c1:cont d1:=hall 0 d1 (by omega) rfl
   unfold cont at c1
   rw[spell1]
   refine (validD_of_decode (p:=badRune 128 (64 * ((c.toNat:Int)-192)+(d1.toNat:Int)-128)) (x:=c.toNat%32 * 64+d1.toNat%64) (m:=2) (by simp) (by omega) ?_)
   rw[Lib.decodeL_N]
   simp only[List.getD_cons_zero,List.getD_cons_succ,List.length_cons]
   split<;>rename_i hp<;>unfold badRune at hp<;>unfold Lib.decodeN<;>(repeat' split)<;>first|(exfalso;omega)|rfl
 ·match t,ht with
  |d1::d2::t,_ =>
   have c1:cont d1:=hall 0 d1 (by omega) rfl
   have c2:cont d2:=hall 1 d2 (by omega) rfl
   unfold cont at c1 c2
   rw[spell2]
   refine (validD_of_decode (p:=badRune 2048 (64 * (64 * ((c.toNat:Int)-224)+(d1.toNat:Int)-128)+(d2.toNat:Int)-128)) (x:=c.toNat%16 * 4096+d1.toNat%64 * 64+d2.toNat%64) (m:=3) (by simp) (by omega) ?_)
   rw[Lib.decodeL_N]
   simp only[List.getD_cons_zero,List.getD_cons_succ,List.length_cons]
   split<;>rename_i hp<;>unfold badRune at hp<;>unfold Lib.decodeN<;>(repeat' split)<;>first|(exfalso;omega)|rfl
 ·match t,ht with
  |d1::d2::d3::t,_ =>
   have c1:cont d1:=hall 0 d1 (by omega) rfl
   have c2:cont d2:=hall 1 d2 (by omega) rfl
   have c3:cont d3:=hall 2 d3 (by omega) rfl
   unfold cont at c1 c2 c3
   rw[spell3]
   refine (validD_of_decode (p:=badRune 65536 (64 * (64 * (64 * ((c.toNat:Int)-240)+(d1.toNat:Int)-128)+(d2.toNat:Int)-128)+(d3.toNat:Int)-128)) (x:=c.toNat%8 * 262144+d1.toNat%64 * 4096+d2.toNat%64 * 64+d3.toNat%64) (m:=4) (by simp) (by omega) ?_)
   rw[Lib.decodeL_N]
   simp only[List.getD_cons_zero,List.getD_cons_succ,List.length_cons]
   split<;>rename_i hp<;>unfold badRune at hp<;>unfold Lib.decodeN<;>(repeat' split)<;>first|(exfalso;omega)|rfl
end Go.Proofs.YtegmldndflfohaaGreatDoor
end
section
namespace Go.Proofs.YtegmldndflfohaaGreatDoor
open Go.RowKit
theorem byteAt {l:List UInt8}{k:Nat}{c:UInt8}(hc:l[k]? = some c):∀ h:k<(⟨l.toArray⟩:ByteArray).size,(⟨l.toArray⟩:ByteArray)[k]'h=c:=by
 intro h
 have hk:k<l.length:=h
 rw[List.getElem?_eq_getElem hk] at hc
 injection hc
set_option maxRecDepth 100000 in
set_option maxHeartbeats 8000000 in
theorem utf_any (l:List UInt8) (w:World) (hl:l.length≤9223372036854775807):Calls Tryz.prog 85 #[.string ⟨l.toArray⟩] w fun e w'=>e=.returned (.bool (Lib.validD l))∧w=w':=by
 obtain⟨ANS,hA⟩:∃ b,Lib.validD l=b:=⟨_,rfl⟩
 rw[hA]
 have HA:=hide hA
 clear hA
 go_enter Tryz.func85,Tryz.ntmps85
 go_wp2_with fail
 go_loop [3] (fun i=>∃ k:Nat,k≤l.length∧i=.int .i64 k∧Hid (Lib.validD (l.drop k)=ANS)) (fun i=>l.length-(intOf i).toNat)
 case atStart=>exact⟨0,by omega,rfl,HA⟩
 case round =>
  obtain⟨k,hk,rfl,hv⟩:=hrel
  by_cases hlt:k<l.length
  ·obtain⟨c,hc⟩:∃ c,l[k]? = some c:=⟨l[k],by simp⟩
   have hbyte:=byteAt hc
   have hd:l.drop k=c::l.drop (k+1):=by
    rw[List.drop_eq_getElem_cons hlt]
    congr 1
    rw[List.getElem?_eq_getElem hlt] at hc;injection hc
   have htl:(l.drop (k+1)).length+(k+1)=l.length:=by rw[List.length_drop];omega
   rw[hd] at hv
   have HT:=hide htl
   clear hc hd htl HA
   have hlt':(k:Int)<(l.length:Int):=by omega
   have hcl:=c.toNat_lt
   have b0:(0:Int)≤(c.toNat:Int):=by omega
   have b1:(c.toNat:Int)<256:=by omega
   by_cases h1:c.toNat<128
   ·have g1:(c.toNat:Int)<128:=by omega
    go_wp2_with fail
    go_loop [7,8] (fun x m=>x=.int .i64 (c.toNat:Int)∧m=.int .i64 1) (fun _ m=>1-(intOf m).toNat)
    case atStart=>exact⟨rfl,rfl⟩
    case round =>
     obtain⟨rfl,rfl⟩:=hrel
     go_wp2_with fail
     go_round
     case rel=>exact⟨k+1,by omega,by go_num,by
      have:=unhide hv
      rw[Lib.validD_cons c _ h1] at this
      exact this⟩
     case measure=>exact (by first|(simp[intOf];done)|(simp[intOf];omega))
   by_cases h2:248≤c.toNat
   ·have g1:(248:Int)≤(c.toNat:Int):=by omega
    go_wp2_with fail
    go_ret
    exact⟨by rw[← unhide hv,utf_wrong _ (by omega)];rfl,rfl⟩
   by_cases h3:c.toNat<192
   ·have g1:(c.toNat:Int)<192:=by omega
    have g2:(128:Int)≤(c.toNat:Int):=by omega
    go_wp2_with fail
    go_ret
    exact⟨by rw[← unhide hv,utf_wrong _ (by omega)];rfl,rfl⟩
   by_cases h41:c.toNat<224
   ·have g1 : (192:Int)≤(c.toNat:Int):=by omega
    have g2:(c.toNat:Int)<224:=by omega
    have hL:Hid (Lead c 1 128 ((c.toNat:Int)-192)):=hide ⟨by omega⟩
    by_cases h5:(l.drop (k+1)).length<1
    ·have g3:(l.length:Int)-1-(k:Int)<1:=by have:=unhide HT;omega
     go_wp2_with fail
     go_ret
     exact⟨by rw[← unhide hv,utf_short (unhide hL) h5];rfl,rfl⟩
    ·have g3 : (1:Int)≤(l.length:Int)-1-(k:Int):=by have:=unhide HT;omega
     obtain⟨S,hS⟩:∃ S:Nat→Int,S=spell ((c.toNat:Int)-192) (l.drop (k+1)):=⟨_,rfl⟩
     have HS:=hide hS
     have s0:S 0=(c.toNat:Int)-192:=by rw[hS,spell_zero]
     have HS0:=hide s0
     have hSb:∀ j,j≤1→Hid (∀ i d,i<j→(l.drop (k+1))[i]? = some d→cont d)→0≤S j∧S j<4294967296:=by
      intro j hj hall
      rw[hS]
      exact spell_bound (by omega) (by omega) _ j (by omega) (unhide hall)
     clear hS s0
     go_wp2_with fail
     go_loop [7,8] (fun x m=>∃ j:Nat,j≤1∧m=.int .i64 ((j:Int)+1)∧x=.int .i64 (S j)∧Hid (∀ i d,i<j→(l.drop (k+1))[i]? = some d→cont d)) (fun _ m=>1+1-(intOf m).toNat)
     case atStart=>exact⟨0,by omega,rfl,by rw[unhide HS0],hide (fun i d h=>absurd h (by omega))⟩
     case round =>
      obtain⟨j,hj,rfl,rfl,hall⟩:=hrel
      have hb:=hSb j hj hall
      obtain⟨sb0,sb1⟩:=hb
      by_cases hjn:j<1
      ·have hjn':(j:Int)+1≤1:=by omega
       obtain⟨d,hd⟩:∃ d,(l.drop (k+1))[j]? = some d:=⟨(l.drop (k+1))[j]'(by omega),by simp⟩
       have hdb:∀ h:(k+(j+1))<(⟨l.toArray⟩:ByteArray).size,(⟨l.toArray⟩:ByteArray)[k+(j+1)]'h=d:=byteAt (by rw[List.getElem?_drop] at hd;rw[← hd];congr 1;omega)
       have HDD:=hide hd
       have hdl:=d.toNat_lt
       have d0:(0:Int)≤(d.toNat:Int):=by omega
       have d1:(d.toNat:Int)<256:=by omega
       have d2:(k:Int)+((j:Int)+1)<l.length:=by omega
       clear hd
       by_cases hcn:cont d
       ·unfold cont at hcn
        obtain⟨c1,c2⟩:=hcn
        have c1':(128:Int)≤(d.toNat:Int):=by omega
        have c2':(d.toNat:Int)≤191:=by omega
        have hsx:S (j+1)=64 * S j+(d.toNat:Int)-128:=by rw[unhide HS,spell_succ _ _ _ _ (unhide HDD)]
        have HSX:=hide hsx
        clear hsx
        go_wp2_with fail
        go_round
        case rel=>exact⟨j+1,by omega,by go_num,by rw[unhide HSX],hide (fun i e hi he=>by
         by_cases hij:i=j
         ·subst hij
          rw[unhide HDD] at he
          injection he with he
          subst he
          exact⟨by omega,by omega⟩
         ·exact unhide hall i e (by omega) he)⟩
        case measure=>exact (by first|(simp[intOf];done)|(simp[intOf];omega))
       ·have hstray:=utf_stray (unhide hL) hjn (unhide HDD) hcn
        have hend:ANS=false:=by rw[← unhide hv,hstray]
        subst hend
        clear hstray hv
        by_cases hd1:d.toNat<128
        ·have c1':(d.toNat:Int)<128:=by omega
         go_wp2_with fail
         go_ret
         exact⟨rfl,rfl⟩
        ·have c0':(128:Int)≤(d.toNat:Int):=by omega
         have c1':(191:Int)<(d.toNat:Int):=by unfold cont at hcn;omega
         go_wp2_with fail
         go_ret
         exact⟨rfl,rfl⟩
      ·obtain rfl:j=1:=by omega
       have hstep:=utf_step (unhide hL) (by omega) (unhide hall)
       rw[← unhide HS,unhide hv] at hstep
       have hrest:1+(k+1)≤l.length:=by have:=unhide HT;omega
       have HR:=hide hstep
       clear hstep hall hv
       generalize hy:S 1=y at HR sb0 sb1 ⊢
       clear hy HS HS0 hSb
       by_cases e1:y<128
       ·have hend:ANS=false:=by have:=unhide HR;rw[if_pos (.inl e1)] at this;exact this
        subst hend
        go_wp2_with fail
        go_ret
        exact⟨rfl,rfl⟩
       by_cases e2:1114111<y
       ·have hend:ANS=false:=by have:=unhide HR;rw[if_pos (.inr (.inl e2))] at this;exact this
        subst hend
        have e1':(128:Int)≤y:=by omega
        go_wp2_with fail
        go_ret
        exact⟨rfl,rfl⟩
       by_cases e3:55296≤y∧y<57344
       ·have hend:ANS=false:=by have:=unhide HR;rw[if_pos (.inr (.inr e3))] at this;exact this
        subst hend
        have e1':(128:Int)≤y:=by omega
        have e2':y≤(1114111:Int):=by omega
        obtain⟨e3,e4⟩:=e3
        go_wp2_with fail
        go_ret
        exact⟨rfl,rfl⟩
       have hgo:Hid (Lib.validD (l.drop (k+(1+1)))=ANS):=by
        have:=unhide HR
        rw[if_neg (by unfold badRune;omega),List.drop_drop] at this
        rw[this]
        congr 2<;>omega
       clear HR
       have e1':(128:Int)≤y:=by omega
       have e2':y≤(1114111:Int):=by omega
       by_cases e4:55296≤y
       ·have e5:(57344:Int)≤y:=by omega
        clear e3
        go_wp2_with fail
        go_round
        case rel=>exact⟨k+(1+1),by omega,by go_num,hgo⟩
        case measure=>exact (by first|(simp[intOf];done)|(simp[intOf];omega))
       ·have e5:y<55296:=by omega
        clear e3 e4
        go_wp2_with fail
        go_round
        case rel=>exact⟨k+(1+1),by omega,by go_num,hgo⟩
        case measure=>exact (by first|(simp[intOf];done)|(simp[intOf];omega))
   by_cases h42:c.toNat<240
   ·have g1 : (224:Int)≤(c.toNat:Int):=by omega
    have g2:(c.toNat:Int)<240:=by omega
    have hL:Hid (Lead c 2 2048 ((c.toNat:Int)-224)):=hide ⟨by omega⟩
    by_cases h5:(l.drop (k+1)).length<2
    ·have g3:(l.length:Int)-1-(k:Int)<2:=by have:=unhide HT;omega
     go_wp2_with fail
     go_ret
     exact⟨by rw[← unhide hv,utf_short (unhide hL) h5];rfl,rfl⟩
    ·have g3 : (2:Int)≤(l.length:Int)-1-(k:Int):=by have:=unhide HT;omega
     obtain⟨S,hS⟩:∃ S:Nat→Int,S=spell ((c.toNat:Int)-224) (l.drop (k+1)):=⟨_,rfl⟩
     have HS:=hide hS
     have s0:S 0=(c.toNat:Int)-224:=by rw[hS,spell_zero]
     have HS0:=hide s0
     have hSb:∀ j,j≤2→Hid (∀ i d,i<j→(l.drop (k+1))[i]? = some d→cont d)→0≤S j∧S j<4294967296:=by
      intro j hj hall
      rw[hS]
      exact spell_bound (by omega) (by omega) _ j (by omega) (unhide hall)
     clear hS s0
     go_wp2_with fail
     go_loop [7,8] (fun x m=>∃ j:Nat,j≤2∧m=.int .i64 ((j:Int)+1)∧x=.int .i64 (S j)∧Hid (∀ i d,i<j→(l.drop (k+1))[i]? = some d→cont d)) (fun _ m=>2+1-(intOf m).toNat)
     case atStart=>exact⟨0,by omega,rfl,by rw[unhide HS0],hide (fun i d h=>absurd h (by omega))⟩
     case round =>
      obtain⟨j,hj,rfl,rfl,hall⟩:=hrel
      have hb:=hSb j hj hall
      obtain⟨sb0,sb1⟩:=hb
      by_cases hjn:j<2
      ·have hjn':(j:Int)+1≤2:=by omega
       obtain⟨d,hd⟩:∃ d,(l.drop (k+1))[j]? = some d:=⟨(l.drop (k+1))[j]'(by omega),by simp⟩
       have hdb:∀ h:(k+(j+1))<(⟨l.toArray⟩:ByteArray).size,(⟨l.toArray⟩:ByteArray)[k+(j+1)]'h=d:=byteAt (by rw[List.getElem?_drop] at hd;rw[← hd];congr 1;omega)
       have HDD:=hide hd
       have hdl:=d.toNat_lt
       have d0:(0:Int)≤(d.toNat:Int):=by omega
       have d1:(d.toNat:Int)<256:=by omega
       have d2:(k:Int)+((j:Int)+1)<l.length:=by omega
       clear hd
       by_cases hcn:cont d
       ·unfold cont at hcn
        obtain⟨c1,c2⟩:=hcn
        have c1':(128:Int)≤(d.toNat:Int):=by omega
        have c2':(d.toNat:Int)≤191:=by omega
        have hsx:S (j+1)=64 * S j+(d.toNat:Int)-128:=by rw[unhide HS,spell_succ _ _ _ _ (unhide HDD)]
        have HSX:=hide hsx
        clear hsx
        go_wp2_with fail
        go_round
        case rel=>exact⟨j+1,by omega,by go_num,by rw[unhide HSX],hide (fun i e hi he=>by
         by_cases hij:i=j
         ·subst hij
          rw[unhide HDD] at he
          injection he with he
          subst he
          exact⟨by omega,by omega⟩
         ·exact unhide hall i e (by omega) he)⟩
        case measure=>exact (by first|(simp[intOf];done)|(simp[intOf];omega))
       ·have hstray:=utf_stray (unhide hL) hjn (unhide HDD) hcn
        have hend:ANS=false:=by rw[← unhide hv,hstray]
        subst hend
        clear hstray hv
        by_cases hd1:d.toNat<128
        ·have c1':(d.toNat:Int)<128:=by omega
         go_wp2_with fail
         go_ret
         exact⟨rfl,rfl⟩
        ·have c0':(128:Int)≤(d.toNat:Int):=by omega
         have c1':(191:Int)<(d.toNat:Int):=by unfold cont at hcn;omega
         go_wp2_with fail
         go_ret
         exact⟨rfl,rfl⟩
      ·obtain rfl:j=2:=by omega
       have hstep:=utf_step (unhide hL) (by omega) (unhide hall)
       rw[← unhide HS,unhide hv] at hstep
       have hrest:2+(k+1)≤l.length:=by have:=unhide HT;omega
       have HR:=hide hstep
       clear hstep hall hv
       generalize hy:S 2=y at HR sb0 sb1 ⊢
       clear hy HS HS0 hSb
       by_cases e1:y<2048
       ·have hend:ANS=false:=by have:=unhide HR;rw[if_pos (.inl e1)] at this;exact this
        subst hend
        go_wp2_with fail
        go_ret
        exact⟨rfl,rfl⟩
       by_cases e2:1114111<y
       ·have hend:ANS=false:=by have:=unhide HR;rw[if_pos (.inr (.inl e2))] at this;exact this
        subst hend
        have e1':(2048:Int)≤y:=by omega
        go_wp2_with fail
        go_ret
        exact⟨rfl,rfl⟩
       by_cases e3:55296≤y∧y<57344
       ·have hend:ANS=false:=by have:=unhide HR;rw[if_pos (.inr (.inr e3))] at this;exact this
        subst hend
        have e1':(2048:Int)≤y:=by omega
        have e2':y≤(1114111:Int):=by omega
        obtain⟨e3,e4⟩:=e3
        go_wp2_with fail
        go_ret
        exact⟨rfl,rfl⟩
       have hgo:Hid (Lib.validD (l.drop (k+(1+2)))=ANS):=by
        have:=unhide HR
        rw[if_neg (by unfold badRune;omega),List.drop_drop] at this
        rw[this]
        congr 2<;>omega
       clear HR
       have e1':(2048:Int)≤y:=by omega
       have e2':y≤(1114111:Int):=by omega
       by_cases e4:55296≤y
       ·have e5:(57344:Int)≤y:=by omega
        clear e3
        go_wp2_with fail
        go_round
        case rel=>exact⟨k+(1+2),by omega,by go_num,hgo⟩
        case measure=>exact (by first|(simp[intOf];done)|(simp[intOf];omega))
       ·have e5:y<55296:=by omega
        clear e3 e4
        go_wp2_with fail
        go_round
        case rel=>exact⟨k+(1+2),by omega,by go_num,hgo⟩
        case measure=>exact (by first|(simp[intOf];done)|(simp[intOf];omega))
   have g1:(240:Int)≤(c.toNat:Int):=by omega
   have g2:(c.toNat:Int)<248:=by omega
   have hL:Hid (Lead c 3 65536 ((c.toNat:Int)-240)):=hide ⟨by omega⟩
   by_cases h5:(l.drop (k+1)).length<3
   ·have g3:(l.length:Int)-1-(k:Int)<3:=by have:=unhide HT;omega
    go_wp2_with fail
    go_ret
    exact⟨by rw[← unhide hv,utf_short (unhide hL) h5];rfl,rfl⟩
   ·have g3 : (3:Int)≤(l.length:Int)-1-(k:Int):=by have:=unhide HT;omega
    obtain⟨S,hS⟩:∃ S:Nat→Int,S=spell ((c.toNat:Int)-240) (l.drop (k+1)):=⟨_,rfl⟩
    have HS:=hide hS
    have s0:S 0=(c.toNat:Int)-240:=by rw[hS,spell_zero]
    have HS0:=hide s0
    have hSb:∀ j,j≤3→Hid (∀ i d,i<j→(l.drop (k+1))[i]? = some d→cont d)→0≤S j∧S j<4294967296:=by
     intro j hj hall
     rw[hS]
     exact spell_bound (by omega) (by omega) _ j (by omega) (unhide hall)
    clear hS s0
    go_wp2_with fail
    go_loop [7,8] (fun x m=>∃ j:Nat,j≤3∧m=.int .i64 ((j:Int)+1)∧x=.int .i64 (S j)∧Hid (∀ i d,i<j→(l.drop (k+1))[i]? = some d→cont d)) (fun _ m=>3+1-(intOf m).toNat)
    case atStart=>exact⟨0,by omega,rfl,by rw[unhide HS0],hide (fun i d h=>absurd h (by omega))⟩
    case round =>
     obtain⟨j,hj,rfl,rfl,hall⟩:=hrel
     have hb:=hSb j hj hall
     obtain⟨sb0,sb1⟩:=hb
     by_cases hjn:j<3
     ·have hjn':(j:Int)+1≤3:=by omega
      obtain⟨d,hd⟩:∃ d,(l.drop (k+1))[j]? = some d:=⟨(l.drop (k+1))[j]'(by omega),by simp⟩
      have hdb:∀ h:(k+(j+1))<(⟨l.toArray⟩:ByteArray).size,(⟨l.toArray⟩:ByteArray)[k+(j+1)]'h=d:=byteAt (by rw[List.getElem?_drop] at hd;rw[← hd];congr 1;omega)
      have HDD:=hide hd
      have hdl:=d.toNat_lt
      have d0:(0:Int)≤(d.toNat:Int):=by omega
      have d1:(d.toNat:Int)<256:=by omega
      have d2:(k:Int)+((j:Int)+1)<l.length:=by omega
      clear hd
      by_cases hcn:cont d
      ·unfold cont at hcn
       obtain⟨c1,c2⟩:=hcn
       have c1':(128:Int)≤(d.toNat:Int):=by omega
       have c2':(d.toNat:Int)≤191:=by omega
       have hsx:S (j+1)=64 * S j+(d.toNat:Int)-128:=by rw[unhide HS,spell_succ _ _ _ _ (unhide HDD)]
       have HSX:=hide hsx
       clear hsx
       go_wp2_with fail
       go_round
       case rel=>exact⟨j+1,by omega,by go_num,by rw[unhide HSX],hide (fun i e hi he=>by
        by_cases hij:i=j
        ·subst hij
         rw[unhide HDD] at he
         injection he with he
         subst he
         exact⟨by omega,by omega⟩
        ·exact unhide hall i e (by omega) he)⟩
       case measure=>exact (by first|(simp[intOf];done)|(simp[intOf];omega))
      ·have hstray:=utf_stray (unhide hL) hjn (unhide HDD) hcn
       have hend:ANS=false:=by rw[← unhide hv,hstray]
       subst hend
       clear hstray hv
       by_cases hd1:d.toNat<128
       ·have c1':(d.toNat:Int)<128:=by omega
        go_wp2_with fail
        go_ret
        exact⟨rfl,rfl⟩
       ·have c0':(128:Int)≤(d.toNat:Int):=by omega
        have c1':(191:Int)<(d.toNat:Int):=by unfold cont at hcn;omega
        go_wp2_with fail
        go_ret
        exact⟨rfl,rfl⟩
     ·obtain rfl:j=3:=by omega
      have hstep:=utf_step (unhide hL) (by omega) (unhide hall)
      rw[← unhide HS,unhide hv] at hstep
      have hrest:3+(k+1)≤l.length:=by have:=unhide HT;omega
      have HR:=hide hstep
      clear hstep hall hv
      generalize hy:S 3=y at HR sb0 sb1 ⊢
      clear hy HS HS0 hSb
      by_cases e1:y<65536
      ·have hend:ANS=false:=by have:=unhide HR;rw[if_pos (.inl e1)] at this;exact this
       subst hend
       go_wp2_with fail
       go_ret
       exact⟨rfl,rfl⟩
      by_cases e2:1114111<y
      ·have hend:ANS=false:=by have:=unhide HR;rw[if_pos (.inr (.inl e2))] at this;exact this
       subst hend
       have e1':(65536:Int)≤y:=by omega
       go_wp2_with fail
       go_ret
       exact⟨rfl,rfl⟩
      by_cases e3:55296≤y∧y<57344
      ·have hend:ANS=false:=by have:=unhide HR;rw[if_pos (.inr (.inr e3))] at this;exact this
       subst hend
       have e1':(65536:Int)≤y:=by omega
       have e2':y≤(1114111:Int):=by omega
       obtain⟨e3,e4⟩:=e3
       go_wp2_with fail
       go_ret
       exact⟨rfl,rfl⟩
      have hgo:Hid (Lib.validD (l.drop (k+(1+3)))=ANS):=by
       have:=unhide HR
       rw[if_neg (by unfold badRune;omega),List.drop_drop] at this
       rw[this]
       congr 2<;>omega
      clear HR
      have e1':(65536:Int)≤y:=by omega
      have e2':y≤(1114111:Int):=by omega
      by_cases e4:55296≤y
      ·have e5:(57344:Int)≤y:=by omega
       clear e3
       go_wp2_with fail
       go_round
       case rel=>exact⟨k+(1+3),by omega,by go_num,hgo⟩
       case measure=>exact (by first|(simp[intOf];done)|(simp[intOf];omega))
      ·exfalso;omega
  ·have hlt':(l.length:Int)≤(k:Int):=by omega
   have hk':k=l.length:=by omega
   subst hk'
   have:Lib.validD (l.drop l.length)=true:=by rw[List.drop_length];rfl
   have hend:ANS=true:=by rw[← unhide hv,this]
   subst hend
   clear this hv
   go_wp2_with fail
   go_ret
   exact⟨rfl,rfl⟩
end Go.Proofs.YtegmldndflfohaaGreatDoor
end
section
namespace Go.Proofs.YtegmldndflfohaaGreatDoor
open Go.RowKit Go.Shelf
def u8ren:Ren :=
 {f:=fun x=>if x=196 then 83 else if x=259 then 100 else 0
  t:=fun x=>if x=0 then 0 else if x=3 then 3 else if x=4 then 4 else if x=5 then 5 else if x=9 then 9 else if x=12 then 12 else if x=46 then 156 else if x=53 then 125 else if x=119 then 152 else if x=138 then 154 else if x=139 then 155 else 0
  g:=fun x=>if x=3 then 0 else if x=4 then 1 else 0 }
set_option maxRecDepth 100000 in
theorem laysValid:Lays.n196 Tryz.prog u8ren:={
 mixed:=by kernel_rfl
 f196:=by kernel_rfl
 f259:=by kernel_rfl
 t0:=by kernel_rfl
 a0:=fun _=>by kernel_rfl
 z0:=fun _=>by kernel_rfl
 v0:=fun _=>by kernel_rfl
 t3:=by kernel_rfl
 a3:=fun _=>by kernel_rfl
 z3:=fun _=>by kernel_rfl
 v3:=fun _=>by kernel_rfl
 t4:=by kernel_rfl
 a4:=fun _=>by kernel_rfl
 z4:=fun _=>by kernel_rfl
 v4:=fun _=>by kernel_rfl
 t5:=by kernel_rfl
 a5:=fun _=>by kernel_rfl
 z5:=fun _=>by kernel_rfl
 v5:=fun _=>by kernel_rfl
 t9:=by kernel_rfl
 a9:=fun _=>by kernel_rfl
 z9:=fun _=>by kernel_rfl
 v9:=fun _=>by kernel_rfl
 t12:=by kernel_rfl
 a12:=fun _=>by kernel_rfl
 z12:=fun _=>by kernel_rfl
 v12:=fun _=>by kernel_rfl
 t46:=by kernel_rfl
 a46:=fun _=>by kernel_rfl
 z46:=fun _=>by kernel_rfl
 v46:=fun _=>by kernel_rfl
 t53:=by kernel_rfl
 a53:=fun _=>by kernel_rfl
 z53:=fun _=>by kernel_rfl
 v53:=fun _=>by kernel_rfl
 t119:=by kernel_rfl
 a119:=fun _=>by kernel_rfl
 z119:=fun _=>by kernel_rfl
 t138:=by kernel_rfl
 a138:=fun _=>by kernel_rfl
 z138:=fun _=>by kernel_rfl
 v138:=fun _=>by kernel_rfl
 t139:=by kernel_rfl
 a139:=fun _=>by kernel_rfl
 z139:=fun _=>by kernel_rfl
 v139:=fun _=>by kernel_rfl
 g3:=by kernel_rfl
 g4:=by kernel_rfl }
def Tabs (w:World):Prop:=Lib.Utf8Tabs 0 1 w
theorem valid_any (l:List UInt8)(w:World)(hl:l.length≤9223372036854775807)(hT:Tabs w):Calls Tryz.prog 83 #[.string ⟨l.toArray⟩] w (Ret w (.bool (Lib.validD l))) :=
 Any.utf8_ValidString laysValid ⟨l.toArray⟩ w hl hT
theorem gFirst:Tryz.prog.globalNamed "unicode/utf8.first" = some 0:=by kernel_rfl
theorem gAccept:Tryz.prog.globalNamed "unicode/utf8.acceptRanges" = some 1:=by kernel_rfl
theorem gFirstType:(Tryz.prog.globals[0]?).map (·.type)=some 152:=by kernel_rfl
theorem gAcceptType:(Tryz.prog.globals[1]?).map (·.type)=some 155:=by kernel_rfl
theorem cellsU8:Tryz.prog.cellsOf 5=1:=by kernel_rfl
theorem cellsFirst:Tryz.prog.cellsOf 152=256:=by kernel_rfl
theorem cellsRange:Tryz.prog.cellsOf 154=2:=by kernel_rfl
theorem tabs_of_reads {w:World}(h3:Lib.VarReads Tryz.prog w "unicode/utf8.first" Lib.firstData)(h4:Lib.VarReads Tryz.prog w "unicode/utf8.acceptRanges" Lib.acceptData):Tabs w:=by
 have t119:=laysValid.t119
 have t139:=laysValid.t139
 have t138:=laysValid.t138
 have t5:=laysValid.t5
 refine⟨fun c hc=>?_,fun i hi=>?_⟩
 ·obtain⟨g,t,cs,fuel,p,hg,hty,hvar,hd⟩:=h3
  obtain rfl:=Option.some.inj (gFirst.symm.trans hg)
  obtain rfl:=Option.some.inj (gFirstType.symm.trans hty)
  have hcs:=Lib.cells_of_tab t119 t5 cellsU8 cellsFirst hd
  have:=World.var?_cell hg hvar c
  rw[this,← Array.getElem?_toList,hcs]
  simp[Lib.firstTab,hc]
 ·obtain⟨g,t,cs,fuel,p,hg,hty,hvar,hd⟩:=h4
  obtain rfl:=Option.some.inj (gAccept.symm.trans hg)
  obtain rfl:=Option.some.inj (gAcceptType.symm.trans hty)
  obtain⟨fuel',d,q,hdi,he⟩:=Lib.array_elem t139 hd i hi
  simp only[List.getElem?_map,List.getElem?_range hi,Option.map_some,Option.some.injEq] at hdi
  subst hdi
  rw[show u8ren.t 138=154 from rfl,cellsRange] at he
  have hcs:=Lib.ints_of_struct t138 (fun j f hj=>by
   match j,hj with
   |0,hj=>simp at hj;subst hj;exact⟨t5,rfl,cellsU8⟩
   |1,hj=>simp at hj;subst hj;exact⟨t5,rfl,cellsU8⟩
   |j+2,hj=>simp at hj) (by rw[show u8ren.t 138=154 from rfl,cellsRange];rfl) he
  have e0:=congrArg (·[0]?) hcs
  have e1:=congrArg (·[1]?) hcs
  simp only[List.getElem?_take,List.getElem?_drop] at e0 e1
  constructor
  ·rw[World.var?_cell hg hvar (2 * i),← Array.getElem?_toList]
   simpa [Nat.mul_comm] using e0
  ·rw[World.var?_cell hg hvar (2 * i+1),← Array.getElem?_toList]
   simpa [Nat.mul_comm] using e1
end Go.Proofs.YtegmldndflfohaaGreatDoor
end
section
namespace Go.Proofs
def Tryz.lays106_ren:Go.Shelf.Ren:=⟨fun|106=>116|213=>130|265=>145|n=>n,fun|9=>9|3=>3|n=>n,fun|n=>n⟩
theorem Tryz.lays106:Go.Proofs.Lays.n106 Tryz.prog Tryz.lays106_ren:={
 mixed:=by kernel_rfl
 f106:=Tryz.func116.trans (congrArg some (by kernel_rfl))
 f213:=Tryz.func130.trans (congrArg some (by kernel_rfl))
 f265:=Tryz.func145.trans (congrArg some (by kernel_rfl))
 t3:=Tryz.underlying3
 a3:=Tryz.isAgg3
 z3:=Tryz.sizeOf3
 v3:=Tryz.zeroValue3
 t9:=Tryz.underlying9
 a9:=Tryz.isAgg9
 z9:=Tryz.sizeOf9
 v9:=Tryz.zeroValue9 }
open Go.RowKit in
theorem Tryz.strings_Compare (a b:ByteArray) (w:World) :
  Calls Tryz.prog 116 #[.string a,.string b] w fun e w'=>e=.returned (.int .i64 (Lib.compareBytes a.data.toList b.data.toList))∧w'=w:=Any.strings_Compare Tryz.lays106 a b w
end Go.Proofs
end
section
namespace Go.Proofs.YtegmldndflfohaaGreatDoor.SC
open Go.RowKit
theorem xor_top (k N:Nat)(h:N<2^(k+1)):N ^^^ 2^k=(N+2^k)%2^(k+1):=by
 apply Nat.eq_of_testBit_eq
 intro j
 rw[Nat.testBit_xor,Nat.testBit_mod_two_pow,Nat.testBit_two_pow,Nat.add_comm N (2^k)]
 rcases Nat.lt_trichotomy j k with hj|hj|hj
 ·rw[Nat.testBit_two_pow_add_gt hj]
  have:¬ k=j:=by omega
  have h2:j<k+1:=by omega
  simp[this,h2]
 ·subst hj
  rw[Nat.testBit_two_pow_add_eq]
  simp
 ·have h1:N.testBit j=false:=Nat.testBit_lt_two_pow (Nat.lt_of_lt_of_le h (Nat.pow_le_pow_right (by omega) (by omega)))
  have h2:¬ j<k+1:=by omega
  have:¬ k=j:=by omega
  simp[h1,h2,this]
def flipN (n:Int):Nat:=((n+9223372036854775808)%18446744073709551616).toNat
theorem flipN_lt (n:Int):flipN n<18446744073709551616:=by unfold flipN;omega
theorem wrapu_nat (n:Int):IntKind.u64.wrap n=((n%18446744073709551616).toNat:Int):=by rw[IntKind.wrap_u64];omega
theorem xor_u8_top (t:Nat)(h:t<256):bits BinOp.xor IntKind.u8 (t:Int) 128=((t+128)%256:Nat):=by
 have h1:(BitVec.ofInt 8 (128:Int)).toNat=2^7:=by decide
 have h2:(BitVec.ofInt 8 (t:Int)).toNat=t:=by rw[BitVec.ofInt_natCast,BitVec.toNat_ofNat];exact Nat.mod_eq_of_lt (by omega)
 have e:bits BinOp.xor IntKind.u8 (t:Int) 128=IntKind.u8.wrap ((BitVec.ofInt 8 (t:Int) ^^^ BitVec.ofInt 8 128).toNat:Int):=rfl
 rw[e,BitVec.toNat_xor,h1,h2,xor_top 7 t (by omega),IntKind.wrap_u8]
 omega
def beTo (u:Nat)(k:Nat):List UInt8:=(List.range k).map fun j=>UInt8.ofNat (u/2^(56-8 * j)%256)
def be8 (n:Int):List UInt8:=beTo (flipN n) 8
theorem beTo_length (u k:Nat):(beTo u k).length=k:=by simp[beTo]
def escTo:List UInt8→List UInt8
 |[]=>[]
 |c::l=>(if c=0 then [0,255] else [c])++escTo l
theorem escTo_append (a b:List UInt8):escTo (a++b)=escTo a++escTo b:=by
 induction a with
 |nil=>rfl
 |cons c a ih=>simp[escTo,ih]
theorem escTo_length (l:List UInt8):(escTo l).length≤2 * l.length:=by
 induction l with
 |nil=>simp[escTo]
 |cons c l ih=>rw[escTo,List.length_append,List.length_cons];split<;>simp<;>omega
def enc0 (v:Val):List UInt8 :=
 UInt8.ofNat v.kind.toNat::(if v.kind=1 then [UInt8.ofNat v.n.toNat] else if v.kind=2 then be8 v.n else if v.kind=3 then UInt8.ofNat v.scale.toNat::be8 v.n
  else if v.kind=4∨v.kind=5 then escTo v.s++[0,1] else [])
def enc (v:Val):List UInt8:=enc0 (plain v)
theorem u8_info:(Tryz.prog.info? 5).map (fun i=>(i.zero,i.size,i.bytes))=some (some (.int .u8 0),1,1):=by kernel_rfl
def OwnB (w:World)(B:Nat)(v:Value)(l:List UInt8):Prop:=w.ownsRow B 5 1 v l.length (bvs l)
def OwnV (w:World)(B:Nat)(v:Value)(l:List Val):Prop:=w.ownsRow B 68 4 v l.length (vcs l)
theorem OwnB.nil (w:World)(B:Nat):OwnB w B (.slice none 0 0) []:=World.ownsRow_nil _ _ _ _
theorem OwnV.nil (w:World)(B:Nat):OwnV w B (.slice none 0 0) []:=World.ownsRow_nil _ _ _ _
theorem OwnB.form {w:World}{B:Nat}{v:Value}{l:List UInt8}(h:OwnB w B v l):∃ A c,v=.slice A l.length c∧Sl w 1 A l.length c (bvs l):=by
 obtain⟨A,c,hv,hs,_⟩:=own_form h
 exact⟨A,c,hv,hs⟩
theorem app_bytes {w:World}{ops:Array Oper}{rest:List Oper}{o:Oper}{a:Act}{Q:Exit→Act→World→Prop}(hgd:o.guard=none)(s x:Operand)
  (ho:o.op=.call { callee:=.builtin .append,args:=#[s,x],argTypes:=#[112,112] })
  {B:Nat} {v:Value} {l l':List UInt8} (hs:a.eval s=v) (hown:OwnB w B v l) {A:Option Addr} {m c:Nat} (hx:a.eval x=.slice A m c) (hr:Sl w 1 A m c (bvs l'))
  (hlen:l.length+l'.length≤1000000000000) (hbase:B≤w.heap.size)
  (h:∀ v' w',OwnB w' B v' (l++l')→Ext w v w' v'→wpList Tryz.prog ops Q rest (a.put o.dst v') w') :
  wpList Tryz.prog ops Q (o::rest) a w:=by
 have hm:=hr.blen
 refine wpList_append_sl hgd s x _ ho B 5 _ 1 1 Tryz.underlying112 u8_info rfl (by omega) hs hown hx hr (bvs_one _) (by simp only[maxLen];omega) (by omega) hbase fun v' w' h1 h2 h3=>h v' w' ?_ (Ext.appended (Below.refl _ _) h2 h3)
 unfold OwnB
 rw[bvs_append,List.length_append,hm]
 exact h1
theorem _root_.Go.Proofs.YtegmldndflfohaaGreatDoor.Ext.cell {w w':World}{b o:Nat}{v v' u:Value}(hx:Ext w v w' v')(hlt:b<w.heap.size)(hne:some b≠v.ownBlock)(h:w.cell? ⟨b,o,none⟩=some u):w'.cell? ⟨b,o,none⟩=some u :=
 (World.cell?_of_block (a:=⟨b,o,none⟩) (hx.grown.block b hlt hne)).trans h
theorem right_cases {y:Val}(h:right y=true):y.kind=0∨(y.kind=1∧0≤y.n∧y.n≤1)∨y.kind=2∨(y.kind=3∧0≤y.scale∧y.scale≤6)∨(y.kind=4∧y.s.length≤200)∨(y.kind=5∧y.s.length≤200):=by
 unfold right at h
 split at h
 ·exact .inl ‹_›
 split at h
 ·have:=of_decide_eq_true h
  exact .inr (.inl ⟨‹_›,by omega,by omega⟩)
 split at h
 ·exact .inr (.inr (.inl ‹_›))
 split at h
 ·have:=of_decide_eq_true h
  exact .inr (.inr (.inr (.inl ⟨‹_›,this.2⟩)))
 split at h
 ·rw[Bool.and_eq_true] at h
  have:=of_decide_eq_true h.1
  exact .inr (.inr (.inr (.inr (.inl ⟨‹_›,this.2.2⟩))))
 split at h
 ·have:=of_decide_eq_true h
  exact .inr (.inr (.inr (.inr (.inr ⟨‹_›,this.2.2⟩))))
 ·cases h
theorem enc_length (x:Val):(enc x).length≤500:=by
 unfold enc
 have hcs:=right_cases (right_plain x)
 generalize plain x=y at *
 have he:=escTo_length y.s
 have h8:(be8 y.n).length=8:=by simp[be8,beTo_length]
 unfold enc0
 rcases hcs with h|⟨h,_,_⟩|h|⟨h,_,_⟩|⟨h,_⟩|⟨h,_⟩<;>simp[h,h8]<;>omega
def deTo (l:List UInt8)(k:Nat):Nat:=(l.take k).foldl (fun u c=>u * 256+c.toNat) 0
theorem deTo_succ {l:List UInt8}{k:Nat}{x:UInt8}(h:l[k]? = some x):deTo l (k+1)=deTo l k * 256+x.toNat:=by
 have hk:k<l.length:=by
  rcases Nat.lt_or_ge k l.length with h' | h'
  ·exact h'
  ·rw[List.getElem?_eq_none h'] at h;cases h
 have hd:l[k]=x:=by rw[List.getElem?_eq_getElem hk] at h;injection h
 unfold deTo
 rw[List.take_succ_eq_append_getElem hk,List.foldl_append,hd]
 rfl
theorem bdrewN {B:Nat}{a w:World}(h:Below B a w)(n:Nat):Below B a (w.drewN n):=h.trans ⟨rfl,rfl,rfl,Nat.le_refl _,fun _ _=>rfl⟩
theorem OwnB.sl {w:World}{B:Nat}{A:Option Addr}{n c:Nat}{l:List UInt8}(h:OwnB w B (.slice A n c) l):Sl w 1 A n c (bvs l):=by
 obtain⟨A',c',e,hs⟩:=h.form
 injection e with e1 e2 e3
 rw[e1,e2,e3]
 exact hs
def Loc (w:World)(g:Nat)(x:Val):Prop:=w.heap[g]? = some (.cells #[.int .i64 x.kind,.int .i64 x.n,.int .i64 x.scale,.string ⟨x.s.toArray⟩] 68 (0,0))
theorem Loc.lt {w:World}{g:Nat}{x:Val}(h:Loc w g x):g<w.heap.size:=lt_of_block h
end Go.Proofs.YtegmldndflfohaaGreatDoor.SC
end
section
namespace Go.Proofs.YtegmldndflfohaaGreatDoor.SC
def _root_.Go.Proofs.YtegmldndflfohaaGreatDoor.Val.in64 (x:Val):Prop:=-9223372036854775808≤x.n∧x.n≤9223372036854775807
theorem beTo_get (u:Nat)(r:List UInt8){k:Nat}(hk:k<8):(beTo u 8++r)[k]? = some (UInt8.ofNat (u/2^(56-8 * k)%256)):=by
 rw[List.getElem?_append_left (by rw[beTo_length];exact hk)]
 simp[beTo,hk]
theorem deTo_beTo_at (u:Nat)(h:u<2^64)(r:List UInt8):∀ k,k≤8→deTo (beTo u 8++r) k=u/2^(64-8 * k):=by
 intro k
 induction k with
 |zero=>intro _;rw[Nat.mul_zero,Nat.sub_zero,Nat.div_eq_of_lt h];rfl
 |succ k ih =>
  intro hk
  rw[deTo_succ (beTo_get u r (by omega)),ih (by omega),UInt8.toNat_ofNat',show 64-8 * k=(56-8 * k)+8 from by omega,Nat.pow_add,← Nat.div_div_eq_div_mul,show 64-8 * (k+1)=56-8 * k from by omega]
  generalize u/2^(56-8 * k)=v
  omega
theorem deTo_beTo (u:Nat)(h:u<18446744073709551616)(r:List UInt8):deTo (beTo u 8++r) 8=u:=by
 rw[deTo_beTo_at u h r 8 (Nat.le_refl _)]
 simp
theorem be8_length (n:Int):(be8 n).length=8:=by rw[be8,beTo_length]
end Go.Proofs.YtegmldndflfohaaGreatDoor.SC
end
section
namespace Go.Proofs.YtegmldndflfohaaGreatDoor.SC
open Go.RowKit
def cmpN (a b:Int):Int:=if a<b then -1 else if b<a then 1 else 0
def textCmp:List UInt8→List UInt8→Int
 |[],[]=>0
 |[],_::_=>-1
 |_::_,[]=>1
 |a::x,b::y=>if a=b then textCmp x y else cmpN a.toNat b.toNat
theorem cmpN_lt {a b:Int}(h:a<b):cmpN a b=-1:=if_pos h
theorem cmpN_gt {a b:Int}(h:b<a):cmpN a b=1:=by unfold cmpN;rw[if_neg (by omega),if_pos h]
theorem u8_ne_toNat {x y:UInt8}(h:x≠y):x.toNat≠y.toNat:=fun e=>h (UInt8.toNat_inj.1 e)
theorem succ_toNat {x:UInt8}(h:x≠255):(x+1).toNat=x.toNat+1:=by
 have h1:=u8_ne_toNat h
 have h2:=x.toNat_lt
 rw[UInt8.toNat_add]
 have:(1:UInt8).toNat=1:=rfl
 have h3:(255:UInt8).toNat=255:=rfl
 omega
theorem ff_begins:∀ (m:Nat) (r:List UInt8),(m≤r.length∧r.take m=List.replicate m 255)∨textCmp r (List.replicate m 255)<0
 |0,r=>.inl ⟨by omega,by simp⟩
 |m+1,[]=>.inr (by simp[List.replicate_succ,textCmp])
 |m+1,c::r=>by
  by_cases h:c=255
  ·subst h
   rcases ff_begins m r with ⟨h1,h2⟩|h1
   ·exact .inl ⟨by simp;omega,by simp[List.replicate_succ,h2]⟩
   ·exact .inr (by simpa [List.replicate_succ,textCmp] using h1)
  ·have h1:=u8_ne_toNat h
   have h2:=c.toNat_lt
   have h3:(255:UInt8).toNat=255:=rfl
   right
   rw[List.replicate_succ,textCmp,if_neg h,cmpN_lt (by omega)]
   omega
theorem between (x:UInt8)(hx:x≠255)(m:Nat):∀ (p l:List UInt8),
  ((p++x::List.replicate m 255).length≤l.length∧l.take (p++x::List.replicate m 255).length=p++x::List.replicate m 255)∨textCmp l (p++x::List.replicate m 255)<0∨0≤textCmp l (p++[x+1])
 |[],[]=>.inr (.inl (by simp[textCmp]))
 |_::_,[]=>.inr (.inl (by simp[textCmp]))
 |[], y::r=>by
  have hs:=succ_toNat hx
  rcases Nat.lt_trichotomy y.toNat x.toNat with h|h|h
  ·refine .inr (.inl ?_)
   have:y≠x:=fun e=>by subst e;omega
   rw[List.nil_append,textCmp,if_neg this,cmpN_lt (by omega)]
   omega
  ·obtain rfl:y=x:=UInt8.toNat_inj.1 h
   rcases ff_begins m r with ⟨h1,h2⟩|h1
   ·exact .inl ⟨by simp;omega,by simp[h2]⟩
   ·exact .inr (.inl (by rw[List.nil_append,textCmp,if_pos rfl];exact h1))
  ·refine .inr (.inr ?_)
   by_cases e:y=x+1
   ·rw[List.nil_append,textCmp,if_pos e]
    cases r<;>simp[textCmp]
   ·have:=u8_ne_toNat e
    rw[List.nil_append,textCmp,if_neg e,cmpN_gt (by omega)]
    omega
 |a::p,y::r=>by
  rcases Nat.lt_trichotomy y.toNat a.toNat with h|h|h
  ·refine .inr (.inl ?_)
   have:y≠a:=fun e=>by subst e;omega
   rw[List.cons_append,textCmp,if_neg this,cmpN_lt (by omega)]
   omega
  ·obtain rfl:y=a:=UInt8.toNat_inj.1 h
   rcases between x hx m p r with ⟨h1,h2⟩|h1|h1
   ·refine .inl ⟨by simp at h1 ⊢;omega,?_⟩
    simp only[List.cons_append,List.length_cons,List.take_succ_cons]
    rw[h2]
   ·exact .inr (.inl (by rw[List.cons_append,textCmp,if_pos rfl];exact h1))
   ·exact .inr (.inr (by rw[List.cons_append,textCmp,if_pos rfl];exact h1))
  ·refine .inr (.inr ?_)
   have:y≠a:=fun e=>by subst e;omega
   rw[List.cons_append,textCmp,if_neg this,cmpN_gt (by omega)]
   omega
theorem pow256_le {j:Nat}(h:j≤6):((256^j:Nat):Int)≤281474976710656:=by
 have:=Nat.pow_le_pow_right (show 0<256 by omega) h
 omega
set_option maxHeartbeats 1000000 in
theorem power_any (k:Nat) (hk:k≤7) (w:World):Calls Tryz.prog 68 #[.int .i64 (k:Int)] w fun e w'=>e=.returned (.int .u64 ((256^k:Nat):Int))∧w=w':=by
 go_enter Tryz.func68,Tryz.ntmps68
 go_wp2_with fail
 go_loopw [3,4] (fun p i wr=>∃ (j:Nat) (q:Int),j≤k∧i=.int .i64 (j:Int)∧p=.int .u64 q∧Hid (q=((256^j:Nat):Int))∧w=wr) (fun _ i _=>k-(intOf i).toNat)
 case atStart=>exact⟨0,1,by omega,rfl,rfl,hide rfl,rfl⟩
 case round =>
  obtain⟨j,q,hj,rfl,rfl,hq,rfl⟩:=hrel
  by_cases hlt:j<k
  ·have hlt':(j:Int)<(k:Int):=by omega
   have h0:0≤q:=by rw[unhide hq];exact Int.natCast_nonneg _
   have h1:q≤281474976710656:=by rw[unhide hq];exact pow256_le (by omega)
   have hn:Hid (q * 256=((256^(j+1):Nat):Int)):=hide (by rw[unhide hq,Nat.pow_succ];omega)
   go_wp2_with fail
   go_roundw
   case rel=>exact⟨j+1,q * 256,by omega,by go_num,by go_num,hn,trivial⟩
   case measure=>exact (by first|(simp[intOf];done)|(simp[intOf];omega))
  ·obtain rfl:j=k:=by omega
   go_wp2_with fail
   go_ret
   have e:=unhide hq
   subst e
   exact⟨rfl,rfl⟩
def loB (u:Nat):Nat→List UInt8
 |0=>[]
 |i+1=>UInt8.ofNat (u/256^i%256)::loB u i
theorem ofNat_eq {a b:Nat}(h:a=b):UInt8.ofNat a=UInt8.ofNat b:=by rw[h]
theorem be8_loB (n:Int)(u:Nat)(hu:u=(n%18446744073709551616).toNat):be8 n=UInt8.ofNat ((u/256^7%256+128)%256)::loB u 7:=by
 have hf:flipN n=(u+9223372036854775808)%18446744073709551616:=by
  rw[hu];unfold flipN;omega
 have hlt:u<18446744073709551616:=by omega
 clear hu
 unfold be8 beTo
 rw[hf]
 simp only[List.range_succ,List.range_zero,List.nil_append,List.cons_append,List.map_cons,List.map_nil,loB]
 simp only[Nat.reduceMul,Nat.reduceSub,Nat.reducePow,List.cons.injEq,and_true]
 refine⟨ofNat_eq ?_,ofNat_eq ?_,ofNat_eq ?_,ofNat_eq ?_,ofNat_eq ?_,ofNat_eq ?_,ofNat_eq ?_,ofNat_eq ?_⟩<;>omega
theorem OwnB.one (w:World)(B:Nat)(c:UInt8)(i:Int)(hi:i=(c.toNat:Int))(h:B≤w.heap.size):OwnB (w.alloc (.cells #[.int .u8 i] 5)) B (.slice (some ⟨w.heap.size,0,none⟩) 1 1) [c]:=by
 subst hi
 exact⟨rfl,.inr ⟨w.heap.size,1,#[.int .u8 (c.toNat:Int)],rfl,h,heap_alloc_new w _,Nat.le_refl _,by simp[maxLen],rfl,rfl⟩⟩
theorem byte_mod (d:Nat):(d:Int)%256=((UInt8.ofNat (d%256)).toNat:Int):=by
 rw[UInt8.toNat_ofNat']
 omega
theorem byte_xor (c:UInt8):bits BinOp.xor IntKind.u8 (c.toNat:Int) 128=((c.toNat:Int)+128)%256:=by
 rw[xor_u8_top _ c.toNat_lt]
 omega
theorem byte_xor' (c:UInt8):((c.toNat:Int)+128)%256=((UInt8.ofNat ((c.toNat+128)%256)).toNat:Int):=by
 rw[UInt8.toNat_ofNat']
 omega
set_option maxHeartbeats 1000000 in
theorem bytes8_any (n:Int) (w:World):Calls Tryz.prog 51 #[.int .i64 n] w (Ret w (.string ⟨(be8 n).toArray⟩)):=by
  obtain ⟨u,hu⟩:∃ u:Nat,u=(n % 18446744073709551616).toNat:=⟨_,rfl⟩
  have hb8:=be8_loB n u hu
  have hwu:IntKind.u64.wrap n=(u:Int):=by rw [wrapu_nat,hu]
  have hlt:u < 18446744073709551616:=by omega
  obtain ⟨ANS,hA⟩:∃ a,be8 n=a:=⟨_,rfl⟩
  rw [hA] at hb8 ⊢
  have HA:=hide hb8
  clear hb8 hu hA
  go_enter Tryz.func51,Tryz.ntmps51
  go_wp2_with fail
  go_loopw [3,4] (fun b i wr=>∃ (j:Nat) (l:List UInt8),j≤8∧i=.int .i64 (j:Int)∧l.length=j∧OwnB wr w.heap.size b l∧Hid (l=loB u j)∧Below w.heap.size w wr) (fun _ i _=>8 - (intOf i).toNat)
  case atStart=>exact ⟨0,[],by omega,rfl,rfl,OwnB.nil _ _,hide rfl,Below.refl _ _⟩
  case round =>
    obtain ⟨j,l,hj,rfl,hl,ho,hlo,hb⟩:=hrel
    have hbs:=hb.size
    by_cases hlt':j < 8
    · have hjlt:(j:Int) < 8:=by omega
      obtain ⟨q,hq⟩:∃ q:Nat,256 ^ j=q:=⟨_,rfl⟩
      have hq0:0 < q:=by rw [← hq];exact Nat.pow_pos (by omega)
      have hq0':(0:Int) < (q:Int):=by omega
      have hc:=fun W=>power_any j (by omega) W
      simp only [hq] at hc
      have Hc:=hide hc
      have HQ:=hide hq
      have HL:=hide hl
      have hj8:j≤7:=by omega
      obtain ⟨d,hd⟩:∃ d:Nat,u / q=d:=⟨_,rfl⟩
      have hdu:d≤u:=by rw [← hd];exact Nat.div_le_self _ _
      have hwd:IntKind.u64.wrap ((u:Int) / (q:Int))=(d:Int):=by
        rw [← Int.natCast_ediv,hd,IntKind.wrap_u64];omega
      have HD:=hide hd
      have hl8:l.length≤8:=by omega
      clear hc hq hl hd
      obtain ⟨A1,c1,hv,hs1⟩:=ho.form
      subst hv
      go_wp2_with (first
        | (go_at_call 68;refine (unhide Hc _).mono ?_;rintro e w1 ⟨rfl,rfl⟩)
        | (refine app_bytes rfl (.tmp 16) (.tmp 17) rfl rfl (OwnB.one _ w.heap.size (UInt8.ofNat (d % 256)) _ (byte_mod d) (by omega)) rfl (hs1.alloc _) ?_ ?_ ?_;(· simp;omega);(· simp;omega);intro v2 w2 ho2 hx2))
      go_roundw
      case rel =>
        refine ⟨j + 1,_,by omega,by go_num,?_,ho2,hide ?_,?_⟩
        · simp [unhide HL]
        · rw [loB,← unhide hlo,unhide HQ,unhide HD];rfl
        · exact (show Below w.heap.size w (wr.alloc _) from (by repeat (first | with_reducible exact Below.refl _ _ | with_reducible assumption | ((with_reducible refine Below.alloc ?_ ?_ _);rotate_left;(first | exact Nat.le_refl _ | (simp;done) | (simp;omega) | omega)) | ((with_reducible refine Below.setCell ?_ ?_ _);rotate_left;(first | exact Nat.le_refl _ | (simp;done) | (simp;omega) | omega)) | (with_reducible refine Below.drew ?_) | (with_reducible refine bdrewN ?_ _)))).trans (hx2.below (by simp;omega) (fun k hk=>by have h2:some wr.heap.size=some k:=hk;injection h2 with h2;omega))
      case measure=>exact (by first | (simp [intOf];done) | (simp [intOf];omega))
    · obtain rfl:j=8:=by omega
      match l,hl,hlo,ho with
      | c :: l,hl,hlo,ho =>
        have e:=unhide hlo
        rw [loB] at e
        injection e with e1 e2
        obtain ⟨g,cap,hv,hg⟩:∃ g cap,u3=.slice (some ⟨g,0,none⟩) 8 cap∧w.heap.size≤g:=by
          rcases ho.2 with ⟨_,h0⟩ | ⟨g,cap,cur,e,hg,_⟩
          · simp at h0
          · exact ⟨g,cap,by rw [e,hl],hg⟩
        subst hv
        have ho':wr.ownsRow w.heap.size 5 1 (.slice (some ⟨g,0,none⟩) 8 cap) 8 (bvs (c :: l)):=by
          have:=ho
          unfold OwnB at this
          rw [hl] at this
          exact this
        have hfr:=World.ownsRow.frozenAt ho' 0
        obtain ⟨b,o,hA,hblt,hcell⟩:=ho.sl.at_ (by omega)
        injection hA with hA
        injection hA with hA1 hA2
        subst hA1 hA2
        have h0:=hcell 0 (bv c) rfl
        simp only [bv,Nat.add_zero] at h0
        obtain ⟨h2,h3⟩:=World.ownsRow.stored ho' 0 (.int .u8 (((c.toNat:Int) + 128) % 256))
        have h4:OwnB (wr.setCell ⟨g,0,none⟩ (.int .u8 (((c.toNat:Int) + 128) % 256))) w.heap.size (.slice (some ⟨g,0,none⟩) 8 cap) (UInt8.ofNat ((c.toNat + 128) % 256) :: l):=by
          unfold OwnB
          rw [List.length_cons,show l.length + 1=8 from hl]
          rw [byte_xor' c] at h2 ⊢
          exact h2
        have hx:=byte_xor c
        have hs4:=h4.sl
        have hbb:=hb.setCell (p:=⟨g,0,none⟩) hg (.int .u8 (((c.toNat:Int) + 128) % 256))
        have hcap:=ho.sl.nc
        have hcm:=ho.sl.cm
        have hfin:(c.toNat + 128) % 256=(u / 256 ^ 7 % 256 + 128) % 256:=by rw [e1,UInt8.toNat_ofNat'];omega
        have HF:=hide hfin
        have HE:=hide e2
        clear h2 h3 h4 ho ho' hl e1 e2 hfin hlo hcell
        go_wp2_with ((refine wpList_sl_string rfl 112 9 5 (.tmp 24) rfl Tryz.underlying112 Tryz.underlying5 Tryz.underlying9 rfl (hs4) ?_))
        go_ret
        refine ⟨?_,hbb⟩
        rw [unhide HA,unhide HF,unhide HE]
        rfl
end Go.Proofs.YtegmldndflfohaaGreatDoor.SC
end
section
namespace Go.Proofs.YtegmldndflfohaaGreatDoor.SC
open Go.ChangeShapes Go.WideShapes Go.ChangeAt Go.RowKit
theorem trodAll_below {H:Type}{enc:TypeId×Value→H}{P:Program}(hl:laidOutB P=true){W W':World}(hb:Below W.heap.size W W'):∀ {ts:List TypeId} {vs:List Value} {ds:List (DataW H)} {ps:List MemPlace},
  (∀ t∈ts,P.readableRec t=true∧t<P.types.size)→DataW.TrodAll enc P W 0 (fun _=>true) true ts vs ds ps→(∀ x∈ps,x.block<W.heap.size)→DataW.TrodAll enc P W' 0 (fun b=>decide (b<W.heap.size)) true ts vs ds ps
 |[],vs,ds,ps,_,h,_=>by
  cases vs<;>cases ds<;>simp_all [DataW.TrodAll]
 |t::ts,vs,ds,ps,ht,h,hlt=>by
  obtain⟨v,vs',d,ds',p,q,rfl,rfl,rfl,h0,h1⟩:=trodAll_cons h
  exact trodAll_cons_mk (Below.trod hl (ht t (by simp)).1 (ht t (by simp)).2 h0 hb (fun x hx=>hlt x (by simp[hx])))
   (trodAll_below hl hb (fun t' ht'=>ht t' (by simp[ht'])) h1 (fun x hx=>hlt x (by simp[hx])))
theorem law_post {H:Type}{enc:TypeId×Value→H}{P:Program}{f:Func}{s:ChangeSpec}{W W':World}{args:Array Value}{ds gs:List (DataW H)}{before:List MemPlace}{tb:TypeId}
  (hl:laidOutB P=true) (ht:∀ t∈f.params.toList,P.readableRec t=true∧t<P.types.size) (htb:P.underlying tb=some .bool) (hf:f.resultTypes=#[tb])
  (hW:DataW.Whole enc P f.params.toList s.vars false W args.toList ds gs before) (hv:s.vars=[])
  (hr:(s.fn H (ds++gs)).results=[.lit (.bool true)]) (ha:(s.fn H (ds++gs)).args=ds) (hvs:(s.fn H (ds++gs)).vars=[]) (hb:Below W.heap.size W W') :
  s.post enc P f false true false false W args (.bool true) W':=by
 have hlt:=hW.lt
 have hW2:=hW
 obtain⟨p,q,hA,hV,rfl,_,_⟩:=hW
 rw[hv] at hV
 obtain⟨rfl,rfl⟩:=trodVars_none hV
 refine⟨ds,[],p++[],[],p,[],hW2,?_,?_,?_,hb.frame _,fun h=>by cases h⟩
 ·rw[hr,hf]
  exact trodAll_cons_mk (shut_bool htb _) trodAll_mk0
 ·rw[ha]
  exact trodAll_below hl hb ht hA (fun x hx=>hlt x (by simp[hx]))
 ·rw[hv,hvs]
  rfl
theorem own:ownKnob Tryz.prog.godebug=none:=by kernel_rfl
def holdCells (cs:Array Value):Obj→Obj
 | .cells _ t frozen=>.cells cs t frozen
 |o=>o
def firstCells:Array Value:=(Lib.firstTab.map (Value.int .u8)).toArray
def acceptCells:Array Value:=((List.range 16).flatMap fun i=>[Value.int .u8 (Lib.accLo i),Value.int .u8 (Lib.accHi i)]).toArray
noncomputable def laidWorld (os:Os):World :=
 {World.holding Tryz.prog os ⟨#[],#[],[]⟩ with heap:=((World.holding Tryz.prog os ⟨#[],#[],[]⟩).heap.modify 0 (holdCells firstCells)).modify 1 (holdCells acceptCells) }
end Go.Proofs.YtegmldndflfohaaGreatDoor.SC
end
section
set_option maxRecDepth 100000
namespace Go.Proofs.YtegmldndflfohaaGreatDoor.SC
open Go.ChangeShapes Go.WideShapes Go.ChangeAt Go.RowKit Go.Deep
instance:Inhabited Val:=⟨vnull⟩
end Go.Proofs.YtegmldndflfohaaGreatDoor.SC
end
section
namespace Go.Proofs.YtegmldndflfohaaGreatDoor.TS
open Go.RowKit
abbrev Ky:=List UInt8
theorem kl_irr:∀ (a:Ky),Op.bytesLess a a=false
 |[]=>rfl
 |a::x=>by simp[Op.bytesLess,kl_irr x,UInt8.lt_irrefl]
theorem kl_trans:∀ {a b c:Ky},Op.bytesLess a b=true→Op.bytesLess b c=true→Op.bytesLess a c=true
 |[],[],_,h,_=>by simp[Op.bytesLess] at h
 |[],_::_,[],_,k=>by simp[Op.bytesLess] at k
 |[],_::_,_::_,_,_=>by simp[Op.bytesLess]
 |_::_,[],_,h,_=>by simp[Op.bytesLess] at h
 |_::_,_::_,[],_,k=>by simp[Op.bytesLess] at k
 |a::x,b::y,c::z,h,k=>by
  simp only[Op.bytesLess,Bool.or_eq_true,Bool.and_eq_true,decide_eq_true_eq,beq_iff_eq] at h k ⊢
  rcases h with h|⟨rfl,h⟩
  ·rcases k with k|⟨rfl,k⟩
   ·exact .inl (UInt8.lt_trans h k)
   ·exact .inl h
  ·rcases k with k|⟨rfl,k⟩
   ·exact .inl k
   ·exact .inr ⟨rfl,kl_trans h k⟩
theorem kl_tri:∀ {a b:Ky},Op.bytesLess a b=false→Op.bytesLess b a=false→a=b
 |[],[],_,_=>rfl
 |[],_::_,h,_=>by simp[Op.bytesLess] at h
 |_::_,[],_,k=>by simp[Op.bytesLess] at k
 |a::x,b::y,h,k=>by
  simp only[Op.bytesLess,Bool.or_eq_false_iff,Bool.and_eq_false_iff,decide_eq_false_iff_not,beq_eq_false_iff_ne] at h k
  have hab:a=b:=by
   apply UInt8.toNat_inj.1
   have h1:=h.1
   have k1:=k.1
   rw[UInt8.lt_iff_toNat_lt] at h1 k1
   omega
  subst hab
  rw[kl_tri (h.2.resolve_left (fun e=>e rfl)) (k.2.resolve_left (fun e=>e rfl))]
theorem kl_asym {a b:Ky}(h:Op.bytesLess a b=true):Op.bytesLess b a=false:=by
 rcases hb:Op.bytesLess b a with _|_
 ·rfl
 ·have:=kl_trans h hb
  rw[kl_irr] at this
  cases this
theorem kl_le_lt {a b c:Ky}(h:Op.bytesLess b a=false)(k:Op.bytesLess b c=true):Op.bytesLess a c=true:=by
 rcases hb:Op.bytesLess a b with _|_
 ·rw[kl_tri hb h];exact k
 ·exact kl_trans hb k
theorem kl_lt_le {a b c:Ky}(h:Op.bytesLess a b=true)(k:Op.bytesLess c b=false):Op.bytesLess a c=true:=by
 rcases hb:Op.bytesLess b c with _|_
 ·rw[← kl_tri hb k];exact h
 ·exact kl_trans h hb
section
variable {β:Type}
def Srt (l:List (Ky×β)):Prop:=l.Pairwise fun p q=>Op.bytesLess p.1 q.1=true
def insK (k:Ky)(v:β):List (Ky×β)→List (Ky×β)
 |[]=>[(k,v)]
 |p::r=>if p.1==k then (k,v)::r else if Op.bytesLess k p.1 then (k,v)::p::r else p::insK k v r
theorem Srt.ins {k:Ky} {v:β}:∀ {l:List (Ky × β)},Srt l→Srt (insK k v l)
  | [],_=>by simp [insK,Srt]
  | p :: r, h => by
    have h':=List.pairwise_cons.1 h
    simp only [insK]
    split
    · rename_i e
      have e:p.1=k:=by simpa using e
      exact List.pairwise_cons.2 ⟨fun q hq=>by rw [← e];exact h'.1 q hq,h'.2⟩
    · split
      · rename_i e
        exact List.pairwise_cons.2 ⟨fun q hq=>by
          rcases List.mem_cons.1 hq with rfl | hq
          · exact e
          · exact kl_trans e (h'.1 q hq),h⟩
      · rename_i e1 e2
        refine List.pairwise_cons.2 ⟨?_,Srt.ins h'.2⟩
        have hpk:Op.bytesLess p.1 k=true:=by
          rcases hb:Op.bytesLess p.1 k with _ | _
          · exact absurd (kl_tri hb (by simpa using e2)) (by simpa using e1)
          · rfl
        have:∀ (r:List (Ky × β)),(∀ q ∈ r,Op.bytesLess p.1 q.1=true)→∀ q ∈ insK k v r,Op.bytesLess p.1 q.1=true:=by
          intro r
          induction r with
          | nil=>intro _ q hq;simp [insK] at hq;subst hq;exact hpk
          | cons a r ih =>
            intro hr q hq
            simp only [insK] at hq
            split at hq
            · rcases List.mem_cons.1 hq with rfl | hq
              · exact hpk
              · exact hr q (List.mem_cons_of_mem _ hq)
            · split at hq
              · rcases List.mem_cons.1 hq with rfl | hq
                · exact hpk
                · exact hr q hq
              · rcases List.mem_cons.1 hq with rfl | hq
                · exact hr _ List.mem_cons_self
                · exact ih (fun x hx=>hr x (List.mem_cons_of_mem _ hx)) q hq
        exact this r h'.1
theorem Srt.left {A B:List (Ky×β)}(h:Srt (A++B)):Srt A:=(List.pairwise_append.1 h).1
theorem Srt.right {A B:List (Ky×β)}(h:Srt (A++B)):Srt B:=(List.pairwise_append.1 h).2.1
def TrD (β:Type):Nat→Type
 |0=>List (Ky×β)
 |d+1=>List (TrD β d)
abbrev as0 (t:TrD β 0):List (Ky×β):=t
abbrev asL {d:Nat}(t:TrD β (d+1)):List (TrD β d):=t
def cD:(d:Nat)→TrD β d→List (Ky×β)
 |0,l=>l
 |d+1,ks=>List.flatMap (cD d) (asL ks)
def okD:Nat→(d:Nat)→TrD β d→Prop
 |m,0,l=>m≤List.length (as0 l)∧List.length (as0 l)≤8
 |m,d+1,ks=>(m≤List.length (asL ks)∧List.length (asL ks)≤8)∧∀ x∈(asL ks),okD 4 d x
theorem len_flat_le {α γ:Type}{f:α→List γ}{m:Nat}:∀ {l:List α},(∀ x∈l,m≤(f x).length)→m * l.length≤(l.flatMap f).length
 |[],_=>by simp
 |x::l,h=>by
  have h1:=h x List.mem_cons_self
  have h2:=len_flat_le (l:=l) fun y hy=>h y (List.mem_cons_of_mem _ hy)
  rw[List.flatMap_cons,List.length_append,List.length_cons,Nat.mul_succ]
  omega
theorem okD.least:∀ {m d:Nat} {t:TrD β d},okD m d t→m * 4^d≤(cD d t).length
 |m,0,l,h=>by simpa [cD] using h.1
 |m,d+1,ks,h=>by
  have:=len_flat_le (f:=cD d) (m:=4 * 4^d) (l:=(asL ks)) fun x hx=>okD.least (h.2 x hx)
  calc m * 4^(d+1)=(4 * 4^d) * m:=by rw[Nat.pow_succ,Nat.mul_comm,Nat.mul_comm (4^d) 4]
   _≤(4 * 4^d) * List.length (asL ks):=Nat.mul_le_mul_left _ h.1.1
   _≤_:=this
end
end Go.Proofs.YtegmldndflfohaaGreatDoor.TS
end
