/-
  Lemmas, part K1: what the claim needs of the texts of wip/tpl.
-/
import Derived.Laws.IdiomCopy
import Derived.Shelf.Spec.SearchS
import Derived.Deep.LoopGhost
import Derived.Deep.Draws
import Derived.LoopTactic
import Derived.Shelf.Strconv.Itoa3
import Derived.Lib.SmallJoins
import Derived.Lib.SplitLaws
import Derived.Test.YtkpfigikffphdaaGreatDoorPbPD
import Derived.Test.YtkpfigikffphdaaGreatDoorPbBA
set_option linter.unusedVariables false
set_option linter.unusedSimpArgs false
section
set_option maxRecDepth 100000
namespace Go.Proofs.YtkpfigikffphdaaGreatDoor
open Go.RowKit
structure PS where
 nl:Option Bool
 n:Nat
 cs:List PV
 e:Int
 o:Int
 b:Int
def PS.box (s:PS):List PV:=[.sl s.nl 7 s.n s.cs,.int .i64 s.e,.int .i64 s.o,.int .i64 s.b]
structure TR where
 k:Int
 a:Int
 t:List UInt8
 vk:Int
 vn:Int
 vc:Int
 vs:List UInt8
def TR.cells (x:TR):List PV:=[.int .i64 x.k,.int .i64 x.a,.str x.t,.int .i64 x.vk,.int .i64 x.vn,.int .i64 x.vc,.str x.vs]
structure XR where
 k:Int
 a:Int
 op:List UInt8
 vk:Int
 vn:Int
 vc:Int
 vs:List UInt8
 tb:List UInt8
 nm:List UInt8
 nt:Bool
 tk:Int
 ts:Int
 knl:Option Bool
 kn:Nat
 kc:List PV
def XR.cells (x:XR):List PV:=[.int .i64 x.k,.int .i64 x.a,.str x.op,.int .i64 x.vk,.int .i64 x.vn,.int .i64 x.vc,.str x.vs,.str x.tb,.str x.nm,.bool x.nt,.int .i64 x.tk,.int .i64 x.ts,.sl x.knl 13 x.kn x.kc]
def XR.zero:XR:=⟨0,0,[],0,0,0,[],[],[],false,0,0,some true,0,[]⟩
def TR.zero:TR:=⟨0,0,[],0,0,0,[]⟩
structure VR where
 vk:Int
 vn:Int
 vc:Int
 vs:List UInt8
 ok:Bool
def onPS {R:Type}(bs:List (List PV))(k:PS→Option R):Option R :=
 match bs with
 |[[.sl nl z n cs,.int .i64 e,.int .i64 o,.int .i64 b]]=>if z=7 then k ⟨nl,n,cs,e,o,b⟩ else none
 |_=>none
def tSI (f:PS→Option (Int×PS)):HFn:=⟨fun bs xs k=>match xs with
 |[.ptr 0 0]=>onPS bs fun s=>(f s).bind fun r=>k [r.2.box] (.int .i64 r.1)
 |_=>none⟩
def tSU (f:PS→Option PS):HFn:=⟨fun bs xs k=>match xs with
 |[.ptr 0 0]=>onPS bs fun s=>(f s).bind fun r=>k [r.box] (.tuple [])
 |_=>none⟩
def tSUi (f:PS→Int→Option PS):HFn:=⟨fun bs xs k=>match xs with
 |[.ptr 0 0,.int .i64 a]=>onPS bs fun s=>(f s a).bind fun r=>k [r.box] (.tuple [])
 |_=>none⟩
def tSUw (f:PS→List UInt8→Option PS):HFn:=⟨fun bs xs k=>match xs with
 |[.ptr 0 0,.str w]=>onPS bs fun s=>(f s w).bind fun r=>k [r.box] (.tuple [])
 |_=>none⟩
def tSBw (f:PS→List UInt8→Option (Bool×PS)):HFn:=⟨fun bs xs k=>match xs with
 |[.ptr 0 0,.str w]=>onPS bs fun s=>(f s w).bind fun r=>k [r.2.box] (.bool r.1)
 |_=>none⟩
def tSBl (f:PS→Nat→List PV→Option (Bool×PS)):HFn:=⟨fun bs xs k=>match xs with
 |[.ptr 0 0,.sl _ z n ws]=>if z=1 then onPS bs fun s=>(f s n ws).bind fun r=>k [r.2.box] (.bool r.1) else none
 |_=>none⟩
def tSBk (f:PS→Int→Nat→List PV→Option (Bool×PS)):HFn:=⟨fun bs xs k=>match xs with
 |[.ptr 0 0,.int .i64 a,.sl _ z n ws]=>if z=1 then onPS bs fun s=>(f s a n ws).bind fun r=>k [r.2.box] (.bool r.1) else none
 |_=>none⟩
def tCn (f:Nat→List PV→List UInt8→Option Bool):PFn:=⟨fun xs k=>match xs with|[.sl _ z n c,.str s]=>if z=1 then (f n c s).bind fun b=>k (.bool b) else none|_=>none,false⟩
def tCi (f:Nat→List PV→List UInt8→Option Int):PFn:=⟨fun xs k=>match xs with|[.sl _ z n c,.str s]=>if z=1 then (f n c s).bind fun b=>k (.int .i64 b) else none|_=>none,false⟩
def tWi (f:List UInt8→Option Int):PFn:=⟨fun xs k=>match xs with|[.str s]=>(f s).bind fun b=>k (.int .i64 b)|_=>none,false⟩
def tWV (f:List UInt8→Option VR):PFn:=⟨fun xs k=>match xs with|[.str s]=>(f s).bind fun r=>k (.tuple [.agg [.int .i64 r.vk,.int .i64 r.vn,.int .i64 r.vc,.str r.vs],.bool r.ok])|_=>none,false⟩
def tWs (f:List UInt8→Option (Option Bool×Nat×List PV)):PFn:=⟨fun xs k=>match xs with|[.str s]=>(f s).bind fun r=>k (.sl r.1 1 r.2.1 r.2.2)|_=>none,false⟩
def tST (f:PS→Option (TR×PS)):HFn:=⟨fun bs xs k=>match xs with
 |[.ptr 0 0]=>onPS bs fun s=>(f s).bind fun r=>k [r.2.box] (.agg r.1.cells)
 |_=>none⟩
def tSS (f:PS→Option (List UInt8×PS)):HFn:=⟨fun bs xs k=>match xs with
 |[.ptr 0 0]=>onPS bs fun s=>(f s).bind fun r=>k [r.2.box] (.str r.1)
 |_=>none⟩
def tSIi (f:PS→Int→Option (Int×PS)):HFn:=⟨fun bs xs k=>match xs with
 |[.ptr 0 0,.int .i64 a]=>onPS bs fun s=>(f s a).bind fun r=>k [r.2.box] (.int .i64 r.1)
 |_=>none⟩
def tSY (f:PS→Option ((Int×Int)×PS)):HFn:=⟨fun bs xs k=>match xs with
 |[.ptr 0 0]=>onPS bs fun s=>(f s).bind fun r=>k [r.2.box] (.agg [.int .i64 r.1.1,.int .i64 r.1.2])
 |_=>none⟩
def tSL (f:PS→Option (VR×PS)):HFn:=⟨fun bs xs k=>match xs with
 |[.ptr 0 0]=>onPS bs fun s=>(f s).bind fun r=>k [r.2.box] (.tuple [.agg [.int .i64 r.1.vk,.int .i64 r.1.vn,.int .i64 r.1.vc,.str r.1.vs],.bool r.1.ok])
 |_=>none⟩
def tSX (f:PS→Option (XR×PS)):HFn:=⟨fun bs xs k=>match xs with
 |[.ptr 0 0]=>onPS bs fun s=>(f s).bind fun r=>k [r.2.box] (.agg r.1.cells)
 |_=>none⟩
def tSXi (f:PS→Int→Option (XR×PS)):HFn:=⟨fun bs xs k=>match xs with
 |[.ptr 0 0,.int .i64 a]=>onPS bs fun s=>(f s a).bind fun r=>k [r.2.box] (.agg r.1.cells)
 |_=>none⟩
def chk {S:Type}(b:Bool)(x:Option S):Option S:=bif b then x else none
def hdI {S:Type}(cs:List PV)(k:Nat)(kk:Int→Option S):Option S:=(((cs.drop (Int.toNat 0 * 7)).take 7).drop k).head?.bind fun x=>(x.asInt .i64).bind kk
def hdS {S:Type}(cs:List PV)(k:Nat)(kk:List UInt8→Option S):Option S:=(((cs.drop (Int.toNat 0 * 7)).take 7).drop k).head?.bind fun x=>x.asStr.bind kk
def hdJ {S:Type}(cs:List PV)(k:Nat)(kk:Int→Option S):Option S:=((((cs.drop (Int.toNat 0 * 7)).take 7).drop 3).drop k).head?.bind fun x=>(x.asInt .i64).bind kk
section
variable {R:Type}
noncomputable abbrev hh0:Hints:=⟨[],[]⟩
theorem at_raw (fu:Nat)(s:PS)(K:List (List PV)→PV→Option R):prunH (enH [] [] []) hh0 fu Tryz.f96 [s.box] [.ptr 0 0] K =
  bif ((s.n:Int)==0) then K [s.box] (.int .i64 s.e) else chk (decide ((0:Int)≤0)&&decide ((0:Int)<s.n)) (hdI s.cs 1 fun a=>K [s.box] (.int .i64 a)):=by kernel_rfl
theorem failAt_raw (fu:Nat)(s:PS)(a:Int)(K:List (List PV)→PV→Option R):prunH (enH [] [] []) hh0 fu Tryz.f95 [s.box] [.ptr 0 0,.int .i64 a] K =
  bif decide (s.b<0) then K [(⟨some true,0,[],s.e,s.o,a⟩:PS).box] (.tuple []) else K [s.box] (.tuple []):=by kernel_rfl
theorem fail_raw (fat:PS→Option (Int×PS))(ff:PS→Int→Option PS)(fu:Nat)(s:PS)(K:List (List PV)→PV→Option R):prunH (enH [] [(96,tSI fat),(95,tSUi ff)] []) hh0 fu Tryz.f52 [s.box] [.ptr 0 0] K =
  (fat s).bind fun r=>(ff r.2 r.1).bind fun s=>K [s.box] (.tuple []):=by kernel_rfl
theorem is_raw (fc:Nat→List PV→List UInt8→Option Bool)(fu:Nat)(s:PS)(a:Int)(nl:Option Bool)(n:Nat)(ws:List PV)(K:List (List PV)→PV→Option R):prunH (enH [(184,tCn fc)] [] []) hh0 fu Tryz.f101 [s.box] [.ptr 0 0,.int .i64 a,.sl nl 1 n ws] K =
  bif decide ((0:Int)<s.n) then chk (decide ((0:Int)≤0)&&decide ((0:Int)<s.n)) (hdI s.cs 0 fun k=>bif k==a then chk (decide ((0:Int)≤0)&&decide ((0:Int)<s.n)) (hdS s.cs 2 fun w=>(fc n ws w).bind fun r=>K [s.box] (.bool r)) else K [s.box] (.bool false)) else K [s.box] (.bool false):=by kernel_rfl
theorem key_raw (fi:PS→Int→Nat→List PV→Option (Bool×PS))(fu:Nat)(s:PS)(w:List UInt8)(K:List (List PV)→PV→Option R):prunH (enH [] [(101,tSBk fi)] []) hh0 fu Tryz.f114 [s.box] [.ptr 0 0,.str w] K =
  (fi s 1 1 [.str w]).bind fun r=>K [r.2.box] (.bool r.1):=by kernel_rfl
theorem sign_raw (fi:PS→Int→Nat→List PV→Option (Bool×PS))(fu:Nat)(s:PS)(nl:Option Bool)(n:Nat)(ws:List PV)(K:List (List PV)→PV→Option R):prunH (enH [] [(101,tSBk fi)] []) hh0 fu Tryz.f128 [s.box] [.ptr 0 0,.sl nl 1 n ws] K =
  (fi s 3 n ws).bind fun r=>K [r.2.box] (.bool r.1):=by kernel_rfl
def hdT {S:Type}(cs:List PV)(kk:TR→Option S):Option S:=hdI cs 0 fun k=>((((cs.drop (Int.toNat 0 * 7)).take 7).drop 0).tail.head?.bind fun x=>(x.asInt .i64).bind fun a=>(((cs.drop (Int.toNat 0 * 7)).take 7).drop 0).tail.tail.head?.bind fun x=>x.asStr.bind fun t=>(((cs.drop (Int.toNat 0 * 7)).take 7).drop 0).tail.tail.tail.head?.bind fun x=>(x.asInt .i64).bind fun vk=>(((cs.drop (Int.toNat 0 * 7)).take 7).drop 0).tail.tail.tail.tail.head?.bind fun x=>(x.asInt .i64).bind fun vn=>(((cs.drop (Int.toNat 0 * 7)).take 7).drop 0).tail.tail.tail.tail.tail.head?.bind fun x=>(x.asInt .i64).bind fun vc=>(((cs.drop (Int.toNat 0 * 7)).take 7).drop 0).tail.tail.tail.tail.tail.tail.head?.bind fun x=>x.asStr.bind fun vs=>kk ⟨k,a,t,vk,vn,vc,vs⟩)
theorem take_raw (ff:PS→Option PS)(fu:Nat)(s:PS)(K:List (List PV)→PV→Option R):prunH (enH [] [(52,tSU ff)] []) hh0 fu Tryz.f102 [s.box] [.ptr 0 0] K =
  bif ((s.n:Int)==0) then (ff s).bind fun s=>K [s.box] (.agg TR.zero.cells) else chk (decide ((0:Int)≤0)&&decide ((0:Int)<s.n)) (hdT s.cs fun t=>chk (decide ((0:Int)≤1)&&decide ((1:Int)≤s.n)) (K [(⟨s.nl,s.n-1,(s.cs.take (s.n * 7)).drop (1 * 7),s.e,s.o,s.b⟩:PS).box] (.agg t.cells))):=by kernel_rfl
theorem skip_raw (fk:PS→List UInt8→Option (Bool×PS))(ft:PS→Option (TR×PS))(fu:Nat)(s:PS)(w:List UInt8)(K:List (List PV)→PV→Option R):prunH (enH [] [(114,tSBw fk),(102,tST ft)] []) hh0 fu Tryz.f64 [s.box] [.ptr 0 0,.str w] K =
  (fk s w).bind fun r=>bif !r.1 then K [r.2.box] (.bool false) else (ft r.2).bind fun q=>K [q.2.box] (.bool true):=by kernel_rfl
theorem wantSign_raw (fs:PS→Nat→List PV→Option (Bool×PS))(ff:PS→Option PS)(ft:PS→Option (TR×PS))(fu:Nat)(s:PS)(w:List UInt8)(K:List (List PV)→PV→Option R):prunH (enH [] [(128,tSBl fs),(52,tSU ff),(102,tST ft)] []) hh0 fu Tryz.f126 [s.box] [.ptr 0 0,.str w] K =
  (fs s 1 [.str w]).bind fun r=>bif !r.1 then (ff r.2).bind fun s=>K [s.box] (.tuple []) else (ft r.2).bind fun q=>K [q.2.box] (.tuple []):=by kernel_rfl
theorem name_raw (ff:PS→Option PS)(ft:PS→Option (TR×PS))(fu:Nat)(s:PS)(K:List (List PV)→PV→Option R):prunH (enH [] [(52,tSU ff),(102,tST ft)] []) hh0 fu Tryz.f115 [s.box] [.ptr 0 0] K =
  bif !((s.n:Int)==0) then chk (decide ((0:Int)≤0)&&decide ((0:Int)<s.n)) (hdI s.cs 0 fun k=>bif k != 0 then (ff s).bind fun s=>K [s.box] (.str []) else (ft s).bind fun q=>K [q.2.box] (.str q.1.t)) else (ff s).bind fun s=>K [s.box] (.str []):=by kernel_rfl
theorem number_raw (ff:PS→Option PS)(ft:PS→Option (TR×PS))(fu:Nat)(s:PS)(m:Int)(K:List (List PV)→PV→Option R):prunH (enH [] [(52,tSU ff),(102,tST ft)] []) hh0 fu Tryz.f135 [s.box] [.ptr 0 0,.int .i64 m] K =
  bif !((s.n:Int)==0) then chk (decide ((0:Int)≤0)&&decide ((0:Int)<s.n)) (hdI s.cs 0 fun k=>bif !(k != 2) then
   chk (decide ((0:Int)≤0)&&decide ((0:Int)<s.n)) (hdI s.cs 3 fun vk=>bif !(vk != 2) then
   chk (decide ((0:Int)≤0)&&decide ((0:Int)<s.n)) (hdJ s.cs 1 fun vn=>bif decide (m<vn) then (ff s).bind fun s=>K [s.box] (.int .i64 0) else (ft s).bind fun q=>K [q.2.box] (.int .i64 q.1.vn))
   else (ff s).bind fun s=>K [s.box] (.int .i64 0)) else (ff s).bind fun s=>K [s.box] (.int .i64 0)) else (ff s).bind fun s=>K [s.box] (.int .i64 0):=by kernel_rfl
theorem kind_raw (fi:Nat→List PV→List UInt8→Option Int)(fu:Nat)(w:List UInt8):prun (en [(230,tCi fi)]) hh0 fu false Tryz.f200 [.str w] =
  (fi 6 [.str [],.str [66,79,79,76],.str [73,78,84],.str [68,69,67,73,77,65,76],.str [84,69,88,84],.str [66,89,84,69,83]] w).bind fun i=>some (.int .i64 (if 0>i then 0 else i)):=by kernel_rfl
def wordA (w:List UInt8):Option PV:=bif w==[84,82,85,69] then some (.tuple [.agg [.int .i64 1,.int .i64 1,.int .i64 0,.str []],.bool true]) else some (.tuple [.agg [.int .i64 1,.int .i64 0,.int .i64 0,.str []],.bool true])
def wordZ (w:List UInt8):Option PV:=some (.tuple [.agg [.int .i64 0,.int .i64 0,.int .i64 0,.str []],.bool (w==[78,85,76,76])])
theorem word_raw (fu:Nat)(w:List UInt8):prun (en [(277,evalFn [] hh0 0 Tryz.f277)]) hh0 fu false Tryz.f256 [.str w] =
  bif w==[84,82,85,69] then (bif w==[84,82,85,69] then wordA w else wordZ w) else bif w==[70,65,76,83,69] then wordA w else wordZ w:=by kernel_rfl
theorem literal_raw (fw:List UInt8→Option VR)(ft:PS→Option (TR×PS))(fu:Nat)(s:PS)(K:List (List PV)→PV→Option R):prunH (enH [(256,tWV fw)] [(102,tST ft)] []) hh0 fu Tryz.f229 [s.box] [.ptr 0 0] K =
  bif ((s.n:Int)==0) then K [s.box] (.tuple [.agg [.int .i64 0,.int .i64 0,.int .i64 0,.str []],.bool false]) else chk (decide ((0:Int)≤0)&&decide ((0:Int)<s.n)) (hdT s.cs fun t =>
   bif t.k==2 then (ft s).bind fun q=>K [q.2.box] (.tuple [.agg [.int .i64 t.vk,.int .i64 t.vn,.int .i64 t.vc,.str t.vs],.bool true]) else
   (fw t.t).bind fun v=>bif (bif t.k != 1 then true else !v.ok) then K [s.box] (.tuple [.agg [.int .i64 0,.int .i64 0,.int .i64 0,.str []],.bool false]) else (ft s).bind fun q=>K [q.2.box] (.tuple [.agg [.int .i64 v.vk,.int .i64 v.vn,.int .i64 v.vc,.str v.vs],.bool true])):=by kernel_rfl
theorem typed_raw (fk:List UInt8→Option Int)(ff:PS→Option PS)(ft:PS→Option (TR×PS))(fw:PS→List UInt8→Option PS)(fn:PS→Int→Option (Int×PS))(fu:Nat)(s:PS)(K:List (List PV)→PV→Option R):prunH (enH [(200,tWi fk)] [(52,tSU ff),(102,tST ft),(126,tSUw fw),(135,tSIi fn)] []) hh0 fu Tryz.f120 [s.box] [.ptr 0 0] K =
  bif !((s.n:Int)==0) then chk (decide ((0:Int)≤0)&&decide ((0:Int)<s.n)) (hdI s.cs 0 fun k=>bif !(k != 1) then
   chk (decide ((0:Int)≤0)&&decide ((0:Int)<s.n)) (hdS s.cs 2 fun w=>(fk w).bind fun j=>bif j==0 then (ff s).bind fun s=>K [s.box] (.agg [.int .i64 0,.int .i64 0]) else
   (ft s).bind fun q=>(fk q.1.t).bind fun j=>bif j==3 then (fw q.2 [40]).bind fun s=>(fn s 6).bind fun m=>(fw m.2 [41]).bind fun s=>K [s.box] (.agg [.int .i64 j,.int .i64 m.1]) else K [q.2.box] (.agg [.int .i64 j,.int .i64 0]))
   else (ff s).bind fun s=>K [s.box] (.agg [.int .i64 0,.int .i64 0])) else (ff s).bind fun s=>K [s.box] (.agg [.int .i64 0,.int .i64 0]):=by kernel_rfl
end
def PS.open (s:PS)(d:Int):PS:=⟨s.nl,s.n,s.cs,s.e,IntKind.i64.wrap (s.o+d),s.b⟩
def PS.shut (s:PS)(d:Int):PS:=⟨s.nl,s.n,s.cs,s.e,IntKind.i64.wrap (s.o-d),s.b⟩
def unX (a:Int)(op:List UInt8)(e:XR):XR:=⟨2,a,op,0,0,0,[],[],[],false,0,0,some false,1,e.cells⟩
def binX (a:Int)(op:List UInt8)(e y:XR):XR:=⟨3,a,op,0,0,0,[],[],[],false,0,0,some false,2,e.cells++y.cells⟩
def nullX (a:Int)(nt:Bool)(e:XR):XR:=⟨4,a,[],0,0,0,[],[],[],nt,0,0,some false,1,e.cells⟩
def castX (a tk ts:Int)(e:XR):XR:=⟨6,a,[],0,0,0,[],[],[],false,tk,ts,some false,1,e.cells⟩
def callX (a:Int)(op:List UInt8)(e:XR):XR:=⟨5,a,op,0,0,0,[],[],[],false,0,0,some false,1,e.cells⟩
def call0 (a:Int)(op:List UInt8):XR:=⟨5,a,op,0,0,0,[],[],[],false,0,0,some true,0,[]⟩
def litX (a vk vn vc:Int)(vs:List UInt8):XR:=⟨0,a,[],vk,vn,vc,vs,[],[],false,0,0,some true,0,[]⟩
def colX (a:Int)(tb nm:List UInt8):XR:=⟨1,a,[],0,0,0,[],tb,nm,false,0,0,some true,0,[]⟩
def deepK {R:Type}(ff:PS→Option PS)(s:PS)(body:PS→(XR→PS→Option R)→Option R)(Kf:PS→Option R)(K:XR→PS→Option R):Option R :=
 bif decide ((20:Int)≤s.o) then (ff s).bind fun s=>Kf s else body (s.open 1) fun x s=>K x (s.shut 1)
def withinK {R:Type}(fs:PS→Nat→List PV→Option (Bool×PS))(ff:PS→Option PS)(ft:PS→Option (TR×PS))(fw:PS→List UInt8→Option PS)(s:PS)(body:PS→(XR→PS→Option R)→Option R)(Kf:PS→Option R)(K:XR→PS→Option R):Option R :=
 (fs s 1 [.str [40]]).bind fun r=>bif !r.1 then (ff r.2).bind fun s=>Kf s else deepK ff r.2 (fun s kk=>(ft s).bind fun t=>body t.2 fun x s=>(fw s [41]).bind fun s=>kk x s) Kf K
section
variable {R:Type}
noncomputable def vDeep (ff:PS→Option PS)(ld:List (FuncId×HFn)):HFn:=evalD [] ((52,tSU ff)::ld) [] [(225,evalH [] [] [] hh0 0 Tryz.f225)] hh0 0 Tryz.f180
theorem neg_raw (fk:PS→List UInt8→Option (Bool×PS))(fc fn:PS→Option (XR×PS))(ff:PS→Option PS)(ft:PS→Option (TR×PS))(fu:Nat)(s:PS)(K:List (List PV)→PV→Option R) :
  prunH (enH [] [(114,tSBw fk),(179,tSX fc),(180,vDeep ff [(181,evalH [] [(102,tST ft),(98,tSX fn)] [] hh0 0 Tryz.f181)])] []) hh0 fu Tryz.f98 [s.box] [.ptr 0 0] K =
  (fk s [78,79,84]).bind fun r=>bif !r.1 then (fc r.2).bind fun q=>K [q.2.box] (.agg q.1.cells) else
   deepK ff r.2 (fun s kk=>(ft s).bind fun t=>(fn t.2).bind fun e=>kk (unX t.1.a [78,79,84] e.1) e.2) (fun s=>K [s.box] (.agg XR.zero.cells)) fun x s=>K [s.box] (.agg x.cells):=by kernel_rfl
theorem fact_raw (fs:PS→Nat→List PV→Option (Bool×PS))(fc fn:PS→Option (XR×PS))(ff:PS→Option PS)(ft:PS→Option (TR×PS))(fu:Nat)(s:PS)(K:List (List PV)→PV→Option R) :
  prunH (enH [] [(128,tSBl fs),(182,tSX fc),(180,vDeep ff [(183,evalH [] [(102,tST ft),(99,tSX fn)] [] hh0 0 Tryz.f183)])] []) hh0 fu Tryz.f99 [s.box] [.ptr 0 0] K =
  (fs s 1 [.str [45]]).bind fun r=>bif !r.1 then (fc r.2).bind fun q=>K [q.2.box] (.agg q.1.cells) else
   deepK ff r.2 (fun s kk=>(ft s).bind fun t=>(fn t.2).bind fun e=>kk (unX t.1.a [45] e.1) e.2) (fun s=>K [s.box] (.agg XR.zero.cells)) fun x s=>K [s.box] (.agg x.cells):=by kernel_rfl
noncomputable def vWith (fs:PS→Nat→List PV→Option (Bool×PS))(ff:PS→Option PS)(ft:PS→Option (TR×PS))(fw:PS→List UInt8→Option PS)(ld:List (FuncId×HFn)):HFn :=
 evalH [] [(128,tSBl fs),(52,tSU ff),(180,vDeep ff [(253,evalH [] ((102,tST ft)::(126,tSUw fw)::ld) [] hh0 0 Tryz.f253)])] [] hh0 0 Tryz.f226
theorem pcast_raw (fs:PS→Nat→List PV→Option (Bool×PS))(ff:PS→Option PS)(ft:PS→Option (TR×PS))(fw:PS→List UInt8→Option PS)(fe:PS→Option (XR×PS))(fwa:PS→List UInt8→Option PS)(fy:PS→Option ((Int×Int)×PS))(fu:Nat)(s:PS)(K:List (List PV)→PV→Option R) :
  prunH (enH [] [(102,tST ft),(226,vWith fs ff ft fw [(254,evalH [] [(22,tSX fe),(118,tSUw fwa),(120,tSY fy)] [] hh0 0 Tryz.f254)])] []) hh0 fu Tryz.f227 [s.box] [.ptr 0 0] K =
  (ft s).bind fun t=>withinK fs ff ft fw t.2 (fun s kk=>(fe s).bind fun e=>(fwa e.2 [65,83]).bind fun s=>(fy s).bind fun y=>kk (castX t.1.a y.1.1 y.1.2 e.1) y.2) (fun s=>K [s.box] (.agg XR.zero.cells)) fun x s=>K [s.box] (.agg x.cells):=by kernel_rfl
theorem call_raw (fs:PS→Nat→List PV→Option (Bool×PS))(ff:PS→Option PS)(ft:PS→Option (TR×PS))(fw:PS→List UInt8→Option PS)(fe:PS→Option (XR×PS))(fu:Nat)(s:PS)(K:List (List PV)→PV→Option R) :
  prunH (enH [] [(102,tST ft),(226,vWith fs ff ft fw [(255,evalH [] [(128,tSBl fs),(102,tST ft),(22,tSX fe)] [] hh0 0 Tryz.f255)])] []) hh0 fu Tryz.f228 [s.box] [.ptr 0 0] K =
  (ft s).bind fun t=>withinK fs ff ft fw t.2 (fun s kk=>bif t.1.t==[67,79,85,78,84] then (fs s 1 [.str [42]]).bind fun r=>(bif r.1 then (ft r.2).bind fun q=>kk (call0 t.1.a t.1.t) q.2 else (fe r.2).bind fun e=>kk (callX t.1.a t.1.t e.1) e.2) else (fe s).bind fun e=>kk (callX t.1.a t.1.t e.1) e.2)
   (fun s=>K [s.box] (.agg (call0 t.1.a t.1.t).cells)) fun x s=>K [s.box] (.agg x.cells):=by kernel_rfl
theorem atom_raw (fa:PS→Option (Int×PS))(fs:PS→Nat→List PV→Option (Bool×PS))(ff:PS→Option PS)(ft:PS→Option (TR×PS))(fw:PS→List UInt8→Option PS)(fe:PS→Option (XR×PS))(fk:PS→List UInt8→Option (Bool×PS))(fi:PS→Int→Nat→List PV→Option (Bool×PS))(fca fcl:PS→Option (XR×PS))(fl:PS→Option (VR×PS))(fnm:PS→Option (List UInt8×PS))(fu:Nat)(s:PS)(K:List (List PV)→PV→Option R) :
  prunH (enH [] [(96,tSI fa),(128,tSBl fs),(226,vWith fs ff ft fw [(22,tSX fe)]),(114,tSBw fk),(101,tSBk fi),(227,tSX fca),(228,tSX fcl),(229,tSL fl),(115,tSS fnm),(102,tST ft)] []) hh0 fu Tryz.f182 [s.box] [.ptr 0 0] K =
  (fa s).bind fun a=>(fs a.2 1 [.str [40]]).bind fun r=>bif r.1 then withinK fs ff ft fw r.2 (fun s kk=>(fe s).bind fun e=>kk e.1 e.2) (fun s=>K [s.box] (.agg XR.zero.cells)) (fun x s=>K [s.box] (.agg x.cells)) else
   (fk r.2 [67,65,83,84]).bind fun r=>bif r.1 then (fca r.2).bind fun e=>K [e.2.box] (.agg e.1.cells) else
   (fi r.2 1 4 [.str [67,79,85,78,84],.str [83,85,77],.str [77,73,78],.str [77,65,88]]).bind fun r=>bif r.1 then (fcl r.2).bind fun e=>K [e.2.box] (.agg e.1.cells) else
   (fl r.2).bind fun v=>bif v.1.ok then K [v.2.box] (.agg (litX a.1 v.1.vk v.1.vn v.1.vc v.1.vs).cells) else
   (fnm v.2).bind fun n=>(fs n.2 1 [.str [46]]).bind fun r=>bif r.1 then (ft r.2).bind fun t=>(fnm t.2).bind fun m=>K [m.2.box] (.agg (colX a.1 n.1 m.1).cells) else K [r.2.box] (.agg (colX a.1 [] n.1).cells):=by kernel_rfl
def cmpW:List PV:=[.str [61],.str [60,62],.str [60],.str [60,61],.str [62],.str [62,61]]
theorem pcomp_raw (fs:PS→Nat→List PV→Option (Bool×PS))(ft:PS→Option (TR×PS))(fsu:PS→Option (XR×PS))(fk fsk:PS→List UInt8→Option (Bool×PS))(fwa:PS→List UInt8→Option PS)(fu:Nat)(s:PS)(K:List (List PV)→PV→Option R) :
  prunH (enH [] [(224,tSX fsu),(128,tSBl fs),(102,tST ft),(114,tSBw fk),(64,tSBw fsk),(118,tSUw fwa)] []) hh0 fu Tryz.f179 [s.box] [.ptr 0 0] K =
  (fsu s).bind fun e=>(fs e.2 6 cmpW).bind fun r=>bif r.1 then (ft r.2).bind fun t=>(fsu t.2).bind fun y=>K [y.2.box] (.agg (binX t.1.a t.1.t e.1 y.1).cells) else
   (fk r.2 [73,83]).bind fun r=>bif !r.1 then K [r.2.box] (.agg e.1.cells) else (ft r.2).bind fun t=>(fsk t.2 [78,79,84]).bind fun n=>(fwa n.2 [78,85,76,76]).bind fun s=>K [s.box] (.agg (nullX t.1.a n.1 e.1).cells):=by kernel_rfl
theorem sum_raw (fc:PS→Int→Option (XR×PS))(fu:Nat)(s:PS)(K:List (List PV)→PV→Option R):prunH (enH [] [(53,tSXi fc)] []) hh0 fu Tryz.f224 [s.box] [.ptr 0 0] K=(fc s 2).bind fun e=>K [e.2.box] (.agg e.1.cells):=by kernel_rfl
theorem expr_raw (fc:PS→Int→Option (XR×PS))(fu:Nat)(s:PS)(K:List (List PV)→PV→Option R):prunH (enH [] [(53,tSXi fc)] []) hh0 fu Tryz.f22 [s.box] [.ptr 0 0] K=(fc s 0).bind fun e=>K [e.2.box] (.agg e.1.cells):=by kernel_rfl
end
def frameB (n m:Nat)(l:List (Nat×TV))(b:List (Nat×List TV)):St:=⟨(List.range n).map fun t=>(l.lookup t).getD (.undef,0),(List.range m).map fun t=>b.lookup t,.nil⟩
noncomputable def fCh:Func:=Tryz.f53
def hCh:Hints:=⟨[],[(1,⟨[(2,false),(3,false),(4,false),(5,false),(6,false),(7,false)],[2,3,4,6,7,43]⟩)]⟩
noncomputable def vLev:PFn:=evalFn [] hh0 0 Tryz.f100
noncomputable def lhCh (fc:PS→Int→Option (XR×PS))(fn ff:PS→Option (XR×PS))(fi:PS→Int→Nat→List PV→Option (Bool×PS))(ft:PS→Option (TR×PS)):List (FuncId×HFn) :=
 [(97,evalH [] [(53,tSXi fc)] [] hh0 0 Tryz.f97),(98,tSX fn),(99,tSX ff),(101,tSBk fi),(102,tST ft)]
noncomputable def enCh (fc:PS→Int→Option (XR×PS))(fn ff:PS→Option (XR×PS))(fi:PS→Int→Nat→List PV→Option (Bool×PS))(ft:PS→Option (TR×PS)):Env:=enH [(100,vLev)] (lhCh fc fn ff fi ft) []
def chClo (n:Nat):PV:=match n with
 |1=>.clo (1000000+98) [.ptr 43 0]
 |3=>.clo (1000000+99) [.ptr 43 0]
 |_=>.clo 97 [.ptr 2 0,.ptr 3 0]
def levK (n:Nat):Int:=match n with|0=>1|1=>1|_=>3
def levW (n:Nat):List PV:=match n with|0=>[.str [79,82]]|1=>[.str [65,78,68]]|2=>[.str [43],.str [45]]|_=>[.str [42],.str [47],.str [37]]
def frCh (n:Nat)(e:XR)(s:PS):St:=frameB 43 44 [(2,(.ptr 2 0,0)),(3,(.ptr 3 0,0)),(4,(.ptr 4 0,0)),(5,(chClo n,0)),(6,(.ptr 6 0,0)),(7,(.ptr 7 0,0))]
 [(2,[(.ptr 43 0,0)]),(3,[(.int .i64 n,0)]),(4,XR.zero.cells.map fun x=>(x,0)),(6,[(.int .i64 (levK n),0),(.sl (some false) 1 (levW n).length (levW n),0)]),(7,e.cells.map fun x=>(x,0)),(43,s.box.map fun x=>(x,0))]
section
variable {R:Type}
noncomputable def chKr (fc:PS→Int→Option (XR×PS))(fn ff:PS→Option (XR×PS))(fi:PS→Int→Nat→List PV→Option (Bool×PS))(ft:PS→Option (TR×PS))(K:List (List PV)→PV→Option R)(st:St):Option R:=pfinH (enCh fc fn ff fi ft) 1 fCh st fun bs _ v=>K bs v
noncomputable def chL (fc:PS→Int→Option (XR×PS))(fn ff:PS→Option (XR×PS))(fi:PS→Int→Nat→List PV→Option (Bool×PS))(ft:PS→Option (TR×PS))(fu:Nat)(K:List (List PV)→PV→Option R)(m:Nat)(st:St):Option R :=
 loopK (enCh fc fn ff fi ft) hCh fu (chKr fc fn ff fi ft K) fCh (fun _=>none) [1,1,1,1,1,0,0] 1 m st
theorem ch_raw0 (fc:PS→Int→Option (XR×PS))(fn ff:PS→Option (XR×PS))(fi:PS→Int→Nat→List PV→Option (Bool×PS))(ft:PS→Option (TR×PS))(fu:Nat)(s:PS)(K:List (List PV)→PV→Option R) :
  prunH (enCh fc fn ff fi ft) hCh fu fCh [s.box] [.ptr 0 0,.int .i64 0] K=(fc s (IntKind.i64.wrap (0+1))).bind fun e=>chL fc fn ff fi ft fu K fu (frCh 0 e.1 e.2):=prunHN_eq.trans (by kernel_rfl)
theorem ch_raw1 (fc:PS→Int→Option (XR×PS))(fn ff:PS→Option (XR×PS))(fi:PS→Int→Nat→List PV→Option (Bool×PS))(ft:PS→Option (TR×PS))(fu:Nat)(s:PS)(K:List (List PV)→PV→Option R) :
  prunH (enCh fc fn ff fi ft) hCh fu fCh [s.box] [.ptr 0 0,.int .i64 1] K=(fn s).bind fun e=>chL fc fn ff fi ft fu K fu (frCh 1 e.1 e.2):=prunHN_eq.trans (by kernel_rfl)
theorem ch_raw2 (fc:PS→Int→Option (XR×PS))(fn ff:PS→Option (XR×PS))(fi:PS→Int→Nat→List PV→Option (Bool×PS))(ft:PS→Option (TR×PS))(fu:Nat)(s:PS)(K:List (List PV)→PV→Option R) :
  prunH (enCh fc fn ff fi ft) hCh fu fCh [s.box] [.ptr 0 0,.int .i64 2] K=(fc s (IntKind.i64.wrap (2+1))).bind fun e=>chL fc fn ff fi ft fu K fu (frCh 2 e.1 e.2):=prunHN_eq.trans (by kernel_rfl)
theorem ch_raw3 (fc:PS→Int→Option (XR×PS))(fn ff:PS→Option (XR×PS))(fi:PS→Int→Nat→List PV→Option (Bool×PS))(ft:PS→Option (TR×PS))(fu:Nat)(s:PS)(K:List (List PV)→PV→Option R) :
  prunH (enCh fc fn ff fi ft) hCh fu fCh [s.box] [.ptr 0 0,.int .i64 3] K=(ff s).bind fun e=>chL fc fn ff fi ft fu K fu (frCh 3 e.1 e.2):=prunHN_eq.trans (by kernel_rfl)
theorem ch_step0 (fc:PS→Int→Option (XR×PS))(fn ff:PS→Option (XR×PS))(fi:PS→Int→Nat→List PV→Option (Bool×PS))(ft:PS→Option (TR×PS))(fu:Nat)(e:XR)(s:PS)(K:List (List PV)→PV→Option R)(G:St→Option R) :
  stepK (enCh fc fn ff fi ft) hCh fu (chKr fc fn ff fi ft K) fCh [1,1,1,1,1,0,0] (fun _=>none) (frCh 0 e s) (fun st=>pnorm (hCh.loop.lookup 1) st G) =
   (fi s (levK 0) (levW 0).length (levW 0)).bind fun r=>bif r.1 then (ft r.2).bind fun t=>(fc t.2 (IntKind.i64.wrap (0+1))).bind fun y=>G (frCh 0 (binX t.1.a t.1.t e y.1) y.2) else K [r.2.box] (.agg e.cells):=by kernel_rfl
theorem ch_step1 (fc:PS→Int→Option (XR×PS))(fn ff:PS→Option (XR×PS))(fi:PS→Int→Nat→List PV→Option (Bool×PS))(ft:PS→Option (TR×PS))(fu:Nat)(e:XR)(s:PS)(K:List (List PV)→PV→Option R)(G:St→Option R) :
  stepK (enCh fc fn ff fi ft) hCh fu (chKr fc fn ff fi ft K) fCh [1,1,1,1,1,0,0] (fun _=>none) (frCh 1 e s) (fun st=>pnorm (hCh.loop.lookup 1) st G) =
   (fi s (levK 1) (levW 1).length (levW 1)).bind fun r=>bif r.1 then (ft r.2).bind fun t=>(fn t.2).bind fun y=>G (frCh 1 (binX t.1.a t.1.t e y.1) y.2) else K [r.2.box] (.agg e.cells):=by kernel_rfl
theorem ch_step2 (fc:PS→Int→Option (XR×PS))(fn ff:PS→Option (XR×PS))(fi:PS→Int→Nat→List PV→Option (Bool×PS))(ft:PS→Option (TR×PS))(fu:Nat)(e:XR)(s:PS)(K:List (List PV)→PV→Option R)(G:St→Option R) :
  stepK (enCh fc fn ff fi ft) hCh fu (chKr fc fn ff fi ft K) fCh [1,1,1,1,1,0,0] (fun _=>none) (frCh 2 e s) (fun st=>pnorm (hCh.loop.lookup 1) st G) =
   (fi s (levK 2) (levW 2).length (levW 2)).bind fun r=>bif r.1 then (ft r.2).bind fun t=>(fc t.2 (IntKind.i64.wrap (2+1))).bind fun y=>G (frCh 2 (binX t.1.a t.1.t e y.1) y.2) else K [r.2.box] (.agg e.cells):=by kernel_rfl
theorem ch_step3 (fc:PS→Int→Option (XR×PS))(fn ff:PS→Option (XR×PS))(fi:PS→Int→Nat→List PV→Option (Bool×PS))(ft:PS→Option (TR×PS))(fu:Nat)(e:XR)(s:PS)(K:List (List PV)→PV→Option R)(G:St→Option R) :
  stepK (enCh fc fn ff fi ft) hCh fu (chKr fc fn ff fi ft K) fCh [1,1,1,1,1,0,0] (fun _=>none) (frCh 3 e s) (fun st=>pnorm (hCh.loop.lookup 1) st G) =
   (fi s (levK 3) (levW 3).length (levW 3)).bind fun r=>bif r.1 then (ft r.2).bind fun t=>(ff t.2).bind fun y=>G (frCh 3 (binX t.1.a t.1.t e y.1) y.2) else K [r.2.box] (.agg e.cells):=by kernel_rfl
end
noncomputable def fWa:Func:=Tryz.f118
def hWa:Hints:=⟨[],[(0,⟨[(0,false),(7,false),(8,false),(9,false)],[20]⟩)]⟩
noncomputable def enWa (ff:List UInt8→Option (Option Bool×Nat×List PV))(fs:PS→List UInt8→Option (Bool×PS))(fa:PS→Option PS):Env:=enH [(198,tWs ff)] [(64,tSBw fs),(52,tSU fa)] []
def frWa (nl:Option Bool)(n:Nat)(ws:List PV)(L i:Int)(s:PS):St:=frameB 20 21 [(0,(.ptr 20 0,0)),(7,(.sl nl 1 n ws,0)),(8,(.int .i64 L,0)),(9,(.int .i64 i,0))] [(20,s.box.map fun x=>(x,0))]
section
variable {R:Type}
noncomputable def waKr (ff:List UInt8→Option (Option Bool×Nat×List PV))(fs:PS→List UInt8→Option (Bool×PS))(fa:PS→Option PS)(K:List (List PV)→PV→Option R)(st:St):Option R:=pfinH (enWa ff fs fa) 1 fWa st fun bs _ v=>K bs v
noncomputable def waL (ff:List UInt8→Option (Option Bool×Nat×List PV))(fs:PS→List UInt8→Option (Bool×PS))(fa:PS→Option PS)(fu:Nat)(K:List (List PV)→PV→Option R)(m:Nat)(st:St):Option R :=
 loopK (enWa ff fs fa) hWa fu (waKr ff fs fa K) fWa (fun _=>none) [1,0] 0 m st
theorem wa_raw (ff:List UInt8→Option (Option Bool×Nat×List PV))(fs:PS→List UInt8→Option (Bool×PS))(fa:PS→Option PS)(fu:Nat)(s:PS)(w:List UInt8)(K:List (List PV)→PV→Option R) :
  prunH (enWa ff fs fa) hWa fu fWa [s.box] [.ptr 0 0,.str w] K=(ff w).bind fun r=>waL ff fs fa fu K fu (frWa r.1 r.2.1 r.2.2 (r.2.1:Int) 0 s):=prunHN_eq.trans (by kernel_rfl)
theorem wa_step (ff:List UInt8→Option (Option Bool×Nat×List PV))(fs:PS→List UInt8→Option (Bool×PS))(fa:PS→Option PS)(fu:Nat)(nl:Option Bool)(n:Nat)(ws:List PV)(L i:Int)(s:PS)(K:List (List PV)→PV→Option R)(G:St→Option R) :
  stepK (enWa ff fs fa) hWa fu (waKr ff fs fa K) fWa [1,0] (fun _=>none) (frWa nl n ws L i s) (fun st=>pnorm (hWa.loop.lookup 0) st G) =
   bif decide (i<L) then chk (decide (0≤i)&&decide (i<(n:Int))) (((ws.drop (i.toNat * 1)).take 1).head?.bind fun x=>x.asStr.bind fun w=>(fs s w).bind fun r=>bif !r.1 then (fa r.2).bind fun s=>G (frWa nl n ws L (IntKind.i64.wrap (i+1)) s) else G (frWa nl n ws L (IntKind.i64.wrap (i+1)) r.2)) else K [s.box] (.tuple []):=by kernel_rfl
structure LX where
 nl:Option Bool
 n:Nat
 cs:List PV
 a:Int
 e:Int
def tLx (f:List UInt8→Option LX):PFn:=⟨fun xs k=>match xs with|[.str s]=>(f s).bind fun r=>k (.tuple [.sl r.nl 7 r.n r.cs,.int .i64 r.a,.int .i64 r.e])|_=>none,false⟩
def tXB (f:XR→Option Bool):PFn:=⟨fun xs k=>match xs with|[.agg [.int .i64 k1,.int .i64 a,.str op,.int .i64 vk,.int .i64 vn,.int .i64 vc,.str vs,.str tb,.str nm,.bool nt,.int .i64 tk,.int .i64 ts,.sl knl z kn kc]]=>if z=13 then (f ⟨k1,a,op,vk,vn,vc,vs,tb,nm,nt,tk,ts,knl,kn,kc⟩).bind fun b=>k (.bool b) else none|_=>none,false⟩
def rdEnd (e:XR)(s:PS):Option PV:=bif decide ((0:Int)≤s.b) then some (.tuple [.agg XR.zero.cells,.int .i64 s.b,.int .i64 170]) else some (.tuple [.agg e.cells,.int .i64 0,.int .i64 0])
def rdTail (fr:XR→Option Bool)(e:XR)(s:PS):Option PV:=bif decide (s.b<0) then (fr e).bind fun ok=>bif !ok then rdEnd e ⟨s.nl,s.n,s.cs,s.e,s.o,0⟩ else rdEnd e s else rdEnd e s
theorem read_raw (fl:List UInt8→Option LX)(fe:PS→Option (XR×PS))(ff:PS→Option PS)(fr:XR→Option Bool)(fu:Nat)(w:List UInt8) :
  prun (enH [(51,tLx fl),(23,tXB fr)] [(22,tSX fe),(52,tSU ff)] []) hh0 fu false Tryz.f21 [.str w,.clo 22 [],.clo 23 []] =
   (fl w).bind fun l=>bif l.e != 0 then some (.tuple [.agg XR.zero.cells,.int .i64 l.a,.int .i64 l.e]) else (fe ⟨l.nl,l.n,l.cs,(w.length:Int),0,-1⟩).bind fun e=>bif decide ((0:Int)<(e.2.n:Int)) then (ff e.2).bind fun s=>rdTail fr e.1 s else rdTail fr e.1 e.2:=by kernel_rfl
end
structure RS where
 nl:Option Bool
 n:Nat
 cs:List PV
 i:Int
 e:Int
 o:Int
 b:Int
def RS.next (s:RS):RS:=⟨s.nl,s.n,s.cs,IntKind.i64.wrap (s.i+1),s.e,s.o,s.b⟩
def RS.open (s:RS):RS:=⟨s.nl,s.n,s.cs,s.i,s.e,IntKind.i64.wrap (s.o+1),s.b⟩
def RS.shut (s:RS):RS:=⟨s.nl,s.n,s.cs,s.i,s.e,IntKind.i64.wrap (s.o-1),s.b⟩
def onXR {R:Type}(x:PV)(k:XR→Option R):Option R:=match x with
 | .agg [.int .i64 k1,.int .i64 a,.str op,.int .i64 vk,.int .i64 vn,.int .i64 vc,.str vs,.str tb,.str nm,.bool nt,.int .i64 tk,.int .i64 ts,.sl knl z kn kc]=>if z=13 then k ⟨k1,a,op,vk,vn,vc,vs,tb,nm,nt,tk,ts,knl,kn,kc⟩ else none
 |_=>none
def tkI {S:Type}(cs:List PV)(i:Int)(k:Nat)(kk:Int→Option S):Option S:=(((cs.drop (i.toNat * 7)).take 7).drop k).head?.bind fun x=>(x.asInt .i64).bind kk
def tkS {S:Type}(cs:List PV)(i:Int)(k:Nat)(kk:List UInt8→Option S):Option S:=(((cs.drop (i.toNat * 7)).take 7).drop k).head?.bind fun x=>x.asStr.bind kk
def tkJ {S:Type}(cs:List PV)(i:Int)(k:Nat)(kk:Int→Option S):Option S:=((((cs.drop (i.toNat * 7)).take 7).drop 3).drop k).head?.bind fun x=>(x.asInt .i64).bind kk
def tkV {S:Type}(cs:List PV)(i:Int)(kk:Int→Int→Int→List UInt8→Option S):Option S :=
 (((cs.drop (i.toNat * 7)).take 7).drop 3).head?.bind fun x=>(x.asInt .i64).bind fun vk=>(((cs.drop (i.toNat * 7)).take 7).drop 3).tail.head?.bind fun x=>(x.asInt .i64).bind fun vn=>(((cs.drop (i.toNat * 7)).take 7).drop 3).tail.tail.head?.bind fun x=>(x.asInt .i64).bind fun vc=>(((cs.drop (i.toNat * 7)).take 7).drop 3).tail.tail.tail.head?.bind fun x=>x.asStr.bind fun vs=>kk vk vn vc vs
def RS.inB (s:RS):Bool:=decide (0≤s.i)&&decide (s.i<(s.n:Int))
def liveK {S:Type}(s:RS)(x a:Option S):Option S:=bif decide (s.b<0) then (bif decide (s.i<(s.n:Int)) then x else a) else a
section
variable {R:Type}
def orK {S:Type}(w:List UInt8)(a b:S):List (List UInt8)→S
 |[]=>b
 |[x]=>bif w==x then a else b
 |x::xs=>bif w==x then (bif w==x then a else b) else orK w a b xs
end
section
variable {R:Type}
def tyK {S:Type}(fm:RS→Nat→List PV→Option RS)(fn:RS→Int→Option (Int×RS))(k:Int)(s:RS)(K:RS→Int→Int→Option S):Option S :=
 bif k==2 then (fm s 1 [.str [40]]).bind fun s=>(fn s 6).bind fun m=>(fm m.2 1 [.str [41]]).bind fun s=>K s (IntKind.i64.wrap (k+1)) m.1 else K s (IntKind.i64.wrap (k+1)) 0
end
def tkT {S:Type}(cs:List PV)(i:Int)(kk:TR→Option S):Option S:=((cs.drop (i.toNat * 7)).take 7).head?.bind fun x=>(x.asInt .i64).bind fun k=>((cs.drop (i.toNat * 7)).take 7).tail.head?.bind fun x=>(x.asInt .i64).bind fun a=>((cs.drop (i.toNat * 7)).take 7).tail.tail.head?.bind fun x=>x.asStr.bind fun t=>((cs.drop (i.toNat * 7)).take 7).tail.tail.tail.head?.bind fun x=>(x.asInt .i64).bind fun vk=>((cs.drop (i.toNat * 7)).take 7).tail.tail.tail.tail.head?.bind fun x=>(x.asInt .i64).bind fun vn=>((cs.drop (i.toNat * 7)).take 7).tail.tail.tail.tail.tail.head?.bind fun x=>(x.asInt .i64).bind fun vc=>((cs.drop (i.toNat * 7)).take 7).tail.tail.tail.tail.tail.tail.head?.bind fun x=>x.asStr.bind fun vs=>kk ⟨k,a,t,vk,vn,vc,vs⟩
section
variable {R:Type}
structure FAt where
 fa:RS→Option (Int×RS)
 fs:RS→List UInt8→Option (Bool×RS)
 fe:RS→List UInt8→Option (Bool×RS)
 fo:RS→Option (Bool×RS)
 fx:RS→Int→Option (XR×RS)
 fh:RS→Option RS
 fm:RS→Nat→List PV→Option RS
 fy:RS→Option ((Int×Int)×RS)
 fl:RS→Option (VR×RS)
 fn:RS→Option (List UInt8×RS)
def raCall {S:Type}(F:FAt)(a:Int)(w:List UInt8)(star:Bool)(s:RS)(K:XR→RS→Option S):Option S :=
  (F.fo s).bind fun o=>bif !o.1 then K (call0 a w) o.2 else
    (let B:RS→Option S:=fun s=>(F.fx s 0).bind fun e=>(F.fh e.2).bind fun s=>K (callX a w e.1) s
     bif star then (F.fe o.2 [42]).bind fun q=>bif !q.1 then B q.2 else (F.fh q.2).bind fun s=>K (call0 a w) s else B o.2)
end
theorem onPS_bind {R S:Type}{bs:List (List PV)}{k:PS→Option R}{g:R→Option S}:(onPS bs k).bind g=onPS bs (fun s=>(k s).bind g):=by
 unfold onPS
 split
 ·split<;>rfl
 ·rfl
theorem onPS_inv {R:Type}{bs:List (List PV)}{k:PS→Option R}{r:R}(h:onPS bs k=some r):∃ s:PS,bs=[s.box]∧k s=some r:=by
 unfold onPS at h
 split at h
 ·obtain⟨rfl,h⟩:=ite_inv h
  exact⟨_,rfl,h⟩
 ·cases h
theorem onXR_inv {R:Type}{x:PV}{k:XR→Option R}{r:R}(h:onXR x k=some r):∃ e:XR,x=.agg e.cells∧k e=some r:=by
 unfold onXR at h
 split at h
 ·obtain⟨rfl,h⟩:=ite_inv h
  exact⟨_,rfl,h⟩
 ·cases h
theorem onXR_bind {R S:Type}{x:PV}{k:XR→Option R}{g:R→Option S}:(onXR x k).bind g=onXR x (fun s=>(k s).bind g):=by
 unfold onXR
 split
 ·split<;>rfl
 ·rfl
abbrev KR:Type:=List (List PV)→PV→Option (List (List PV)×PV)
section
variable {NG:Nat} {W:World→Prop}
theorem tSI_nat (f:PS→Option (Int×PS)):(tSI f).nat:=by
 intro R bs xs k
 simp only[tSI]
 split
 ·rw[onPS_bind]
  congr 1
  funext s
  rw[Option.bind_assoc]
  rfl
 ·rfl
theorem hok_tSI (hW:WOK NG W){l:List (FuncId×PFn)}(hl:AllOK NG W l){lh:List (FuncId×HFn)}(hh:AllH NG W lh){h:Hints}{f:FuncId}{fn:Func}(hf:Tryz.prog.funcs[f]? = some fn)(hb:fn.body.isSome=true)(hname:fn.name ≠ "runtime.NumGoroutine"){g:PS→Option (Int×PS)}(hr:∀ (s:PS),∃ fu,∀ K:KR,prunH (enH l lh []) h fu fn [s.box] [.ptr 0 0] K=(g s).bind fun r=>K [r.2.box] (.int .i64 r.1)):HOK NG W f (tSI g) :=
 hok hW hl hh allI_nil (h:=h) hf hb hname (tSI_nat g) fun bs xs r h=>by
  simp only[tSI] at h
  split at h
  ·obtain⟨s,rfl,h⟩:=onPS_inv h
   obtain⟨fu,hr⟩:=hr s
   exact⟨fu,(hr _).trans h⟩
  ·cases h
theorem tSU_nat (f:PS→Option PS):(tSU f).nat:=by
 intro R bs xs k
 simp only[tSU]
 split
 ·rw[onPS_bind]
  congr 1
  funext s
  rw[Option.bind_assoc]
  rfl
 ·rfl
theorem hok_tSU (hW:WOK NG W){l:List (FuncId×PFn)}(hl:AllOK NG W l){lh:List (FuncId×HFn)}(hh:AllH NG W lh){h:Hints}{f:FuncId}{fn:Func}(hf:Tryz.prog.funcs[f]? = some fn)(hb:fn.body.isSome=true)(hname:fn.name ≠ "runtime.NumGoroutine"){g:PS→Option PS}(hr:∀ (s:PS),∃ fu,∀ K:KR,prunH (enH l lh []) h fu fn [s.box] [.ptr 0 0] K=(g s).bind fun r=>K [r.box] (.tuple [])):HOK NG W f (tSU g) :=
 hok hW hl hh allI_nil (h:=h) hf hb hname (tSU_nat g) fun bs xs r h=>by
  simp only[tSU] at h
  split at h
  ·obtain⟨s,rfl,h⟩:=onPS_inv h
   obtain⟨fu,hr⟩:=hr s
   exact⟨fu,(hr _).trans h⟩
  ·cases h
theorem tSUi_nat (f:PS→Int→Option PS):(tSUi f).nat:=by
 intro R bs xs k
 simp only[tSUi]
 split
 ·rw[onPS_bind]
  congr 1
  funext s
  rw[Option.bind_assoc]
  rfl
 ·rfl
theorem hok_tSUi (hW:WOK NG W){l:List (FuncId×PFn)}(hl:AllOK NG W l){lh:List (FuncId×HFn)}(hh:AllH NG W lh){h:Hints}{f:FuncId}{fn:Func}(hf:Tryz.prog.funcs[f]? = some fn)(hb:fn.body.isSome=true)(hname:fn.name ≠ "runtime.NumGoroutine"){g:PS→Int→Option PS}(hr:∀ (s:PS) (a:Int),∃ fu,∀ K:KR,prunH (enH l lh []) h fu fn [s.box] [.ptr 0 0,.int .i64 a] K=(g s a).bind fun r=>K [r.box] (.tuple [])):HOK NG W f (tSUi g) :=
 hok hW hl hh allI_nil (h:=h) hf hb hname (tSUi_nat g) fun bs xs r h=>by
  simp only[tSUi] at h
  split at h
  ·obtain⟨s,rfl,h⟩:=onPS_inv h
   obtain⟨fu,hr⟩:=hr s _
   exact⟨fu,(hr _).trans h⟩
  ·cases h
theorem tSUw_nat (f:PS→List UInt8→Option PS):(tSUw f).nat:=by
 intro R bs xs k
 simp only[tSUw]
 split
 ·rw[onPS_bind]
  congr 1
  funext s
  rw[Option.bind_assoc]
  rfl
 ·rfl
theorem hok_tSUw (hW:WOK NG W){l:List (FuncId×PFn)}(hl:AllOK NG W l){lh:List (FuncId×HFn)}(hh:AllH NG W lh){h:Hints}{f:FuncId}{fn:Func}(hf:Tryz.prog.funcs[f]? = some fn)(hb:fn.body.isSome=true)(hname:fn.name ≠ "runtime.NumGoroutine"){g:PS→List UInt8→Option PS}(hr:∀ (s:PS) (w:List UInt8),∃ fu,∀ K:KR,prunH (enH l lh []) h fu fn [s.box] [.ptr 0 0,.str w] K=(g s w).bind fun r=>K [r.box] (.tuple [])):HOK NG W f (tSUw g) :=
 hok hW hl hh allI_nil (h:=h) hf hb hname (tSUw_nat g) fun bs xs r h=>by
  simp only[tSUw] at h
  split at h
  ·obtain⟨s,rfl,h⟩:=onPS_inv h
   obtain⟨fu,hr⟩:=hr s _
   exact⟨fu,(hr _).trans h⟩
  ·cases h
theorem tSBw_nat (f:PS→List UInt8→Option (Bool×PS)):(tSBw f).nat:=by
 intro R bs xs k
 simp only[tSBw]
 split
 ·rw[onPS_bind]
  congr 1
  funext s
  rw[Option.bind_assoc]
  rfl
 ·rfl
theorem hok_tSBw (hW:WOK NG W){l:List (FuncId×PFn)}(hl:AllOK NG W l){lh:List (FuncId×HFn)}(hh:AllH NG W lh){h:Hints}{f:FuncId}{fn:Func}(hf:Tryz.prog.funcs[f]? = some fn)(hb:fn.body.isSome=true)(hname:fn.name ≠ "runtime.NumGoroutine"){g:PS→List UInt8→Option (Bool×PS)}(hr:∀ (s:PS) (w:List UInt8),∃ fu,∀ K:KR,prunH (enH l lh []) h fu fn [s.box] [.ptr 0 0,.str w] K=(g s w).bind fun r=>K [r.2.box] (.bool r.1)):HOK NG W f (tSBw g) :=
 hok hW hl hh allI_nil (h:=h) hf hb hname (tSBw_nat g) fun bs xs r h=>by
  simp only[tSBw] at h
  split at h
  ·obtain⟨s,rfl,h⟩:=onPS_inv h
   obtain⟨fu,hr⟩:=hr s _
   exact⟨fu,(hr _).trans h⟩
  ·cases h
theorem tSBl_nat (f:PS→Nat→List PV→Option (Bool×PS)):(tSBl f).nat:=by
 intro R bs xs k
 simp only[tSBl]
 split
 ·split
  ·rw[onPS_bind]
   congr 1
   funext s
   rw[Option.bind_assoc]
   rfl
  ·rfl
 ·rfl
theorem hok_tSBl (hW:WOK NG W){l:List (FuncId×PFn)}(hl:AllOK NG W l){lh:List (FuncId×HFn)}(hh:AllH NG W lh){h:Hints}{f:FuncId}{fn:Func}(hf:Tryz.prog.funcs[f]? = some fn)(hb:fn.body.isSome=true)(hname:fn.name ≠ "runtime.NumGoroutine"){g:PS→Nat→List PV→Option (Bool×PS)}(hr:∀ (s:PS) (nl:Option Bool) (n:Nat) (ws:List PV),∃ fu,∀ K:KR,prunH (enH l lh []) h fu fn [s.box] [.ptr 0 0,.sl nl 1 n ws] K=(g s n ws).bind fun r=>K [r.2.box] (.bool r.1)):HOK NG W f (tSBl g) :=
 hok hW hl hh allI_nil (h:=h) hf hb hname (tSBl_nat g) fun bs xs r h=>by
  simp only[tSBl] at h
  split at h
  ·obtain⟨hz,h2⟩:=ite_inv h
   subst hz
   obtain⟨s,rfl,h⟩:=onPS_inv h2
   obtain⟨fu,hr⟩:=hr s _ _ _
   exact⟨fu,(hr _).trans h⟩
  ·cases h
theorem tSBk_nat (f:PS→Int→Nat→List PV→Option (Bool×PS)):(tSBk f).nat:=by
 intro R bs xs k
 simp only[tSBk]
 split
 ·split
  ·rw[onPS_bind]
   congr 1
   funext s
   rw[Option.bind_assoc]
   rfl
  ·rfl
 ·rfl
theorem hok_tSBk (hW:WOK NG W){l:List (FuncId×PFn)}(hl:AllOK NG W l){lh:List (FuncId×HFn)}(hh:AllH NG W lh){h:Hints}{f:FuncId}{fn:Func}(hf:Tryz.prog.funcs[f]? = some fn)(hb:fn.body.isSome=true)(hname:fn.name ≠ "runtime.NumGoroutine"){g:PS→Int→Nat→List PV→Option (Bool×PS)}(hr:∀ (s:PS) (a:Int) (nl:Option Bool) (n:Nat) (ws:List PV),∃ fu,∀ K:KR,prunH (enH l lh []) h fu fn [s.box] [.ptr 0 0,.int .i64 a,.sl nl 1 n ws] K=(g s a n ws).bind fun r=>K [r.2.box] (.bool r.1)):HOK NG W f (tSBk g) :=
 hok hW hl hh allI_nil (h:=h) hf hb hname (tSBk_nat g) fun bs xs r h=>by
  simp only[tSBk] at h
  split at h
  ·obtain⟨hz,h2⟩:=ite_inv h
   subst hz
   obtain⟨s,rfl,h⟩:=onPS_inv h2
   obtain⟨fu,hr⟩:=hr s _ _ _ _
   exact⟨fu,(hr _).trans h⟩
  ·cases h
theorem tST_nat (f:PS→Option (TR×PS)):(tST f).nat:=by
 intro R bs xs k
 simp only[tST]
 split
 ·rw[onPS_bind]
  congr 1
  funext s
  rw[Option.bind_assoc]
  rfl
 ·rfl
theorem hok_tST (hW:WOK NG W){l:List (FuncId×PFn)}(hl:AllOK NG W l){lh:List (FuncId×HFn)}(hh:AllH NG W lh){h:Hints}{f:FuncId}{fn:Func}(hf:Tryz.prog.funcs[f]? = some fn)(hb:fn.body.isSome=true)(hname:fn.name ≠ "runtime.NumGoroutine"){g:PS→Option (TR×PS)}(hr:∀ (s:PS),∃ fu,∀ K:KR,prunH (enH l lh []) h fu fn [s.box] [.ptr 0 0] K=(g s).bind fun r=>K [r.2.box] (.agg r.1.cells)):HOK NG W f (tST g) :=
 hok hW hl hh allI_nil (h:=h) hf hb hname (tST_nat g) fun bs xs r h=>by
  simp only[tST] at h
  split at h
  ·obtain⟨s,rfl,h⟩:=onPS_inv h
   obtain⟨fu,hr⟩:=hr s
   exact⟨fu,(hr _).trans h⟩
  ·cases h
theorem tSS_nat (f:PS→Option (List UInt8×PS)):(tSS f).nat:=by
 intro R bs xs k
 simp only[tSS]
 split
 ·rw[onPS_bind]
  congr 1
  funext s
  rw[Option.bind_assoc]
  rfl
 ·rfl
theorem hok_tSS (hW:WOK NG W){l:List (FuncId×PFn)}(hl:AllOK NG W l){lh:List (FuncId×HFn)}(hh:AllH NG W lh){h:Hints}{f:FuncId}{fn:Func}(hf:Tryz.prog.funcs[f]? = some fn)(hb:fn.body.isSome=true)(hname:fn.name ≠ "runtime.NumGoroutine"){g:PS→Option (List UInt8×PS)}(hr:∀ (s:PS),∃ fu,∀ K:KR,prunH (enH l lh []) h fu fn [s.box] [.ptr 0 0] K=(g s).bind fun r=>K [r.2.box] (.str r.1)):HOK NG W f (tSS g) :=
 hok hW hl hh allI_nil (h:=h) hf hb hname (tSS_nat g) fun bs xs r h=>by
  simp only[tSS] at h
  split at h
  ·obtain⟨s,rfl,h⟩:=onPS_inv h
   obtain⟨fu,hr⟩:=hr s
   exact⟨fu,(hr _).trans h⟩
  ·cases h
theorem tSIi_nat (f:PS→Int→Option (Int×PS)):(tSIi f).nat:=by
 intro R bs xs k
 simp only[tSIi]
 split
 ·rw[onPS_bind]
  congr 1
  funext s
  rw[Option.bind_assoc]
  rfl
 ·rfl
theorem hok_tSIi (hW:WOK NG W){l:List (FuncId×PFn)}(hl:AllOK NG W l){lh:List (FuncId×HFn)}(hh:AllH NG W lh){h:Hints}{f:FuncId}{fn:Func}(hf:Tryz.prog.funcs[f]? = some fn)(hb:fn.body.isSome=true)(hname:fn.name ≠ "runtime.NumGoroutine"){g:PS→Int→Option (Int×PS)}(hr:∀ (s:PS) (a:Int),∃ fu,∀ K:KR,prunH (enH l lh []) h fu fn [s.box] [.ptr 0 0,.int .i64 a] K=(g s a).bind fun r=>K [r.2.box] (.int .i64 r.1)):HOK NG W f (tSIi g) :=
 hok hW hl hh allI_nil (h:=h) hf hb hname (tSIi_nat g) fun bs xs r h=>by
  simp only[tSIi] at h
  split at h
  ·obtain⟨s,rfl,h⟩:=onPS_inv h
   obtain⟨fu,hr⟩:=hr s _
   exact⟨fu,(hr _).trans h⟩
  ·cases h
theorem tSY_nat (f:PS→Option ((Int×Int)×PS)):(tSY f).nat:=by
 intro R bs xs k
 simp only[tSY]
 split
 ·rw[onPS_bind]
  congr 1
  funext s
  rw[Option.bind_assoc]
  rfl
 ·rfl
theorem hok_tSY (hW:WOK NG W){l:List (FuncId×PFn)}(hl:AllOK NG W l){lh:List (FuncId×HFn)}(hh:AllH NG W lh){h:Hints}{f:FuncId}{fn:Func}(hf:Tryz.prog.funcs[f]? = some fn)(hb:fn.body.isSome=true)(hname:fn.name ≠ "runtime.NumGoroutine"){g:PS→Option ((Int×Int)×PS)}(hr:∀ (s:PS),∃ fu,∀ K:KR,prunH (enH l lh []) h fu fn [s.box] [.ptr 0 0] K=(g s).bind fun r=>K [r.2.box] (.agg [.int .i64 r.1.1,.int .i64 r.1.2])):HOK NG W f (tSY g) :=
 hok hW hl hh allI_nil (h:=h) hf hb hname (tSY_nat g) fun bs xs r h=>by
  simp only[tSY] at h
  split at h
  ·obtain⟨s,rfl,h⟩:=onPS_inv h
   obtain⟨fu,hr⟩:=hr s
   exact⟨fu,(hr _).trans h⟩
  ·cases h
theorem tSL_nat (f:PS→Option (VR×PS)):(tSL f).nat:=by
 intro R bs xs k
 simp only[tSL]
 split
 ·rw[onPS_bind]
  congr 1
  funext s
  rw[Option.bind_assoc]
  rfl
 ·rfl
theorem hok_tSL (hW:WOK NG W){l:List (FuncId×PFn)}(hl:AllOK NG W l){lh:List (FuncId×HFn)}(hh:AllH NG W lh){h:Hints}{f:FuncId}{fn:Func}(hf:Tryz.prog.funcs[f]? = some fn)(hb:fn.body.isSome=true)(hname:fn.name ≠ "runtime.NumGoroutine"){g:PS→Option (VR×PS)}(hr:∀ (s:PS),∃ fu,∀ K:KR,prunH (enH l lh []) h fu fn [s.box] [.ptr 0 0] K=(g s).bind fun r=>K [r.2.box] (.tuple [.agg [.int .i64 r.1.vk,.int .i64 r.1.vn,.int .i64 r.1.vc,.str r.1.vs],.bool r.1.ok])):HOK NG W f (tSL g) :=
 hok hW hl hh allI_nil (h:=h) hf hb hname (tSL_nat g) fun bs xs r h=>by
  simp only[tSL] at h
  split at h
  ·obtain⟨s,rfl,h⟩:=onPS_inv h
   obtain⟨fu,hr⟩:=hr s
   exact⟨fu,(hr _).trans h⟩
  ·cases h
theorem tSX_nat (f:PS→Option (XR×PS)):(tSX f).nat:=by
 intro R bs xs k
 simp only[tSX]
 split
 ·rw[onPS_bind]
  congr 1
  funext s
  rw[Option.bind_assoc]
  rfl
 ·rfl
theorem hok_tSX (hW:WOK NG W){l:List (FuncId×PFn)}(hl:AllOK NG W l){lh:List (FuncId×HFn)}(hh:AllH NG W lh){h:Hints}{f:FuncId}{fn:Func}(hf:Tryz.prog.funcs[f]? = some fn)(hb:fn.body.isSome=true)(hname:fn.name ≠ "runtime.NumGoroutine"){g:PS→Option (XR×PS)}(hr:∀ (s:PS),∃ fu,∀ K:KR,prunH (enH l lh []) h fu fn [s.box] [.ptr 0 0] K=(g s).bind fun r=>K [r.2.box] (.agg r.1.cells)):HOK NG W f (tSX g) :=
 hok hW hl hh allI_nil (h:=h) hf hb hname (tSX_nat g) fun bs xs r h=>by
  simp only[tSX] at h
  split at h
  ·obtain⟨s,rfl,h⟩:=onPS_inv h
   obtain⟨fu,hr⟩:=hr s
   exact⟨fu,(hr _).trans h⟩
  ·cases h
theorem none_tSX {f:FuncId}:HOK NG W f (tSX fun _=>none) where
 nat:=tSX_nat _
 call:=by
  intro M β bs xs vs bs' r _ _ _ _ _ h
  simp only[tSX] at h
  split at h
  ·obtain⟨s,_,h⟩:=onPS_inv h
   cases h
  ·cases h
theorem tSXi_nat (f:PS→Int→Option (XR×PS)):(tSXi f).nat:=by
 intro R bs xs k
 simp only[tSXi]
 split
 ·rw[onPS_bind]
  congr 1
  funext s
  rw[Option.bind_assoc]
  rfl
 ·rfl
theorem none_tSXi {f:FuncId}:HOK NG W f (tSXi fun _ _=>none) where
 nat:=tSXi_nat _
 call:=by
  intro M β bs xs vs bs' r _ _ _ _ _ h
  simp only[tSXi] at h
  split at h
  ·obtain⟨s,_,h⟩:=onPS_inv h
   cases h
  ·cases h
theorem tWi_nat (f:List UInt8→Option Int):(tWi f).nat:=by
 intro R xs k
 simp only[tWi]
 split
 ·rw[Option.bind_assoc]
  rfl
 ·rfl
theorem fok_tWi (hW:WOK NG W){l:List (FuncId×PFn)}(hl:AllOK NG W l){lh:List (FuncId×HFn)}(hh:AllH NG W lh){h:Hints}{f:FuncId}{fn:Func}(hf:Tryz.prog.funcs[f]? = some fn)(hb:fn.body.isSome=true)(hname:fn.name ≠ "runtime.NumGoroutine"){g:List UInt8→Option Int}(hr:∀ (s:List UInt8),∃ fu,prun (enH l lh []) h fu false fn [.str s]=(g s).bind fun b=>some (.int .i64 b)):FOK NG W f (tWi g) :=
 fokH hW hl hh allI_nil (h:=h) hf hb hname (tWi_nat g) fun xs r h=>by
  simp only[tWi] at h
  split at h
  ·obtain⟨fu,hr⟩:=hr _
   exact⟨fu,hr.trans h⟩
  ·cases h
theorem tWV_nat (f:List UInt8→Option VR):(tWV f).nat:=by
 intro R xs k
 simp only[tWV]
 split
 ·rw[Option.bind_assoc]
  rfl
 ·rfl
theorem fok_tWV (hW:WOK NG W){l:List (FuncId×PFn)}(hl:AllOK NG W l){lh:List (FuncId×HFn)}(hh:AllH NG W lh){h:Hints}{f:FuncId}{fn:Func}(hf:Tryz.prog.funcs[f]? = some fn)(hb:fn.body.isSome=true)(hname:fn.name ≠ "runtime.NumGoroutine"){g:List UInt8→Option VR}(hr:∀ (s:List UInt8),∃ fu,prun (enH l lh []) h fu false fn [.str s]=(g s).bind fun b=>some (.tuple [.agg [.int .i64 b.vk,.int .i64 b.vn,.int .i64 b.vc,.str b.vs],.bool b.ok])):FOK NG W f (tWV g) :=
 fokH hW hl hh allI_nil (h:=h) hf hb hname (tWV_nat g) fun xs r h=>by
  simp only[tWV] at h
  split at h
  ·obtain⟨fu,hr⟩:=hr _
   exact⟨fu,hr.trans h⟩
  ·cases h
theorem tLx_nat (f:List UInt8→Option LX):(tLx f).nat:=by
 intro R xs k
 simp only[tLx]
 split
 ·rw[Option.bind_assoc]
  rfl
 ·rfl
end
end Go.Proofs.YtkpfigikffphdaaGreatDoor
end
section
namespace Go.Proofs.YtkpfigikffphdaaGreatDoor
open Go.RowKit
theorem flat_at {α:Type}{f:α→List PV}{sz:Nat}(hf:∀ x,(f x).length=sz):∀ {l:List α} {i:Nat} {x:α},l[i]? = some x→((l.flatMap f).drop (i * sz)).take sz=f x
 |y::l,0,x,h=>by
  simp only[List.getElem?_cons_zero,Option.some.injEq] at h
  subst h
  rw[Nat.zero_mul,List.drop_zero,List.flatMap_cons,← hf y,List.take_left]
 |y::l,i+1,x,h=>by
  simp only[List.getElem?_cons_succ] at h
  rw[List.flatMap_cons,Nat.add_mul,Nat.one_mul,Nat.add_comm,← List.drop_drop,← hf y,List.drop_left,hf y]
  exact flat_at hf h
def decG {α:Type}(sz:Nat)(g:List PV→Option α):Nat→List PV→Option (List α)
 |0,[]=>some []
 |0,_::_=>none
 |n+1,c=>(g (c.take sz)).bind fun x=>(decG sz g n (c.drop sz)).map (x :: ·)
theorem decG_of {α:Type}{sz:Nat}{g:List PV→Option α}{f:α→List PV}(hf:∀ x,(f x).length=sz)(hg:∀ x,g (f x)=some x):∀ (l:List α),decG sz g l.length (l.flatMap f)=some l
 |[]=>rfl
 |x::l=>by
  rw[List.length_cons,List.flatMap_cons,decG,← hf x,List.take_left,List.drop_left,hg x,hf x,Option.bind_some,decG_of hf hg l]
  rfl
theorem decG_inv {α:Type}{sz:Nat}{g:List PV→Option α}{f:α→List PV}(hg:∀ c x,g c=some x→c=f x):∀ {n:Nat} {c:List PV} {l:List α},decG sz g n c=some l→n=l.length∧c=l.flatMap f
 |0,[],l,h=>by injection h with h;subst h;exact⟨rfl,rfl⟩
 |0,_::_,l,h=>by cases h
 |n+1,c,l,h=>by
  rw[decG] at h
  obtain⟨x,h1,h2⟩:=Option.bind_eq_some_iff.1 h
  obtain⟨t,h3,rfl⟩:=Option.map_eq_some_iff.1 h2
  obtain⟨rfl,h4⟩:=decG_inv hg h3
  refine⟨rfl,?_⟩
  rw[List.flatMap_cons,← hg _ _ h1,← h4,List.take_append_drop]
end Go.Proofs.YtkpfigikffphdaaGreatDoor
end
section
set_option maxRecDepth 100000
namespace Go.Proofs.YtkpfigikffphdaaGreatDoor
open Go.RowKit
theorem cond_bindo {α β:Type}{b:Bool}{x y:Option α}{k:α→Option β}:(bif b then x else y).bind k=bif b then x.bind k else y.bind k:=by cases b<;>rfl
theorem chk_bind {α β:Type}{b:Bool}{x:Option α}{k:α→Option β}:(chk b x).bind k=chk b (x.bind k):=by cases b<;>rfl
theorem hdI_bind {α β:Type}{cs:List PV}{j:Nat}{kk:Int→Option α}{k:α→Option β}:(hdI cs j kk).bind k=hdI cs j fun a=>(kk a).bind k:=by simp only[hdI,Option.bind_assoc]
theorem hdS_bind {α β:Type}{cs:List PV}{j:Nat}{kk:List UInt8→Option α}{k:α→Option β}:(hdS cs j kk).bind k=hdS cs j fun a=>(kk a).bind k:=by simp only[hdS,Option.bind_assoc]
theorem hdJ_bind {α β:Type}{cs:List PV}{j:Nat}{kk:Int→Option α}{k:α→Option β}:(hdJ cs j kk).bind k=hdJ cs j fun a=>(kk a).bind k:=by simp only[hdJ,Option.bind_assoc]
theorem hdT_bind {α β:Type}{cs:List PV}{kk:TR→Option α}{k:α→Option β}:(hdT cs kk).bind k=hdT cs fun a=>(kk a).bind k:=by simp only[hdT,hdI,Option.bind_assoc]
def stC (a:List UInt8):List PV:=[.str a]
def stG:List PV→Option (List UInt8)
 |[.str a]=>some a
 |_=>none
def isI:List (List UInt8)→List UInt8→Int→Int
 |[],_,_=>-1
 |a::l,s,i=>bif s==a then i else isI l s (i+1)
def conA (l:List (List UInt8))(s:List UInt8):Bool:=l.any fun a=>s==a
def conN (n:Nat)(c:List PV)(s:List UInt8):Option Bool:=(decG 1 stG n c).bind fun l=>bif decide (l.length≤1000000) then some (conA l s) else none
def idxN (n:Nat)(c:List PV)(s:List UInt8):Option Int:=(decG 1 stG n c).bind fun l=>bif decide (l.length≤1000000) then some (isI l s 0) else none
def atP (s:PS):Option (Int×PS):=bif ((s.n:Int)==0) then some (s.e,s) else chk (decide ((0:Int)≤0)&&decide ((0:Int)<s.n)) (hdI s.cs 1 fun a=>some (a,s))
def failAtP (s:PS)(a:Int):Option PS:=bif decide (s.b<0) then some ⟨some true,0,[],s.e,s.o,a⟩ else some s
def flP (s:PS):Option PS:=(atP s).bind fun r=>(failAtP r.2 r.1).bind fun s=>some s
def isP (s:PS)(a:Int)(n:Nat)(ws:List PV):Option (Bool×PS) :=
 bif decide ((0:Int)<s.n) then chk (decide ((0:Int)≤0)&&decide ((0:Int)<s.n)) (hdI s.cs 0 fun k=>bif k==a then chk (decide ((0:Int)≤0)&&decide ((0:Int)<s.n)) (hdS s.cs 2 fun w=>(conN n ws w).bind fun r=>some (r,s)) else some (false,s)) else some (false,s)
def keyP (s:PS)(w:List UInt8):Option (Bool×PS):=(isP s 1 1 [.str w]).bind fun r=>some (r.1,r.2)
def signP (s:PS)(n:Nat)(ws:List PV):Option (Bool×PS):=(isP s 3 n ws).bind fun r=>some (r.1,r.2)
def takeP (s:PS):Option (TR×PS) :=
 bif ((s.n:Int)==0) then (flP s).bind fun s=>some (TR.zero,s) else chk (decide ((0:Int)≤0)&&decide ((0:Int)<s.n)) (hdT s.cs fun t=>chk (decide ((0:Int)≤1)&&decide ((1:Int)≤s.n)) (some (t,⟨s.nl,s.n-1,(s.cs.take (s.n * 7)).drop (1 * 7),s.e,s.o,s.b⟩)))
def skipP (s:PS)(w:List UInt8):Option (Bool×PS):=(keyP s w).bind fun r=>bif !r.1 then some (false,r.2) else (takeP r.2).bind fun q=>some (true,q.2)
def wantSignP (s:PS)(w:List UInt8):Option PS:=(signP s 1 [.str w]).bind fun r=>bif !r.1 then (flP r.2).bind fun s=>some s else (takeP r.2).bind fun q=>some q.2
def nameP (s:PS):Option (List UInt8×PS) :=
 bif !((s.n:Int)==0) then chk (decide ((0:Int)≤0)&&decide ((0:Int)<s.n)) (hdI s.cs 0 fun k=>bif k != 0 then (flP s).bind fun s=>some ([],s) else (takeP s).bind fun q=>some (q.1.t,q.2)) else (flP s).bind fun s=>some ([],s)
def numberP (s:PS)(m:Int):Option (Int×PS) :=
 bif !((s.n:Int)==0) then chk (decide ((0:Int)≤0)&&decide ((0:Int)<s.n)) (hdI s.cs 0 fun k=>bif !(k != 2) then
   chk (decide ((0:Int)≤0)&&decide ((0:Int)<s.n)) (hdI s.cs 3 fun vk=>bif !(vk != 2) then
   chk (decide ((0:Int)≤0)&&decide ((0:Int)<s.n)) (hdJ s.cs 1 fun vn=>bif decide (m<vn) then (flP s).bind fun s=>some (0,s) else (takeP s).bind fun q=>some (q.1.vn,q.2))
   else (flP s).bind fun s=>some (0,s)) else (flP s).bind fun s=>some (0,s)) else (flP s).bind fun s=>some (0,s)
def tyWs:List PV:=[.str [],.str [66,79,79,76],.str [73,78,84],.str [68,69,67,73,77,65,76],.str [84,69,88,84],.str [66,89,84,69,83]]
def kindP (w:List UInt8):Option Int:=(idxN 6 tyWs w).bind fun i=>some (if 0>i then 0 else i)
def wordV (w:List UInt8):Option VR :=
 bif w==[84,82,85,69] then (bif w==[84,82,85,69] then (bif w==[84,82,85,69] then some ⟨1,1,0,[],true⟩ else some ⟨1,0,0,[],true⟩) else some ⟨0,0,0,[],w==[78,85,76,76]⟩) else bif w==[70,65,76,83,69] then (bif w==[84,82,85,69] then some ⟨1,1,0,[],true⟩ else some ⟨1,0,0,[],true⟩) else some ⟨0,0,0,[],w==[78,85,76,76]⟩
def literalP (s:PS):Option (VR×PS) :=
 bif ((s.n:Int)==0) then some (⟨0,0,0,[],false⟩,s) else chk (decide ((0:Int)≤0)&&decide ((0:Int)<s.n)) (hdT s.cs fun t =>
   bif t.k==2 then (takeP s).bind fun q=>some (⟨t.vk,t.vn,t.vc,t.vs,true⟩,q.2) else
   (wordV t.t).bind fun v=>bif (bif t.k != 1 then true else !v.ok) then some (⟨0,0,0,[],false⟩,s) else (takeP s).bind fun q=>some (⟨v.vk,v.vn,v.vc,v.vs,true⟩,q.2))
def typedP (s:PS):Option ((Int×Int)×PS) :=
 bif !((s.n:Int)==0) then chk (decide ((0:Int)≤0)&&decide ((0:Int)<s.n)) (hdI s.cs 0 fun k=>bif !(k != 1) then
   chk (decide ((0:Int)≤0)&&decide ((0:Int)<s.n)) (hdS s.cs 2 fun w=>(kindP w).bind fun j=>bif j==0 then (flP s).bind fun s=>some ((0,0),s) else
   (takeP s).bind fun q=>(kindP q.1.t).bind fun j=>bif j==3 then (wantSignP q.2 [40]).bind fun s=>(numberP s 6).bind fun m=>(wantSignP m.2 [41]).bind fun s=>some ((j,m.1),s) else some ((j,0),q.2))
   else (flP s).bind fun s=>some ((0,0),s)) else (flP s).bind fun s=>some ((0,0),s)
def wantL:List (List UInt8)→PS→Option PS
 |[],s=>some s
 |w::ws,s=>(skipP s w).bind fun r=>bif !r.1 then (flP r.2).bind fun s=>wantL ws s else wantL ws r.2
structure PDeps (NG:Nat)(W:World→Prop)(fF:List UInt8→Option (Option Bool×Nat×List PV)):Prop where
 w:WOK NG W
 idx:FOK NG W 230 (tCi idxN)
 con:FOK NG W 184 (tCn conN)
 fields:FOK NG W 198 (tWs fF)
 bool:FOK NG W 277 (evalFn [] hh0 0 Tryz.f277)
section
variable {NG:Nat} {W:World→Prop} {fF:List UInt8→Option (Option Bool × Nat × List PV)} (D:PDeps NG W fF)
include D
theorem ok_at:HOK NG W 96 (tSI atP):=hok_tSI D.w allOK_nil allH_nil Tryz.func96 rfl (by decide) fun s=>⟨0,fun K=>(at_raw 0 s K).trans (by simp only[atP,cond_bindo,chk_bind,hdI_bind,Option.bind_some])⟩
theorem ok_failAt:HOK NG W 95 (tSUi failAtP):=hok_tSUi D.w allOK_nil allH_nil Tryz.func95 rfl (by decide) fun s a=>⟨0,fun K=>(failAt_raw 0 s a K).trans (by simp only[failAtP,cond_bindo,Option.bind_some])⟩
theorem ok_fail:HOK NG W 52 (tSU flP):=hok_tSU D.w allOK_nil (allH_cons (ok_at D) (allH_cons (ok_failAt D) allH_nil)) Tryz.func52 rfl (by decide) fun s=>⟨0,fun K=>(fail_raw _ _ 0 s K).trans (by simp only[flP,Option.bind_assoc,Option.bind_some])⟩
theorem ok_is:HOK NG W 101 (tSBk isP):=hok_tSBk D.w (allOK_cons D.con allOK_nil) allH_nil Tryz.func101 rfl (by decide) fun s a nl n ws=>⟨0,fun K=>(is_raw _ 0 s a nl n ws K).trans (by simp only[isP,cond_bindo,chk_bind,hdI_bind,hdS_bind,Option.bind_assoc,Option.bind_some])⟩
theorem ok_key:HOK NG W 114 (tSBw keyP):=hok_tSBw D.w allOK_nil (allH_cons (ok_is D) allH_nil) Tryz.func114 rfl (by decide) fun s w=>⟨0,fun K=>(key_raw _ 0 s w K).trans (by simp only[keyP,Option.bind_assoc,Option.bind_some])⟩
theorem ok_sign:HOK NG W 128 (tSBl signP):=hok_tSBl D.w allOK_nil (allH_cons (ok_is D) allH_nil) Tryz.func128 rfl (by decide) fun s nl n ws=>⟨0,fun K=>(sign_raw _ 0 s nl n ws K).trans (by simp only[signP,Option.bind_assoc,Option.bind_some])⟩
theorem ok_take:HOK NG W 102 (tST takeP):=hok_tST D.w allOK_nil (allH_cons (ok_fail D) allH_nil) Tryz.func102 rfl (by decide) fun s=>⟨0,fun K=>(take_raw _ 0 s K).trans (by simp only[takeP,cond_bindo,chk_bind,hdT_bind,Option.bind_assoc,Option.bind_some])⟩
theorem ok_skip:HOK NG W 64 (tSBw skipP):=hok_tSBw D.w allOK_nil (allH_cons (ok_key D) (allH_cons (ok_take D) allH_nil)) Tryz.func64 rfl (by decide) fun s w=>⟨0,fun K=>(skip_raw _ _ 0 s w K).trans (by simp only[skipP,cond_bindo,Option.bind_assoc,Option.bind_some])⟩
theorem ok_wantSign:HOK NG W 126 (tSUw wantSignP):=hok_tSUw D.w allOK_nil (allH_cons (ok_sign D) (allH_cons (ok_fail D) (allH_cons (ok_take D) allH_nil))) Tryz.func126 rfl (by decide) fun s w=>⟨0,fun K=>(wantSign_raw _ _ _ 0 s w K).trans (by simp only[wantSignP,cond_bindo,Option.bind_assoc,Option.bind_some])⟩
theorem ok_name:HOK NG W 115 (tSS nameP):=hok_tSS D.w allOK_nil (allH_cons (ok_fail D) (allH_cons (ok_take D) allH_nil)) Tryz.func115 rfl (by decide) fun s=>⟨0,fun K=>(name_raw _ _ 0 s K).trans (by simp only[nameP,cond_bindo,chk_bind,hdI_bind,Option.bind_assoc,Option.bind_some])⟩
theorem ok_pnumber:HOK NG W 135 (tSIi numberP):=hok_tSIi D.w allOK_nil (allH_cons (ok_fail D) (allH_cons (ok_take D) allH_nil)) Tryz.func135 rfl (by decide) fun s a=>⟨0,fun K=>(number_raw _ _ 0 s a K).trans (by simp only[numberP,cond_bindo,chk_bind,hdI_bind,hdJ_bind,Option.bind_assoc,Option.bind_some])⟩
theorem ok_kind:FOK NG W 200 (tWi kindP):=fok_tWi D.w (allOK_cons D.idx allOK_nil) allH_nil Tryz.func200 rfl (by decide) fun s=>⟨0,(kind_raw _ 0 s).trans (by simp only[kindP,tyWs,Option.bind_assoc,Option.bind_some])⟩
theorem ok_word:FOK NG W 256 (tWV wordV):=fok_tWV D.w (allOK_cons D.bool allOK_nil) allH_nil Tryz.func256 rfl (by decide) fun s=>⟨0,(word_raw 0 s).trans (by simp only[wordV,wordA,wordZ,cond_bindo,Option.bind_some])⟩
theorem ok_literal:HOK NG W 229 (tSL literalP):=hok_tSL D.w (allOK_cons (ok_word D) allOK_nil) (allH_cons (ok_take D) allH_nil) Tryz.func229 rfl (by decide) fun s=>⟨0,fun K=>(literal_raw _ _ 0 s K).trans (by simp only[literalP,cond_bindo,chk_bind,hdT_bind,Option.bind_assoc,Option.bind_some])⟩
theorem ok_typed:HOK NG W 120 (tSY typedP):=hok_tSY D.w (allOK_cons (ok_kind D) allOK_nil) (allH_cons (ok_fail D) (allH_cons (ok_take D) (allH_cons (ok_wantSign D) (allH_cons (ok_pnumber D) allH_nil)))) Tryz.func120 rfl (by decide) fun s=>⟨0,fun K=>(typed_raw _ _ _ _ _ 0 s K).trans (by simp only[typedP,cond_bindo,chk_bind,hdI_bind,hdS_bind,Option.bind_assoc,Option.bind_some])⟩
end
def wantP (fF:List UInt8→Option (Option Bool×Nat×List PV))(s:PS)(w:List UInt8):Option PS:=(fF w).bind fun r=>(decG 1 stG r.2.1 r.2.2).bind fun l=>bif decide (l.length≤1000000) then wantL l s else none
theorem stC_len (a:List UInt8):(stC a).length=1:=rfl
theorem stG_inv (l:List PV)(a:List UInt8)(h:stG l=some a):l=stC a:=by
 unfold stG at h
 split at h
 ·injection h with h;subst h;rfl
 ·cases h
theorem wa_loop (ff:List UInt8→Option (Option Bool×Nat×List PV))(fu:Nat)(nl:Option Bool)(l:List (List UInt8))(hl:l.length≤1000000)(K:KR):∀ (k i n:Nat) (s:PS),i+k=l.length→k<n →
  waL ff skipP flP fu K n (frWa nl l.length (l.flatMap stC) (l.length:Int) (i:Int) s)=(wantL (l.drop i) s).bind fun s=>K [s.box] (.tuple [])
 |k,i,0,s,_,h=>by omega
 |0,i,n+1,s,hi,hn=>by
  unfold waL
  rw[loopK_succ,wa_step,cond_f (decide_eq_false (by omega)),List.drop_of_length_le (by omega)]
  rfl
 |k+1,i,n+1,s,hi,hn=>by
  have hc:=List.getElem?_eq_getElem (l:=l) (i:=i) (by omega)
  rw[List.drop_eq_getElem_cons (show i<l.length by omega)]
  generalize l[i]=a at hc
  have ih:=fun s=>wa_loop ff fu nl l hl K k (i+1) n s (by omega) (by omega)
  unfold waL at ih ⊢
  rw[loopK_succ,wa_step,cond_t (decide_eq_true (by omega)),chk,cond_t (by rw[decide_eq_true (by omega),decide_eq_true (by omega)];rfl),Int.toNat_natCast,flat_at stC_len hc,wrapI_of (by omega) (by omega)]
  simp only[stC,List.head?_cons,Option.bind_some,PV.asStr,wantL]
  rw[Option.bind_assoc]
  congr 1
  funext r
  rw[cond_bindo,Option.bind_assoc]
  have e:((i:Int)+1)=((i+1:Nat):Int):=by omega
  rw[e]
  congr 1
  ·congr 1
   funext s
   exact ih s
  ·exact ih r.2
structure PF where
 chain:PS→Int→Option (XR×PS)
 neg:PS→Option (XR×PS)
 comp:PS→Option (XR×PS)
 sum:PS→Option (XR×PS)
 fact:PS→Option (XR×PS)
 atom:PS→Option (XR×PS)
 cast:PS→Option (XR×PS)
 call:PS→Option (XR×PS)
 expr:PS→Option (XR×PS)
def chLP (part:PS→Option (XR×PS))(n:Nat):Nat→XR→PS→Option (XR×PS)
 |0,_,_=>none
 |m+1,e,s=>(isP s (levK n) (levW n).length (levW n)).bind fun r=>bif r.1 then (takeP r.2).bind fun t=>(part t.2).bind fun y=>chLP part n m (binX t.1.a t.1.t e y.1) y.2 else some (e,r.2)
def chainQ (P:PF)(n:Nat):PS→Option (XR×PS):=match n with
 |0=>fun s=>P.chain s 1
 |1=>P.neg
 |2=>fun s=>P.chain s 3
 |_=>P.fact
def chainP (P:PF)(s:PS)(a:Int):Option (XR×PS):=if a=0∨a=1∨a=2∨a=3 then (chainQ P a.toNat s).bind fun e=>chLP (chainQ P a.toNat) a.toNat (s.n+2) e.1 e.2 else none
def xs0 (e:XR)(s:PS):Option (XR×PS):=some (e,s)
def pfStep (fF:List UInt8→Option (Option Bool×Nat×List PV))(P:PF):PF where
 chain:=chainP P
 neg := fun s=>(keyP s [78,79,84]).bind fun r=>bif !r.1 then (P.comp r.2).bind fun q=>some (q.1,q.2) else
   deepK flP r.2 (fun s kk=>(takeP s).bind fun t=>(P.neg t.2).bind fun e=>kk (unX t.1.a [78,79,84] e.1) e.2) (fun s=>some (XR.zero,s)) fun x s=>some (x,s)
 fact:=fun s=>(signP s 1 [.str [45]]).bind fun r=>bif !r.1 then (P.atom r.2).bind fun q=>some (q.1,q.2) else
   deepK flP r.2 (fun s kk=>(takeP s).bind fun t=>(P.fact t.2).bind fun e=>kk (unX t.1.a [45] e.1) e.2) (fun s=>some (XR.zero,s)) fun x s=>some (x,s)
 cast:=fun s=>(takeP s).bind fun t=>withinK signP flP takeP wantSignP t.2 (fun s kk=>(P.expr s).bind fun e=>(wantP fF e.2 [65,83]).bind fun s=>(typedP s).bind fun y=>kk (castX t.1.a y.1.1 y.1.2 e.1) y.2) (fun s=>some (XR.zero,s)) fun x s=>some (x,s)
 call:=fun s=>(takeP s).bind fun t=>withinK signP flP takeP wantSignP t.2 (fun s kk=>bif t.1.t==[67,79,85,78,84] then (signP s 1 [.str [42]]).bind fun r=>(bif r.1 then (takeP r.2).bind fun q=>kk (call0 t.1.a t.1.t) q.2 else (P.expr r.2).bind fun e=>kk (callX t.1.a t.1.t e.1) e.2) else (P.expr s).bind fun e=>kk (callX t.1.a t.1.t e.1) e.2)
   (fun s=>some (call0 t.1.a t.1.t,s)) fun x s=>some (x,s)
 atom:=fun s=>(atP s).bind fun a=>(signP a.2 1 [.str [40]]).bind fun r=>bif r.1 then withinK signP flP takeP wantSignP r.2 (fun s kk=>(P.expr s).bind fun e=>kk e.1 e.2) (fun s=>some (XR.zero,s)) (fun x s=>some (x,s)) else
   (keyP r.2 [67,65,83,84]).bind fun r=>bif r.1 then (P.cast r.2).bind fun e=>some (e.1,e.2) else
   (isP r.2 1 4 [.str [67,79,85,78,84],.str [83,85,77],.str [77,73,78],.str [77,65,88]]).bind fun r=>bif r.1 then (P.call r.2).bind fun e=>some (e.1,e.2) else
   (literalP r.2).bind fun v=>bif v.1.ok then some (litX a.1 v.1.vk v.1.vn v.1.vc v.1.vs,v.2) else
   (nameP v.2).bind fun n=>(signP n.2 1 [.str [46]]).bind fun r=>bif r.1 then (takeP r.2).bind fun t=>(nameP t.2).bind fun m=>some (colX a.1 n.1 m.1,m.2) else some (colX a.1 [] n.1,r.2)
 comp:=fun s=>(P.sum s).bind fun e=>(signP e.2 6 cmpW).bind fun r=>bif r.1 then (takeP r.2).bind fun t=>(P.sum t.2).bind fun y=>some (binX t.1.a t.1.t e.1 y.1,y.2) else
   (keyP r.2 [73,83]).bind fun r=>bif !r.1 then some (e.1,r.2) else (takeP r.2).bind fun t=>(skipP t.2 [78,79,84]).bind fun n=>(wantP fF n.2 [78,85,76,76]).bind fun s=>some (nullX t.1.a n.1 e.1,s)
 sum:=fun s=>(P.chain s 2).bind fun e=>some (e.1,e.2)
 expr:=fun s=>(P.chain s 0).bind fun e=>some (e.1,e.2)
def pf0:PF:=⟨fun _ _=>none,fun _=>none,fun _=>none,fun _=>none,fun _=>none,fun _=>none,fun _=>none,fun _=>none,fun _=>none⟩
def pfs (fF:List UInt8→Option (Option Bool×Nat×List PV)):Nat→PF
 |0=>pf0
 |d+1=>pfStep fF (pfs fF d)
theorem ch_eq (P:PF)(n:Nat)(fu:Nat)(K:KR)(hs:∀ (e:XR) (s:PS) (G:St→Option (List (List PV)×PV)),stepK (enCh P.chain P.neg P.fact isP takeP) hCh fu (chKr P.chain P.neg P.fact isP takeP K) fCh [1,1,1,1,1,0,0] (fun _=>none) (frCh n e s) (fun st=>pnorm (hCh.loop.lookup 1) st G) =
   (isP s (levK n) (levW n).length (levW n)).bind fun r=>bif r.1 then (takeP r.2).bind fun t=>(chainQ P n t.2).bind fun y=>G (frCh n (binX t.1.a t.1.t e y.1) y.2) else K [r.2.box] (.agg e.cells)) :
  ∀ (m:Nat) (e:XR) (s:PS) (q:XR×PS),chLP (chainQ P n) n m e s=some q→chL P.chain P.neg P.fact isP takeP fu K m (frCh n e s)=K [q.2.box] (.agg q.1.cells)
 |0,e,s,q,h=>by cases h
 |m+1,e,s,q,h=>by
  unfold chL
  rw[loopK_succ,hs]
  rw[chLP] at h
  obtain⟨r,h1,h⟩:=Option.bind_eq_some_iff.1 h
  rw[h1,Option.bind_some]
  cases hr:r.1 with
  |false =>
   rw[hr,cond_false] at h
   injection h with h
   subst h
   rfl
  |true =>
   rw[hr,cond_true] at h
   obtain⟨t,h2,h⟩:=Option.bind_eq_some_iff.1 h
   obtain⟨y,h3,h⟩:=Option.bind_eq_some_iff.1 h
   rw[cond_true,h2,Option.bind_some,h3,Option.bind_some]
   exact ch_eq P n fu K hs m _ _ q h
theorem hok_chain {NG:Nat}{W:World→Prop}(hW:WOK NG W){P:PF}(hh:AllH NG W (lhCh P.chain P.neg P.fact isP takeP))(hl:FOK NG W 100 vLev):HOK NG W 53 (tSXi (chainP P)) :=
 hok hW (allOK_cons hl allOK_nil) hh allI_nil (h:=hCh) Tryz.func53 rfl (by decide) (tSXi_nat _) fun bs xs r h=>by
  simp only[tSXi] at h
  split at h
  ·rename_i a
   obtain⟨s,hbs,h2⟩:=onPS_inv h
   subst hbs
   obtain⟨q,hq,h3⟩:=Option.bind_eq_some_iff.1 h2
   unfold chainP at hq
   obtain⟨ha,hq⟩:=ite_inv hq
   obtain⟨e,he,hq⟩:=Option.bind_eq_some_iff.1 hq
   refine⟨s.n+2,Eq.trans ?_ h3⟩
   rcases ha with rfl|rfl|rfl|rfl
   ·exact (ch_raw0 P.chain P.neg P.fact isP takeP _ s _).trans (by rw[show P.chain s (IntKind.i64.wrap (0+1))=some e from he,Option.bind_some];exact ch_eq P 0 _ _ (fun e s G=>ch_step0 _ _ _ _ _ _ e s _ G) _ _ _ q hq)
   ·exact (ch_raw1 P.chain P.neg P.fact isP takeP _ s _).trans (by rw[show P.neg s=some e from he,Option.bind_some];exact ch_eq P 1 _ _ (fun e s G=>ch_step1 _ _ _ _ _ _ e s _ G) _ _ _ q hq)
   ·exact (ch_raw2 P.chain P.neg P.fact isP takeP _ s _).trans (by rw[show P.chain s (IntKind.i64.wrap (2+1))=some e from he,Option.bind_some];exact ch_eq P 2 _ _ (fun e s G=>ch_step2 _ _ _ _ _ _ e s _ G) _ _ _ q hq)
   ·exact (ch_raw3 P.chain P.neg P.fact isP takeP _ s _).trans (by rw[show P.fact s=some e from he,Option.bind_some];exact ch_eq P 3 _ _ (fun e s G=>ch_step3 _ _ _ _ _ _ e s _ G) _ _ _ q hq)
  ·cases h
structure POK (NG:Nat)(W:World→Prop)(P:PF):Prop where
 chain:HOK NG W 53 (tSXi P.chain)
 neg:HOK NG W 98 (tSX P.neg)
 comp:HOK NG W 179 (tSX P.comp)
 sum:HOK NG W 224 (tSX P.sum)
 fact:HOK NG W 99 (tSX P.fact)
 atom:HOK NG W 182 (tSX P.atom)
 cast:HOK NG W 227 (tSX P.cast)
 call:HOK NG W 228 (tSX P.call)
 expr:HOK NG W 22 (tSX P.expr)
theorem pok0 {NG:Nat}{W:World→Prop}:POK NG W pf0:=⟨none_tSXi,none_tSX,none_tSX,none_tSX,none_tSX,none_tSX,none_tSX,none_tSX,none_tSX⟩
section
variable {NG:Nat} {W:World→Prop} {fF:List UInt8→Option (Option Bool × Nat × List PV)} (D:PDeps NG W fF)
include D
theorem ok_want:HOK NG W 118 (tSUw (wantP fF)) :=
 hok D.w (allOK_cons D.fields allOK_nil) (allH_cons (ok_skip D) (allH_cons (ok_fail D) allH_nil)) allI_nil (h:=hWa) Tryz.func118 rfl (by decide) (tSUw_nat _) fun bs xs r h=>by
  simp only[tSUw] at h
  split at h
  ·rename_i w
   obtain⟨s,hbs,h2⟩:=onPS_inv h
   subst hbs
   obtain⟨q,hq,h3⟩:=Option.bind_eq_some_iff.1 h2
   unfold wantP at hq
   obtain⟨l0,hl0,hq⟩:=Option.bind_eq_some_iff.1 hq
   obtain⟨l,hl,hq⟩:=Option.bind_eq_some_iff.1 hq
   obtain⟨hle,hq⟩:=bif_inv hq
   obtain⟨e1,e2⟩:=decG_inv stG_inv hl
   refine⟨l.length+1,Eq.trans ?_ h3⟩
   refine (wa_raw fF skipP flP _ s w _).trans ?_
   rw[hl0,Option.bind_some,e1,e2]
   refine (wa_loop fF _ _ l (of_decide_eq_true hle) _ l.length 0 _ s (by omega) (by omega)).trans ?_
   rw[List.drop_zero,hq]
   rfl
  ·cases h
theorem ok_lev:FOK NG W 100 vLev:=evalFn_ok D.w allOK_nil Tryz.func100 rfl (by decide)
theorem ok_deep {ld:List (FuncId×HFn)}(hd:AllH NG W ld):HOK NG W 180 (vDeep flP ld) :=
 evalD_ok D.w allOK_nil (allH_cons (ok_fail D) hd) allI_nil (allD_cons (evalH_dok D.w allOK_nil allH_nil allI_nil Tryz.func225 rfl (by decide)) allD_nil) Tryz.func180 rfl (by decide)
theorem ok_with {ld:List (FuncId×HFn)}(hd:AllH NG W ld):HOK NG W 226 (vWith signP flP takeP wantSignP ld) :=
 evalH_ok D.w allOK_nil (allH_cons (ok_sign D) (allH_cons (ok_fail D) (allH_cons (ok_deep D (allH_cons (evalH_ok D.w allOK_nil (allH_cons (ok_take D) (allH_cons (ok_wantSign D) hd)) allI_nil Tryz.func253 rfl (by decide)) allH_nil)) allH_nil))) allI_nil Tryz.func226 rfl (by decide)
theorem pokS {P:PF}(h:POK NG W P):POK NG W (pfStep fF P) where
 chain:=hok_chain D.w (allH_cons (evalH_ok D.w allOK_nil (allH_cons h.chain allH_nil) allI_nil Tryz.func97 rfl (by decide)) (allH_cons h.neg (allH_cons h.fact (allH_cons (ok_is D) (allH_cons (ok_take D) allH_nil))))) (ok_lev D)
 neg:=hok_tSX D.w allOK_nil (allH_cons (ok_key D) (allH_cons h.comp (allH_cons (ok_deep D (allH_cons (evalH_ok D.w allOK_nil (allH_cons (ok_take D) (allH_cons h.neg allH_nil)) allI_nil Tryz.func181 rfl (by decide)) allH_nil)) allH_nil))) Tryz.func98 rfl (by decide)
  fun s=>⟨0,fun K=>(neg_raw _ _ _ _ _ 0 s K).trans (by simp only[pfStep,deepK,cond_bindo,Option.bind_assoc,Option.bind_some])⟩
 fact:=hok_tSX D.w allOK_nil (allH_cons (ok_sign D) (allH_cons h.atom (allH_cons (ok_deep D (allH_cons (evalH_ok D.w allOK_nil (allH_cons (ok_take D) (allH_cons h.fact allH_nil)) allI_nil Tryz.func183 rfl (by decide)) allH_nil)) allH_nil))) Tryz.func99 rfl (by decide)
  fun s=>⟨0,fun K=>(fact_raw _ _ _ _ _ 0 s K).trans (by simp only[pfStep,deepK,cond_bindo,Option.bind_assoc,Option.bind_some])⟩
 cast:=hok_tSX D.w allOK_nil (allH_cons (ok_take D) (allH_cons (ok_with D (allH_cons (evalH_ok D.w allOK_nil (allH_cons h.expr (allH_cons (ok_want D) (allH_cons (ok_typed D) allH_nil))) allI_nil Tryz.func254 rfl (by decide)) allH_nil)) allH_nil)) Tryz.func227 rfl (by decide)
  fun s=>⟨0,fun K=>(pcast_raw _ _ _ _ _ _ _ 0 s K).trans (by simp only[pfStep,withinK,deepK,cond_bindo,Option.bind_assoc,Option.bind_some])⟩
 call:=hok_tSX D.w allOK_nil (allH_cons (ok_take D) (allH_cons (ok_with D (allH_cons (evalH_ok D.w allOK_nil (allH_cons (ok_sign D) (allH_cons (ok_take D) (allH_cons h.expr allH_nil))) allI_nil Tryz.func255 rfl (by decide)) allH_nil)) allH_nil)) Tryz.func228 rfl (by decide)
  fun s=>⟨0,fun K=>(call_raw _ _ _ _ _ 0 s K).trans (by simp only[pfStep,withinK,deepK,cond_bindo,Option.bind_assoc,Option.bind_some])⟩
 atom:=hok_tSX D.w allOK_nil (allH_cons (ok_at D) (allH_cons (ok_sign D) (allH_cons (ok_with D (allH_cons h.expr allH_nil)) (allH_cons (ok_key D) (allH_cons (ok_is D) (allH_cons h.cast (allH_cons h.call (allH_cons (ok_literal D) (allH_cons (ok_name D) (allH_cons (ok_take D) allH_nil)))))))))) Tryz.func182 rfl (by decide)
  fun s=>⟨0,fun K=>(atom_raw _ _ _ _ _ _ _ _ _ _ _ _ 0 s K).trans (by simp only[pfStep,withinK,deepK,cond_bindo,Option.bind_assoc,Option.bind_some])⟩
 comp:=hok_tSX D.w allOK_nil (allH_cons h.sum (allH_cons (ok_sign D) (allH_cons (ok_take D) (allH_cons (ok_key D) (allH_cons (ok_skip D) (allH_cons (ok_want D) allH_nil)))))) Tryz.func179 rfl (by decide)
  fun s=>⟨0,fun K=>(pcomp_raw _ _ _ _ _ _ 0 s K).trans (by simp only[pfStep,cond_bindo,Option.bind_assoc,Option.bind_some])⟩
 sum:=hok_tSX D.w allOK_nil (allH_cons h.chain allH_nil) Tryz.func224 rfl (by decide)
  fun s=>⟨0,fun K=>(sum_raw _ 0 s K).trans (by simp only[pfStep,Option.bind_assoc,Option.bind_some])⟩
 expr:=hok_tSX D.w allOK_nil (allH_cons h.chain allH_nil) Tryz.func22 rfl (by decide)
  fun s=>⟨0,fun K=>(expr_raw _ 0 s K).trans (by simp only[pfStep,Option.bind_assoc,Option.bind_some])⟩
theorem pok:∀ d,POK NG W (pfs fF d)
 |0=>pok0
 |d+1=>pokS D (pok d)
end
inductive Res (α:Type) where
 |bad (a:Int)
 |ok (x:α) (R:List TR)
def Res.bind {α β:Type}:Res α→(α→List TR→Res β)→Res β
 | .bad a,_=>.bad a
 | .ok x R,k=>k x R
def nxt (e:Int):List TR→Int
 |[]=>e
 |t::_=>t.a
def hdW:List TR→List UInt8
 |[]=>[]
 |t::_=>t.t
def tokIs (a:Int)(ws:List (List UInt8)):List TR→Bool
 |[]=>false
 |t::_=>t.k==a&&conA ws t.t
abbrev wNULL:List UInt8:=[78,85,76,76]
abbrev wTRUE:List UInt8:=[84,82,85,69]
abbrev wFALSE:List UInt8:=[70,65,76,83,69]
abbrev wNOT:List UInt8:=[78,79,84]
abbrev wIS:List UInt8:=[73,83]
abbrev wAS:List UInt8:=[65,83]
abbrev wCAST:List UInt8:=[67,65,83,84]
abbrev wCOUNT:List UInt8:=[67,79,85,78,84]
abbrev wsCall:List (List UInt8):=[wCOUNT,[83,85,77],[77,73,78],[77,65,88]]
abbrev wsCmp:List (List UInt8):=[[61],[60,62],[60],[60,61],[62],[62,61]]
abbrev wsTy:List (List UInt8):=[[],[66,79,79,76],[73,78,84],[68,69,67,73,77,65,76],[84,69,88,84],[66,89,84,69,83]]
abbrev opW (n:Nat):List (List UInt8):=match n with|0=>[[79,82]]|1=>[[65,78,68]]|2=>[[43],[45]]|_=>[[42],[47],[37]]
abbrev opK (n:Nat):Int:=match n with|0=>1|1=>1|_=>3
section
variable (e:Int)
def wantG (a:Int)(w:List UInt8)(T:List TR):Res Unit:=bif tokIs a [w] T then .ok () T.tail else .bad (nxt e T)
def nameG:List TR→Res (List UInt8)
 |[]=>.bad e
 |t::R=>bif t.k==0 then .ok t.t R else .bad t.a
def numG (m:Int):List TR→Res Int
 |[]=>.bad e
 |t::R=>bif t.k==2 then bif t.vk==2 then bif decide (t.vn≤m) then .ok t.vn R else .bad t.a else .bad t.a else .bad t.a
def tyIx (w:List UInt8):Int:=if 0>isI wsTy w 0 then 0 else isI wsTy w 0
def typedG:List TR→Res (Int×Int)
 |[]=>.bad e
 |t::R=>bif t.k==1 then bif tyIx t.t==0 then .bad t.a else bif tyIx t.t==3 then (wantG e 3 [40] R).bind fun _ R=>(numG e 6 R).bind fun n R=>(wantG e 3 [41] R).bind fun _ R=>.ok (tyIx t.t,n) R else .ok (tyIx t.t,0) R else .bad t.a
def litG:List TR→Option VR
 |[]=>none
 |t::_=>bif t.k==2 then some ⟨t.vk,t.vn,t.vc,t.vs,true⟩ else bif t.k==1 then bif t.t==wTRUE then some ⟨1,1,0,[],true⟩ else bif t.t==wFALSE then some ⟨1,0,0,[],true⟩ else bif t.t==wNULL then some ⟨0,0,0,[],true⟩ else none else none
structure GF where
 expr:List TR→Res XR
 neg:List TR→Res XR
 fact:List TR→Res XR
variable (low:Option GF)
def deepG (T:List TR)(body:GF→Res XR):Res XR:=match low with
 |none=>.bad (nxt e T)
 |some G=>body G
def withinG (T:List TR)(body:GF→List TR→Res XR):Res XR :=
 bif tokIs 3 [[40]] T then deepG e low T fun G=>(body G T.tail).bind fun x R=>(wantG e 3 [41] R).bind fun _ R=>.ok x R else .bad (nxt e T)
def castG (T:List TR):Res XR:=withinG e low T.tail fun G R=>(G.expr R).bind fun x R=>(wantG e 1 wAS R).bind fun _ R=>(typedG e R).bind fun y R=>.ok (castX (nxt e T) y.1 y.2 x) R
def callG (T:List TR):Res XR:=withinG e low T.tail fun G R=>bif hdW T==wCOUNT then bif tokIs 3 [[42]] R then .ok (call0 (nxt e T) (hdW T)) R.tail else (G.expr R).bind fun x R=>.ok (callX (nxt e T) (hdW T) x) R else (G.expr R).bind fun x R=>.ok (callX (nxt e T) (hdW T) x) R
def atomG (T:List TR):Res XR :=
 bif tokIs 3 [[40]] T then withinG e low T fun G R=>G.expr R else bif tokIs 1 [wCAST] T then castG e low T else bif tokIs 1 wsCall T then callG e low T else
 match litG T with
 |some v=>.ok (litX (nxt e T) v.vk v.vn v.vc v.vs) T.tail
 |none=>(nameG e T).bind fun n R=>bif tokIs 3 [[46]] R then (nameG e R.tail).bind fun m R=>.ok (colX (nxt e T) n m) R else .ok (colX (nxt e T) [] n) R
def factG (T:List TR):Res XR:=bif tokIs 3 [[45]] T then deepG e low T fun G=>(G.fact T.tail).bind fun x R=>.ok (unX (nxt e T) [45] x) R else atomG e low T
def loopG (n:Nat)(part:List TR→Res XR):Nat→XR→List TR→Res XR
 |0,x,T=>.ok x T
 |m+1,x,T=>bif tokIs (opK n) (opW n) T then (part T.tail).bind fun y R=>loopG n part m (binX (nxt e T) (hdW T) x y) R else .ok x T
def levG (n:Nat)(part:List TR→Res XR)(T:List TR):Res XR:=(part T).bind (loopG e n part 5000)
def mulG:List TR→Res XR:=levG e 3 (factG e low)
def sumG:List TR→Res XR:=levG e 2 (mulG e low)
def cmpG (x:XR)(T:List TR):Res XR :=
 bif tokIs 3 wsCmp T then (sumG e low T.tail).bind fun y R=>.ok (binX (nxt e T) (hdW T) x y) R else
 bif tokIs 1 [wIS] T then (wantG e 1 wNULL (bif tokIs 1 [wNOT] T.tail then T.tail.tail else T.tail)).bind fun _ R=>.ok (nullX (nxt e T) (tokIs 1 [wNOT] T.tail) x) R else .ok x T
def compG (T:List TR):Res XR:=(sumG e low T).bind fun x R=>cmpG e low x R
def negG (T:List TR):Res XR:=bif tokIs 1 [wNOT] T then deepG e low T fun G=>(G.neg T.tail).bind fun x R=>.ok (unX (nxt e T) wNOT x) R else compG e low T
def andG:List TR→Res XR:=levG e 1 (negG e low)
def exprG:List TR→Res XR:=levG e 0 (andG e low)
end
def gfs (e:Int):Nat→Option GF
 |0=>none
 |k+1=>some ⟨exprG e (gfs e k),negG e (gfs e k),factG e (gfs e k)⟩
def greatB:List UInt8→Bool
 |[]=>false
 |c::_=>decide (65≤c.toNat)&&decide (c.toNat≤90)
structure TOKs (T:List TR):Prop where
 len:T.length≤5000
 at0:∀ t∈T,0≤t.a
 key:∀ t∈T,t.k=1→greatB t.t=true
 sign:∀ t∈T,t.k=3→greatB t.t=false
theorem TOKs.suf {T R:List TR}(h:TOKs T)(hs:R <:+ T):TOKs R:=⟨Nat.le_trans hs.length_le h.len,fun t ht=>h.at0 t (hs.subset ht),fun t ht=>h.key t (hs.subset ht),fun t ht=>h.sign t (hs.subset ht)⟩
theorem TOKs.tail {T:List TR}(h:TOKs T):TOKs T.tail:=h.suf (List.tail_suffix T)
theorem TOKs.nxt0 {e:Int}(he:0≤e){T:List TR}(h:TOKs T):0≤nxt e T:=by
 cases T with
 |nil=>exact he
 |cons t R=>exact h.at0 t (List.mem_cons_self ..)
def PG (e:Int)(nl:Option Bool)(o:Int)(T:List TR):PS:=⟨nl,T.length,T.flatMap TR.cells,e,o,-1⟩
def PB (e o a:Int):PS:=⟨some true,0,[],e,o,a⟩
def BadP {α:Type}(e o a:Int)(r:Option (α×PS)):Prop:=∃ y,r=some (y,PB e o a)
def SpecP {α:Type}(e:Int)(nl:Option Bool)(o:Int)(T:List TR)(g:Res α)(r:Option (α×PS)):Prop:=match g with
 | .bad a=>0≤a∧BadP e o a r
 | .ok x R=>R <:+ T∧r=some (x,PG e nl o R)
structure FSpec {α:Type}(e o:Int)(f:PS→Option (α×PS))(g:List TR→Res α):Prop where
 good:∀ nl T,TOKs T→SpecP e nl o T (g T) (f (PG e nl o T))
 badd:∀ a,0≤a→BadP e o a (f (PB e o a))
theorem BadP.ret {α:Type}{e o a:Int}(x:α):BadP e o a (some (x,PB e o a)):=⟨x,rfl⟩
theorem BadP.bind {α β:Type}{e o o' a:Int}{r:Option (α×PS)}{k:α×PS→Option (β×PS)}(h:BadP e o a r)(hk:∀ x,BadP e o' a (k (x,PB e o a))):BadP e o' a (r.bind k):=by
 obtain⟨y,rfl⟩:=h
 exact hk y
theorem SpecP.bind {α β:Type}{e:Int}{nl:Option Bool}{o o':Int}{T:List TR}{g:Res α}{r:Option (α×PS)}{kg:α→List TR→Res β}{k:α×PS→Option (β×PS)}
  (h:SpecP e nl o T g r) (hk:∀ x R,R <:+ T→SpecP e nl o' R (kg x R) (k (x,PG e nl o R))) (hb:∀ x a,0≤a→BadP e o' a (k (x,PB e o a))):SpecP e nl o' T (g.bind kg) (r.bind k):=by
 cases g with
 |bad a =>
  obtain⟨ha,y,rfl⟩:=h
  exact⟨ha,hb y a ha⟩
 |ok x R =>
  obtain⟨hs,rfl⟩:=h
  have:=hk x R hs
  simp only[Res.bind,Option.bind_some]
  unfold SpecP at this ⊢
  split at this
  ·exact this
  ·exact⟨this.1.trans hs,this.2⟩
theorem SpecP.ret {α:Type}{e:Int}{nl:Option Bool}{o:Int}{T:List TR}(x:α):SpecP e nl o T (.ok x T) (some (x,PG e nl o T)):=⟨List.suffix_rfl,rfl⟩
theorem SpecP.suf {α:Type}{e:Int}{nl:Option Bool}{o:Int}{T R:List TR}{g:Res α}{r:Option (α×PS)}(h:SpecP e nl o R g r)(hs:R <:+ T):SpecP e nl o T g r:=by
 unfold SpecP at h ⊢
 split at h
 ·exact h
 ·exact⟨h.1.trans hs,h.2⟩
theorem map_bind {β:Type}{r:Option PS}{k:PS→Option β}:r.bind k=(r.map fun s=>((),s)).bind fun q=>k q.2:=by cases r<;>rfl
section
variable {e:Int} {nl:Option Bool} {o:Int}
theorem atP_g (T:List TR):atP (PG e nl o T)=some (nxt e T,PG e nl o T):=by
 cases T with
 |nil=>rfl
 |cons t R =>
  unfold atP
  rw[cond_f (by rfl),chk,cond_t (by simp[PG])]
  rfl
theorem atP_b (a:Int):atP (PB e o a)=some (e,PB e o a):=rfl
theorem flP_g (T:List TR):flP (PG e nl o T)=some (PB e o (nxt e T)):=by
 unfold flP
 rw[atP_g]
 rfl
theorem flP_b {a:Int}(ha:0≤a):flP (PB e o a)=some (PB e o a):=by
 unfold flP
 rw[atP_b,Option.bind_some]
 unfold failAtP
 rw[cond_f (by exact decide_eq_false (by show ¬ a<0;omega))]
 rfl
theorem lt_cons (t:TR)(R:List TR):(decide ((0:Int)≤0)&&decide ((0:Int)<(PG e nl o (t::R)).n))=true:=by simp[PG]
theorem isP_g {a:Int}{n:Nat}{ws:List PV}{l:List (List UInt8)}(hd:decG 1 stG n ws=some l)(hl:decide (l.length≤1000000)=true)(T:List TR):isP (PG e nl o T) a n ws=some (tokIs a l T,PG e nl o T):=by
 cases T with
 |nil=>rfl
 |cons t R =>
  unfold isP
  rw[cond_t (by simp[PG]),chk,lt_cons,cond_true,chk,cond_true]
  show (bif t.k==a then (conN n ws t.t).bind fun r=>some (r,PG e nl o (t::R)) else some (false,PG e nl o (t::R)))=_
  unfold conN
  rw[tokIs,hd,Option.bind_some,hl,cond_true,Option.bind_some]
  cases t.k==a<;>rfl
theorem isP_b {a b:Int}{n:Nat}{ws:List PV}:isP (PB e o b) a n ws=some (false,PB e o b):=rfl
theorem keyP_g (w:List UInt8)(T:List TR):keyP (PG e nl o T) w=some (tokIs 1 [w] T,PG e nl o T):=by
 unfold keyP
 rw[isP_g (l:=[w]) rfl rfl]
 rfl
theorem keyP_b {w:List UInt8}{b:Int}:keyP (PB e o b) w=some (false,PB e o b):=rfl
theorem signP_g {n:Nat}{ws:List PV}{l:List (List UInt8)}(hd:decG 1 stG n ws=some l)(hl:decide (l.length≤1000000)=true)(T:List TR):signP (PG e nl o T) n ws=some (tokIs 3 l T,PG e nl o T):=by
 unfold signP
 rw[isP_g hd hl]
 rfl
theorem signP_b {n:Nat}{ws:List PV}{b:Int}:signP (PB e o b) n ws=some (false,PB e o b):=rfl
theorem cells_len (t:TR):t.cells.length=7:=rfl
theorem takeP_g (t:TR)(R:List TR):takeP (PG e nl o (t::R))=some (t,PG e nl o R):=by
 unfold takeP
 rw[cond_f (by rfl),chk,lt_cons,cond_true]
 show chk (decide ((0:Int)≤1)&&decide ((1:Int)≤((t::R).length:Nat))) (some (t,(⟨nl,R.length+1-1,(((t::R).flatMap TR.cells).take ((R.length+1) * 7)).drop (1 * 7),e,o,-1⟩:PS)))=_
 rw[chk,cond_t (by simp;omega),List.take_of_length_le (by
  have:∀ l:List TR,(l.flatMap TR.cells).length=l.length * 7:=fun l=>by
   induction l with
   |nil=>rfl
   |cons a l ih=>rw[List.flatMap_cons,List.length_append,ih,cells_len,List.length_cons];omega
  rw[this,List.length_cons]
  exact Nat.le_refl _),List.flatMap_cons]
 rfl
theorem tok_cons {a:Int}{ws:List (List UInt8)}{T:List TR}(h:tokIs a ws T=true):∃ t R,T=t::R:=by
 cases T with
 |nil=>cases h
 |cons t R=>exact⟨t,R,rfl⟩
theorem takeP_t {a:Int}{ws:List (List UInt8)}{T:List TR}(h:tokIs a ws T=true):∃ t,takeP (PG e nl o T)=some (t,PG e nl o T.tail)∧t.a=nxt e T∧t.t=hdW T:=by
 obtain⟨t,R,rfl⟩:=tok_cons h
 exact⟨t,takeP_g t R,rfl,rfl⟩
theorem skipP_g (w:List UInt8)(T:List TR):skipP (PG e nl o T) w=some (tokIs 1 [w] T,PG e nl o (bif tokIs 1 [w] T then T.tail else T)):=by
 unfold skipP
 rw[keyP_g,Option.bind_some]
 cases h:tokIs 1 [w] T with
 |false=>rfl
 |true =>
  obtain⟨t,ht,-⟩:=takeP_t (e:=e) (nl:=nl) (o:=o) h
  simp only[Bool.not_true,cond_false,ht,Option.bind_some,cond_true]
theorem skipP_b {w:List UInt8}{b:Int}:skipP (PB e o b) w=some (false,PB e o b):=rfl
theorem wantSign_g (he:0≤e)(w:List UInt8){T:List TR}(hT:TOKs T):SpecP e nl o T (wantG e 3 w T) ((wantSignP (PG e nl o T) w).map fun s=>((),s)):=by
 unfold wantSignP wantG
 rw[signP_g (l:=[w]) rfl rfl,Option.bind_some]
 cases h:tokIs 3 [w] T with
 |false =>
  rw[show (bif !(false,PG e nl o T).1 then (flP (false,PG e nl o T).2).bind fun s=>some s else (takeP (false,PG e nl o T).2).bind fun q=>some q.2)=(flP (PG e nl o T)).bind fun s=>some s from rfl,flP_g]
  exact⟨hT.nxt0 he,(),rfl⟩
 |true =>
  obtain⟨t,ht,-⟩:=takeP_t (e:=e) (nl:=nl) (o:=o) h
  simp only[Bool.not_true,cond_false,ht,Option.bind_some,cond_true]
  exact⟨List.tail_suffix T,rfl⟩
theorem wantSign_b {w:List UInt8}{a:Int}(ha:0≤a):wantSignP (PB e o a) w=some (PB e o a):=by
 unfold wantSignP
 rw[signP_b,Option.bind_some]
 simp only[Bool.not_false,cond_true,flP_b ha,Option.bind_some]
def FieldsAs (fF:List UInt8→Option (Option Bool×Nat×List PV))(w:List UInt8):Prop:=∃ nl,fF w=some (nl,1,[.str w])
variable {fF:List UInt8→Option (Option Bool × Nat × List PV)}
theorem want_eq {w:List UInt8}(h:FieldsAs fF w)(s:PS):wantP fF s w=(skipP s w).bind fun r=>bif !r.1 then (flP r.2).bind fun s=>some s else some r.2:=by
 obtain⟨nl,h⟩:=h
 unfold wantP
 rw[h]
 rfl
theorem want_g (he:0≤e){w:List UInt8}(h:FieldsAs fF w){T:List TR}(hT:TOKs T):SpecP e nl o T (wantG e 1 w T) ((wantP fF (PG e nl o T) w).map fun s=>((),s)):=by
 rw[want_eq h,skipP_g,Option.bind_some]
 unfold wantG
 cases h:tokIs 1 [w] T with
 |false =>
  simp only[Bool.not_false,cond_true,cond_false,flP_g,Option.bind_some]
  exact⟨hT.nxt0 he,(),rfl⟩
 |true =>
  simp only[Bool.not_true,cond_true,cond_false]
  exact⟨List.tail_suffix T,rfl⟩
theorem want_b {w:List UInt8}(h:FieldsAs fF w){a:Int}(ha:0≤a):wantP fF (PB e o a) w=some (PB e o a):=by
 rw[want_eq h,skipP_b,Option.bind_some]
 simp only[Bool.not_false,cond_true,flP_b ha,Option.bind_some]
theorem name_spec (he:0≤e):FSpec e o nameP (nameG e) where
 good:=fun nl T hT=>by
  cases T with
  |nil=>exact⟨he,[],rfl⟩
  |cons t R =>
   unfold nameP
   rw[cond_t (by rfl),chk,lt_cons,cond_true,nameG]
   show SpecP e nl o (t::R) _ (bif t.k != 0 then (flP (PG e nl o (t::R))).bind fun s=>some ([],s) else (takeP (PG e nl o (t::R))).bind fun q=>some (q.1.t,q.2))
   rw[flP_g,takeP_g]
   cases h:t.k==0 with
   |true=>rw[bne,h];exact⟨List.suffix_cons t R,rfl⟩
   |false=>rw[bne,h];exact⟨hT.at0 t (List.mem_cons_self ..),[],rfl⟩
 badd:=fun a ha=>⟨[],by unfold nameP;rw[cond_f (by rfl),flP_b ha];rfl⟩
theorem num_spec (he:0≤e)(m:Int):FSpec e o (fun s=>numberP s m) (numG e m) where
 good := fun nl T hT=>by
  cases T with
  |nil=>exact⟨he,0,rfl⟩
  |cons t R =>
   unfold numberP
   rw[cond_t (by rfl),chk,lt_cons,cond_true,numG]
   show SpecP e nl o (t::R) _ (bif !(t.k != 2) then (bif !(t.vk != 2) then (bif decide (m<t.vn) then (flP (PG e nl o (t::R))).bind fun s=>some (0,s) else (takeP (PG e nl o (t::R))).bind fun q=>some (q.1.vn,q.2)) else (flP (PG e nl o (t::R))).bind fun s=>some (0,s)) else (flP (PG e nl o (t::R))).bind fun s=>some (0,s))
   rw[flP_g,takeP_g]
   have hb:SpecP e nl o (t::R) (.bad t.a) (some ((0:Int),PB e o (nxt e (t::R)))):=⟨hT.at0 t (List.mem_cons_self ..),0,rfl⟩
   cases h:t.k==2 with
   |false=>rw[bne,h];exact hb
   |true =>
    cases h1:t.vk==2 with
    |false=>rw[bne,h,bne,h1];exact hb
    |true =>
     rw[bne,h,bne,h1]
     by_cases h2:t.vn≤m
     ·rw[decide_eq_true h2,decide_eq_false (by omega)]
      exact⟨List.suffix_cons t R,rfl⟩
     ·rw[decide_eq_false h2,decide_eq_true (by omega)]
      exact hb
 badd:=fun a ha=>⟨0,by show numberP _ _=_;unfold numberP;rw[cond_f (by rfl),flP_b ha];rfl⟩
theorem kindP_eq (w:List UInt8):kindP w=some (tyIx w):=rfl
theorem typed_spec (he:0≤e):FSpec e o typedP (typedG e) where
 good := fun nl T hT=>by
  cases T with
  |nil=>exact⟨he,(0,0),rfl⟩
  |cons t R =>
   unfold typedP
   rw[cond_t (by rfl),chk,lt_cons,cond_true,typedG]
   show SpecP e nl o (t::R) _ (bif !(t.k != 1) then ((kindP t.t).bind fun j=>bif j==0 then (flP (PG e nl o (t::R))).bind fun s=>some ((0,0),s) else
    (takeP (PG e nl o (t::R))).bind fun q=>(kindP q.1.t).bind fun j=>bif j==3 then (wantSignP q.2 [40]).bind fun s=>(numberP s 6).bind fun m=>(wantSignP m.2 [41]).bind fun s=>some ((j,m.1),s) else some ((j,0),q.2)) else (flP (PG e nl o (t::R))).bind fun s=>some ((0,0),s))
   rw[flP_g,takeP_g]
   simp only[kindP_eq,Option.bind_some]
   have hb:SpecP e nl o (t::R) (.bad t.a) (some (((0:Int),(0:Int)),PB e o (nxt e (t::R)))):=⟨hT.at0 t (List.mem_cons_self ..),_,rfl⟩
   cases h:t.k==1 with
   |false=>rw[bne,h];exact hb
   |true =>
    rw[bne,h]
    cases h1:tyIx t.t==0 with
    |true=>exact hb
    |false =>
     cases h3:tyIx t.t==3 with
     |false=>exact⟨List.suffix_cons t R,rfl⟩
     |true =>
      have hR:=hT.suf (List.suffix_cons t R)
      simp only[Bool.not_true,Bool.not_false,cond_true,cond_false]
      rw[map_bind]
      refine SpecP.suf (SpecP.bind (wantSign_g he [40] hR) (fun _ R1 h1=>?_) (fun _ a ha=>?_)) (List.suffix_cons t R)
      ·refine SpecP.bind ((num_spec he 6).good nl R1 (hR.suf h1)) (fun m R2 h2=>?_) (fun m a ha=>?_)
       ·rw[map_bind]
        refine SpecP.bind (wantSign_g he [41] ((hR.suf h1).suf h2)) (fun _ R3 h3=>SpecP.ret _) (fun _ a ha=>BadP.ret _)
       ·rw[map_bind,wantSign_b ha]
        exact BadP.ret _
      ·refine BadP.bind ((num_spec he 6).badd a ha) fun m=>?_
       rw[map_bind,wantSign_b ha]
       exact BadP.ret _
 badd:=fun a ha=>⟨(0,0),by unfold typedP;rw[cond_f (by rfl),flP_b ha];rfl⟩
theorem wordV_eq (w:List UInt8):wordV w=some (bif w==wTRUE then ⟨1,1,0,[],true⟩ else bif w==wFALSE then ⟨1,0,0,[],true⟩ else ⟨0,0,0,[],w==wNULL⟩):=by
 unfold wordV
 cases w==wTRUE with
 |true=>rfl
 |false=>cases w==wFALSE<;>rfl
theorem literal_g (T:List TR):literalP (PG e nl o T)=some (match litG T with|some v=>(v,PG e nl o T.tail)|none=>(⟨0,0,0,[],false⟩,PG e nl o T)):=by
 cases T with
 |nil=>rfl
 |cons t R =>
  unfold literalP
  rw[cond_f (by rfl),chk,lt_cons,cond_true]
  show (bif t.k==2 then (takeP (PG e nl o (t::R))).bind fun q=>some ((⟨t.vk,t.vn,t.vc,t.vs,true⟩:VR),q.2) else
   (wordV t.t).bind fun v=>bif (bif t.k != 1 then true else !v.ok) then some ((⟨0,0,0,[],false⟩:VR),PG e nl o (t::R)) else (takeP (PG e nl o (t::R))).bind fun q=>some ((⟨v.vk,v.vn,v.vc,v.vs,true⟩:VR),q.2))=_
  rw[takeP_g,wordV_eq,litG]
  cases h2:t.k==2 with
  |true=>rfl
  |false =>
   cases h1:t.k==1 with
   |false=>rw[bne,h1];rfl
   |true =>
    rw[bne,h1]
    cases t.t==wTRUE with
    |true=>rfl
    |false =>
     cases t.t==wFALSE with
     |true=>rfl
     |false=>cases t.t==wNULL<;>rfl
theorem literal_b {a:Int}:literalP (PB e o a)=some (⟨0,0,0,[],false⟩,PB e o a):=rfl
theorem litG_ok {T:List TR}{v:VR}(h:litG T=some v):v.ok=true∧∃ t R,T=t::R:=by
 cases T with
 |nil=>cases h
 |cons t R =>
  refine⟨?_,t,R,rfl⟩
  rw[litG] at h
  cases h2:t.k==2 with
  |true=>rw[h2] at h;injection h with h;subst h;rfl
  |false =>
   rw[h2] at h
   cases h1:t.k==1 with
   |false=>rw[h1] at h;cases h
   |true =>
    rw[h1] at h
    cases h3:t.t==wTRUE with
    |true=>rw[h3] at h;injection h with h;subst h;rfl
    |false =>
     rw[h3] at h
     cases h4:t.t==wFALSE with
     |true=>rw[h4] at h;injection h with h;subst h;rfl
     |false =>
      rw[h4] at h
      cases h5:t.t==wNULL with
      |true=>rw[h5] at h;injection h with h;subst h;rfl
      |false=>rw[h5] at h;cases h
end
inductive TX where
 |mk (k:Int) (op:List UInt8) (vk vn vc:Int) (vs tb nm:List UInt8) (nt:Bool) (tk ts:Int) (kids:List TX)
def xrG (cs:List PV):Option XR:=onXR (.agg cs) some
theorem xrG_of (x:XR):xrG x.cells=some x:=rfl
theorem xrG_inv (c:List PV)(x:XR)(h:xrG c=some x):c=x.cells:=by
 obtain⟨e,h1,h2⟩:=onXR_inv h
 injection h1 with h1
 injection h2 with h2
 subst h2
 exact h1
theorem xr_len (x:XR):x.cells.length=13:=rfl
def smX (x:XR):Bool:=decide (x.vs.length≤1000000)&&(decide (x.tb.length≤1000000)&&(decide (x.nm.length≤1000000)&&decide (x.kn≤1000000)))
def er:Nat→XR→Option TX
 |0,_=>none
 |d+1,x=>bif smX x then (decG 13 xrG x.kn x.kc).bind fun l=>(mapO (er d) l).map fun ks=>.mk x.k x.op x.vk x.vn x.vc x.vs x.tb x.nm x.nt x.tk x.ts ks else none
def Alk (x y:XR):Prop:=∀ d,er d x=er d y
theorem Alk.symm {x y:XR}(h:Alk x y):Alk y x:=fun d=>(h d).symm
theorem Alk.trans {x y z:XR}(h:Alk x y)(k:Alk y z):Alk x z:=fun d=>(h d).trans (k d)
theorem mapO_cons {α β:Type}(f:α→Option β)(x:α)(l:List α):mapO f (x::l)=(f x).bind fun y=>(mapO f l).bind fun ys=>some (y::ys):=by
 rw[mapO]
 cases f x with
 |none=>rfl
 |some y=>cases mapO f l<;>rfl
theorem kid1 (x:XR):decG 13 xrG 1 x.cells=some [x]:=by
 have:=decG_of xr_len xrG_of [x]
 rwa [List.flatMap_cons,List.flatMap_nil,List.append_nil] at this
theorem kid2 (x y:XR):decG 13 xrG 2 (x.cells++y.cells)=some [x,y]:=by
 have:=decG_of xr_len xrG_of [x,y]
 rwa [List.flatMap_cons,List.flatMap_cons,List.flatMap_nil,List.append_nil] at this
theorem alk1 {d:Nat}{x y:XR}(h:Alk x y):mapO (er d) [x]=mapO (er d) [y]:=by rw[mapO_cons,mapO_cons,h d]
theorem alk2 {d:Nat}{x y z w:XR}(h:Alk x y)(k:Alk z w):mapO (er d) [x,z]=mapO (er d) [y,w]:=by rw[mapO_cons,mapO_cons,mapO_cons,mapO_cons,h d,k d]
theorem Alk.un {a b:Int}{op:List UInt8}{x y:XR}(h:Alk x y):Alk (unX a op x) (unX b op y):=fun d=>by
 cases d with
 |zero=>rfl
 |succ d =>
  simp only[er,smX,unX,kid1,Option.bind_some,alk1 h]
  rfl
theorem Alk.bin {a b:Int}{op:List UInt8}{x y z w:XR}(h:Alk x y)(k:Alk z w):Alk (binX a op x z) (binX b op y w):=fun d=>by
 cases d with
 |zero=>rfl
 |succ d =>
  simp only[er,smX,binX,kid2,Option.bind_some,alk2 h k]
  rfl
theorem Alk.null {a b:Int}{nt:Bool}{x y:XR}(h:Alk x y):Alk (nullX a nt x) (nullX b nt y):=fun d=>by
 cases d with
 |zero=>rfl
 |succ d =>
  simp only[er,smX,nullX,kid1,Option.bind_some,alk1 h]
  rfl
theorem Alk.cast {a b tk ts:Int}{x y:XR}(h:Alk x y):Alk (castX a tk ts x) (castX b tk ts y):=fun d=>by
 cases d with
 |zero=>rfl
 |succ d =>
  simp only[er,smX,castX,kid1,Option.bind_some,alk1 h]
  rfl
theorem Alk.call {a b:Int}{op:List UInt8}{x y:XR}(h:Alk x y):Alk (callX a op x) (callX b op y):=fun d=>by
 cases d with
 |zero=>rfl
 |succ d =>
  simp only[er,smX,callX,kid1,Option.bind_some,alk1 h]
  rfl
theorem Alk.call0 {a b:Int}{op:List UInt8}:Alk (call0 a op) (call0 b op):=fun d=>by cases d<;>rfl
theorem Alk.lit {a b vk vn vc:Int}{vs:List UInt8}:Alk (litX a vk vn vc vs) (litX b vk vn vc vs):=fun d=>by cases d<;>rfl
theorem Alk.col {a b:Int}{tb nm:List UInt8}:Alk (colX a tb nm) (colX b tb nm):=fun d=>by cases d<;>rfl
def shT (c:Int)(t:TR):TR:=⟨t.k,t.a+c,t.t,t.vk,t.vn,t.vc,t.vs⟩
structure ZOK (Z:List TR):Prop where
 no1:∀ ws,tokIs 1 ws Z=false
 no3:∀ ws,conA ws [41]=false→tokIs 3 ws Z=false
section
variable (c:Int) (Z:List TR)
def ExtAt {α:Type}(ρ:α→α→Prop)(r r':Res α):Prop:=∀ x R,r=.ok x R→∃ x',r'=.ok x' (R.map (shT c)++Z)∧ρ x x'
def ExtG {α:Type}(ρ:α→α→Prop)(g g':List TR→Res α):Prop:=∀ T,ExtAt c Z ρ (g T) (g' (T.map (shT c)++Z))
def LowE (low low':Option GF):Prop:=∀ G,low=some G→∃ G',low'=some G'∧ExtG c Z Alk G.expr G'.expr∧ExtG c Z Alk G.neg G'.neg∧ExtG c Z Alk G.fact G'.fact
end
section
variable {c:Int} {Z:List TR}
theorem ExtAt.bad {α:Type}{ρ:α→α→Prop}{a:Int}{r':Res α}:ExtAt c Z ρ (.bad a) r':=fun x R h=>by cases h
theorem ExtAt.ok {α:Type}{ρ:α→α→Prop}{x x':α}{R:List TR}(h:ρ x x'):ExtAt c Z ρ (.ok x R) (.ok x' (R.map (shT c)++Z)):=fun y Q hy=>by
 injection hy with h1 h2
 subst h1 h2
 exact⟨x',rfl,h⟩
theorem ExtAt.bind {α β:Type}{ρ:α→α→Prop}{σ:β→β→Prop}{r r':Res α}{k k':α→List TR→Res β}(h:ExtAt c Z ρ r r')(hk:∀ x x' R,ρ x x'→ExtAt c Z σ (k x R) (k' x' (R.map (shT c)++Z))) :
  ExtAt c Z σ (r.bind k) (r'.bind k'):=fun y Q hy=>by
 cases r with
 |bad a=>cases hy
 |ok x R =>
  obtain⟨x',h1,h2⟩:=h x R rfl
  rw[h1]
  exact hk x x' R h2 y Q hy
theorem ExtAt.bif {α:Type}{ρ:α→α→Prop}{b b':Bool}{r s r' s':Res α}(hb:b'=b)(h1:b=true→ExtAt c Z ρ r r')(h2:b=false→ExtAt c Z ρ s s'):ExtAt c Z ρ (bif b then r else s) (bif b' then r' else s'):=by
 subst hb
 cases b' with
 |true=>exact h1 rfl
 |false=>exact h2 rfl
variable (hZ:ZOK Z) {e e':Int}
theorem tok_e1 (hZ:ZOK Z)(ws:List (List UInt8))(T:List TR):tokIs 1 ws (T.map (shT c)++Z)=tokIs 1 ws T:=by
 cases T with
 |nil=>exact hZ.no1 ws
 |cons t R=>rfl
theorem tok_e3 (hZ:ZOK Z){ws:List (List UInt8)}(h:conA ws [41]=false)(T:List TR):tokIs 3 ws (T.map (shT c)++Z)=tokIs 3 ws T:=by
 cases T with
 |nil=>exact hZ.no3 ws h
 |cons t R=>rfl
theorem tl_e {a:Int}{ws:List (List UInt8)}{T:List TR}(h:tokIs a ws T=true):(T.map (shT c)++Z).tail=T.tail.map (shT c)++Z:=by
 obtain⟨t,R,rfl⟩:=tok_cons h
 rfl
theorem hd_e {a:Int}{ws:List (List UInt8)}{T:List TR}(h:tokIs a ws T=true):hdW (T.map (shT c)++Z)=hdW T:=by
 obtain⟨t,R,rfl⟩:=tok_cons h
 rfl
theorem want_e (a:Int)(w:List UInt8):ExtG c Z Eq (wantG e a w) (wantG e' a w):=fun T=>by
 unfold wantG
 cases h:tokIs a [w] T with
 |false=>exact ExtAt.bad
 |true =>
  obtain⟨t,R,rfl⟩:=tok_cons h
  have h':tokIs a [w] ((t::R).map (shT c)++Z)=true:=h
  rw[h',cond_true,cond_true,tl_e h]
  exact ExtAt.ok rfl
theorem name_e:ExtG c Z Eq (nameG e) (nameG e'):=fun T=>by
 cases T with
 |nil=>exact ExtAt.bad
 |cons t R =>
  show ExtAt c Z Eq (bif t.k==0 then _ else _) (bif t.k==0 then _ else _)
  exact ExtAt.bif rfl (fun _=>ExtAt.ok rfl) (fun _=>ExtAt.bad)
theorem num_e (m:Int):ExtG c Z Eq (numG e m) (numG e' m):=fun T=>by
 cases T with
 |nil=>exact ExtAt.bad
 |cons t R =>
  show ExtAt c Z Eq (bif t.k==2 then _ else _) (bif t.k==2 then _ else _)
  exact ExtAt.bif rfl (fun _=>ExtAt.bif rfl (fun _=>ExtAt.bif rfl (fun _=>ExtAt.ok rfl) (fun _=>ExtAt.bad)) (fun _=>ExtAt.bad)) (fun _=>ExtAt.bad)
theorem typed_e:ExtG c Z Eq (typedG e) (typedG e'):=fun T=>by
 cases T with
 |nil=>exact ExtAt.bad
 |cons t R =>
  show ExtAt c Z Eq (bif t.k==1 then _ else _) (bif t.k==1 then _ else _)
  refine ExtAt.bif rfl (fun _=>ExtAt.bif rfl (fun _=>ExtAt.bad) (fun _=>ExtAt.bif rfl (fun _=>?_) (fun _=>ExtAt.ok rfl))) (fun _=>ExtAt.bad)
  refine ExtAt.bind (want_e 3 [40] R) fun _ _ R _=>ExtAt.bind (num_e 6 R) fun n n' R hn=>ExtAt.bind (want_e 3 [41] R) fun _ _ R _=>?_
  subst hn
  exact ExtAt.ok rfl
theorem litG_sh (t:TR)(R R':List TR):litG (shT c t::R')=litG (t::R):=rfl
variable {low low':Option GF} (hl:LowE c Z low low')
include hZ hl
theorem deep_e {T:List TR}{T':List TR}{b b':GF→Res XR}(hb:∀ G G',ExtG c Z Alk G.expr G'.expr→ExtG c Z Alk G.neg G'.neg→ExtG c Z Alk G.fact G'.fact→ExtAt c Z Alk (b G) (b' G')):ExtAt c Z Alk (deepG e low T b) (deepG e' low' T' b'):=by
 have _ := hZ
 unfold deepG
 cases low with
 |none=>exact ExtAt.bad
 |some G =>
  obtain⟨G',rfl,h1,h2,h3⟩:=hl G rfl
  exact hb G G' h1 h2 h3
theorem within_e {T:List TR}{b b':GF→List TR→Res XR}(hb:∀ G G',ExtG c Z Alk G.expr G'.expr→∀ R,ExtAt c Z Alk (b G R) (b' G' (R.map (shT c)++Z))):ExtAt c Z Alk (withinG e low T b) (withinG e' low' (T.map (shT c)++Z) b'):=by
 unfold withinG
 refine ExtAt.bif (tok_e3 hZ (by rfl) T) (fun h=>?_) (fun _=>ExtAt.bad)
 refine deep_e hZ hl fun G G' h1 _ _=>?_
 rw[tl_e h]
 refine ExtAt.bind (hb G G' h1 _) fun x x' R hx=>ExtAt.bind (want_e 3 [41] R) fun _ _ R _=>ExtAt.ok hx
theorem cast_e {T:List TR}{a:Int}{ws:List (List UInt8)}(h:tokIs a ws T=true):ExtAt c Z Alk (castG e low T) (castG e' low' (T.map (shT c)++Z)):=by
 unfold castG
 rw[tl_e h]
 refine within_e hZ hl fun G G' h1 R=>?_
 refine ExtAt.bind (h1 R) fun x x' R hx=>ExtAt.bind (want_e 1 wAS R) fun _ _ R _=>ExtAt.bind (typed_e R) fun y y' R hy=>?_
 subst hy
 exact ExtAt.ok hx.cast
theorem call_e {T:List TR}{a:Int}{ws:List (List UInt8)}(h:tokIs a ws T=true):ExtAt c Z Alk (callG e low T) (callG e' low' (T.map (shT c)++Z)):=by
 unfold callG
 rw[tl_e h]
 refine within_e hZ hl fun G G' h1 R=>?_
 rw[hd_e h]
 refine ExtAt.bif rfl (fun _=>ExtAt.bif (tok_e3 hZ (by rfl) R) (fun h2=>?_) (fun _=>?_)) (fun _=>?_)
 ·rw[tl_e h2]
  exact ExtAt.ok Alk.call0
 ·exact ExtAt.bind (h1 R) fun x x' R hx=>ExtAt.ok hx.call
 ·exact ExtAt.bind (h1 R) fun x x' R hx=>ExtAt.ok hx.call
theorem atom_e:ExtG c Z Alk (atomG e low) (atomG e' low'):=fun T=>by
 unfold atomG
 refine ExtAt.bif (tok_e3 hZ (by rfl) T) (fun _=>within_e hZ hl fun G G' h1 R=>h1 R) (fun _=>?_)
 refine ExtAt.bif (tok_e1 hZ _ T) (fun h=>cast_e hZ hl h) (fun _=>?_)
 refine ExtAt.bif (tok_e1 hZ _ T) (fun h=>call_e hZ hl h) (fun _=>?_)
 cases T with
 |nil=>exact ExtAt.bad
 |cons t R =>
  rw[List.map_cons,List.cons_append,litG_sh t R]
  cases litG (t::R) with
  |some v=>exact ExtAt.ok Alk.lit
  |none =>
   refine ExtAt.bind (name_e (t::R)) fun n n' R hn=>?_
   subst hn
   refine ExtAt.bif (tok_e3 hZ (by rfl) R) (fun h=>?_) (fun _=>ExtAt.ok Alk.col)
   rw[tl_e h]
   refine ExtAt.bind (name_e R.tail) fun m m' R hm=>?_
   subst hm
   exact ExtAt.ok Alk.col
theorem fact_e:ExtG c Z Alk (factG e low) (factG e' low'):=fun T=>by
 unfold factG
 refine ExtAt.bif (tok_e3 hZ (by rfl) T) (fun h=>deep_e hZ hl fun G G' _ _ h3=>?_) (fun _=>atom_e hZ hl T)
 rw[tl_e h]
 exact ExtAt.bind (h3 T.tail) fun x x' R hx=>ExtAt.ok hx.un
omit hl in
theorem loop_e {n:Nat}(hn:n≤3){p p':List TR→Res XR}(hp:ExtG c Z Alk p p'):∀ (m:Nat) (x x':XR) (T:List TR),Alk x x'→ExtAt c Z Alk (loopG e n p m x T) (loopG e' n p' m x' (T.map (shT c)++Z))
 |0,x,x',T,hx=>ExtAt.ok hx
 |m+1,x,x',T,hx=>by
  unfold loopG
  refine ExtAt.bif ?_ (fun h=>?_) (fun _=>ExtAt.ok hx)
  ·match n,hn with
   |0,_=>exact tok_e1 hZ _ T
   |1,_=>exact tok_e1 hZ _ T
   |2,_=>exact tok_e3 hZ (by rfl) T
   |3,_=>exact tok_e3 hZ (by rfl) T
  ·rw[tl_e h,hd_e h]
   exact ExtAt.bind (hp T.tail) fun y y' R hy=>loop_e hn hp m _ _ R (hx.bin hy)
omit hl in
theorem lev_e {n:Nat}(hn:n≤3){p p':List TR→Res XR}(hp:ExtG c Z Alk p p'):ExtG c Z Alk (levG e n p) (levG e' n p'):=fun T=>by
 unfold levG
 exact ExtAt.bind (hp T) fun x x' R hx=>loop_e hZ hn hp _ _ _ R hx
theorem mul_e:ExtG c Z Alk (mulG e low) (mulG e' low'):=lev_e hZ (by omega) (fact_e hZ hl)
theorem sum_e:ExtG c Z Alk (sumG e low) (sumG e' low'):=lev_e hZ (by omega) (mul_e hZ hl)
theorem cmp_e {x x':XR}(hx:Alk x x')(T:List TR):ExtAt c Z Alk (cmpG e low x T) (cmpG e' low' x' (T.map (shT c)++Z)):=by
 unfold cmpG
 refine ExtAt.bif (tok_e3 hZ (by rfl) T) (fun h=>?_) (fun _=>ExtAt.bif (tok_e1 hZ _ T) (fun h=>?_) (fun _=>ExtAt.ok hx))
 ·rw[tl_e h,hd_e h]
  exact ExtAt.bind (sum_e hZ hl T.tail) fun y y' R hy=>ExtAt.ok (hx.bin hy)
 ·rw[tl_e h,tok_e1 hZ]
  cases h2:tokIs 1 [wNOT] T.tail with
  |true =>
   rw[cond_true,cond_true,tl_e h2]
   exact ExtAt.bind (want_e 1 wNULL _) fun _ _ R _=>ExtAt.ok hx.null
  |false=>exact ExtAt.bind (want_e 1 wNULL _) fun _ _ R _=>ExtAt.ok hx.null
theorem comp_e:ExtG c Z Alk (compG e low) (compG e' low'):=fun T=>by
 unfold compG
 exact ExtAt.bind (sum_e hZ hl T) fun x x' R hx=>cmp_e hZ hl hx R
theorem neg_e:ExtG c Z Alk (negG e low) (negG e' low'):=fun T=>by
 unfold negG
 refine ExtAt.bif (tok_e1 hZ _ T) (fun h=>deep_e hZ hl fun G G' _ h2 _=>?_) (fun _=>comp_e hZ hl T)
 rw[tl_e h]
 exact ExtAt.bind (h2 T.tail) fun x x' R hx=>ExtAt.ok hx.un
theorem and_e:ExtG c Z Alk (andG e low) (andG e' low'):=lev_e hZ (by omega) (neg_e hZ hl)
theorem expr_e:ExtG c Z Alk (exprG e low) (exprG e' low'):=lev_e hZ (by omega) (and_e hZ hl)
omit hl in
theorem gfs_e:∀ (k k':Nat),k≤k'→LowE c Z (gfs e k) (gfs e' k')
 |0,k',_=>fun G h=>by cases h
 |k+1,0,h=>by omega
 |k+1,k'+1,h=>fun G hG=>by
  rw[gfs] at hG
  injection hG with hG
  subst hG
  have ih:=gfs_e k k' (by omega)
  exact⟨_,rfl,expr_e hZ ih,neg_e hZ ih,fact_e hZ ih⟩
end
theorem er_mono:∀ {d:Nat} {x:XR} {t:TX},er d x=some t→er (d+1) x=some t
 |0,x,t,h=>by cases h
 |d+1,x,t,h=>by
  rw[er] at h ⊢
  obtain⟨h0,h⟩:=bif_inv h
  obtain⟨l,h1,h⟩:=Option.bind_eq_some_iff.1 h
  obtain⟨ts,h2,h3⟩:=Option.map_eq_some_iff.1 h
  rw[h0,cond_true,h1,Option.bind_some,mapO_le (fun x y hxy=>er_mono hxy) h2,← h3]
  rfl
theorem er_le {d d':Nat}(h:d≤d'){x:XR}{t:TX}(he:er d x=some t):er d' x=some t:=by
 obtain⟨k,rfl⟩:=Nat.le.dest h
 clear h
 induction k with
 |zero=>exact he
 |succ k ih=>exact er_mono ih
def Has (d:Nat)(x:XR):Prop:=∃ t,er d x=some t
theorem Has.le {d d':Nat}(h:d≤d'){x:XR}(hx:Has d x):Has d' x:=let ⟨t,ht⟩:=hx;⟨t,er_le h ht⟩
theorem Has.of1 {d:Nat}{x y:XR}(h:Has d x)(hs:smX y=true)(h1:decG 13 xrG y.kn y.kc=some [x]):Has (d+1) y:=by
 obtain⟨t,ht⟩:=h
 refine⟨.mk y.k y.op y.vk y.vn y.vc y.vs y.tb y.nm y.nt y.tk y.ts [t],?_⟩
 rw[er,hs,cond_true,h1,Option.bind_some,mapO_cons,ht]
 rfl
theorem Has.of2 {d:Nat}{x z y:XR}(h:Has d x)(k:Has d z)(hs:smX y=true)(h1:decG 13 xrG y.kn y.kc=some [x,z]):Has (d+1) y:=by
 obtain⟨t,ht⟩:=h
 obtain⟨u,hu⟩:=k
 refine⟨.mk y.k y.op y.vk y.vn y.vc y.vs y.tb y.nm y.nt y.tk y.ts [t,u],?_⟩
 rw[er,hs,cond_true,h1,Option.bind_some,mapO_cons,ht,Option.bind_some,mapO_cons,hu]
 rfl
theorem Has.un {d:Nat}{a:Int}{op:List UInt8}{x:XR}(h:Has d x):Has (d+1) (unX a op x):=h.of1 (by rfl) (kid1 x)
theorem Has.null {d:Nat}{a:Int}{nt:Bool}{x:XR}(h:Has d x):Has (d+1) (nullX a nt x):=h.of1 (by rfl) (kid1 x)
theorem Has.cast {d:Nat}{a tk ts:Int}{x:XR}(h:Has d x):Has (d+1) (castX a tk ts x):=h.of1 (by rfl) (kid1 x)
theorem Has.call {d:Nat}{a:Int}{op:List UInt8}{x:XR}(h:Has d x):Has (d+1) (callX a op x):=h.of1 (by rfl) (kid1 x)
theorem Has.bin {d:Nat}{a:Int}{op:List UInt8}{x y:XR}(h:Has d x)(k:Has d y):Has (d+1) (binX a op x y):=h.of2 k (by rfl) (kid2 x y)
theorem Has.call0 {a:Int}{op:List UInt8}:Has 1 (call0 a op):=⟨_,rfl⟩
theorem Has.leaf {y:XR}(hs:smX y=true)(h1:decG 13 xrG y.kn y.kc=some []):Has 1 y:=by
 refine⟨.mk y.k y.op y.vk y.vn y.vc y.vs y.tb y.nm y.nt y.tk y.ts [],?_⟩
 rw[er,hs,cond_true,h1]
 rfl
def Sml (T:List TR):Prop:=∀ t∈T,t.t.length≤1000000∧t.vs.length≤1000000
theorem Sml.tail {T:List TR}(h:Sml T):Sml T.tail:=fun t ht=>h t (List.mem_of_mem_tail ht)
def EP (T:List TR)(r:Res XR):Prop:=∀ x R,r=.ok x R→Has (T.length-R.length) x∧R.length<T.length∧Sml R
def EQ {α:Type}(T:List TR)(P:α→Prop)(r:Res α):Prop:=∀ x R,r=.ok x R→P x∧R.length<T.length∧Sml R
theorem EP.bad {T:List TR}{a:Int}:EP T (.bad a):=fun x R h=>by cases h
theorem EQ.bad {α:Type}{T:List TR}{P:α→Prop}{a:Int}:EQ T P (.bad a:Res α):=fun x R h=>by cases h
theorem EP.ok {T R:List TR}{x:XR}(h:Has (T.length-R.length) x)(hl:R.length<T.length)(hs:Sml R):EP T (.ok x R):=fun y Q hy=>by
 injection hy with h1 h2
 subst h1 h2
 exact⟨h,hl,hs⟩
theorem EQ.ok {α:Type}{T R:List TR}{P:α→Prop}{x:α}(h:P x)(hl:R.length<T.length)(hs:Sml R):EQ T P (.ok x R):=fun y Q hy=>by
 injection hy with h1 h2
 subst h1 h2
 exact⟨h,hl,hs⟩
theorem EP.bind {T T':List TR}{r:Res XR}{k:XR→List TR→Res XR}(h:EP T r)(hk:∀ x R,Has (T.length-R.length) x→R.length<T.length→Sml R→EP T' (k x R)):EP T' (r.bind k):=fun y Q hy=>by
 cases r with
 |bad a=>cases hy
 |ok x R =>
  obtain⟨h1,h2,h3⟩:=h x R rfl
  exact hk x R h1 h2 h3 y Q hy
theorem EQ.bindP {α:Type}{T T':List TR}{P:α→Prop}{r:Res α}{k:α→List TR→Res XR}(h:EQ T P r)(hk:∀ x R,P x→R.length<T.length→Sml R→EP T' (k x R)):EP T' (r.bind k):=fun y Q hy=>by
 cases r with
 |bad a=>cases hy
 |ok x R =>
  obtain⟨h1,h2,h3⟩:=h x R rfl
  exact hk x R h1 h2 h3 y Q hy
theorem EQ.bind {α β:Type}{T T':List TR}{P:α→Prop}{S:β→Prop}{r:Res α}{k:α→List TR→Res β}(h:EQ T P r)(hk:∀ x R,P x→R.length<T.length→Sml R→EQ T' S (k x R)):EQ T' S (r.bind k):=fun y Q hy=>by
 cases r with
 |bad a=>cases hy
 |ok x R =>
  obtain⟨h1,h2,h3⟩:=h x R rfl
  exact hk x R h1 h2 h3 y Q hy
theorem EP.bif {T:List TR}{b:Bool}{r s:Res XR}(h1:b=true→EP T r)(h2:b=false→EP T s):EP T (bif b then r else s):=by
 cases b with
 |true=>exact h1 rfl
 |false=>exact h2 rfl
theorem EQ.bif {α:Type}{T:List TR}{P:α→Prop}{b:Bool}{r s:Res α}(h1:b=true→EQ T P r)(h2:b=false→EQ T P s):EQ T P (bif b then r else s):=by
 cases b with
 |true=>exact h1 rfl
 |false=>exact h2 rfl
theorem tok_tl {a:Int}{ws:List (List UInt8)}{T:List TR}(h:tokIs a ws T=true):T.tail.length+1=T.length:=by
 obtain⟨t,R,rfl⟩:=tok_cons h
 rfl
section
variable {e:Int}
theorem want_p (a:Int)(w:List UInt8){T:List TR}(hs:Sml T):EQ T (fun _=>True) (wantG e a w T):=by
 unfold wantG
 refine EQ.bif (fun h=>EQ.ok trivial ?_ hs.tail) (fun _=>EQ.bad)
 have:=tok_tl h
 omega
theorem name_p {T:List TR}(hs:Sml T):EQ T (fun n=>n.length≤1000000) (nameG e T):=by
 cases T with
 |nil=>exact EQ.bad
 |cons t R=>exact EQ.bif (fun _=>EQ.ok (hs t (List.mem_cons_self ..)).1 (Nat.lt_succ_self _) hs.tail) (fun _=>EQ.bad)
theorem num_p (m:Int){T:List TR}(hs:Sml T):EQ T (fun _=>True) (numG e m T):=by
 cases T with
 |nil=>exact EQ.bad
 |cons t R=>exact EQ.bif (fun _=>EQ.bif (fun _=>EQ.bif (fun _=>EQ.ok trivial (Nat.lt_succ_self _) hs.tail) (fun _=>EQ.bad)) (fun _=>EQ.bad)) (fun _=>EQ.bad)
theorem typed_p {T:List TR}(hs:Sml T):EQ T (fun _=>True) (typedG e T):=by
 cases T with
 |nil=>exact EQ.bad
 |cons t R =>
  refine EQ.bif (fun _=>EQ.bif (fun _=>EQ.bad) (fun _=>EQ.bif (fun _=>?_) (fun _=>EQ.ok trivial (Nat.lt_succ_self _) hs.tail))) (fun _=>EQ.bad)
  refine EQ.bind (want_p 3 [40] hs.tail) fun _ R1 _ h1 s1=>EQ.bind (num_p 6 s1) fun n R2 _ h2 s2=>EQ.bind (want_p 3 [41] s2) fun _ R3 _ h3 s3=>EQ.ok trivial ?_ s3
  simp only[List.tail_cons,List.length_cons] at h1 ⊢
  omega
variable {low:Option GF} (hl:∀ G,low=some G→∀ T,Sml T→EP T (G.expr T)∧EP T (G.neg T)∧EP T (G.fact T))
include hl
theorem deep_p {T T':List TR}{b:GF→Res XR}(hb:∀ G,(∀ T,Sml T→EP T (G.expr T)∧EP T (G.neg T)∧EP T (G.fact T))→EP T' (b G)):EP T' (deepG e low T b):=by
 unfold deepG
 cases low with
 |none=>exact EP.bad
 |some G=>exact hb G (hl G rfl)
theorem within_p {T:List TR}(hs:Sml T){b:GF→List TR→Res XR}{m:Nat}(hb:∀ G,(∀ T,Sml T→EP T (G.expr T)∧EP T (G.neg T)∧EP T (G.fact T))→∀ R,Sml R→∀ x Q,b G R=.ok x Q→Has (R.length-Q.length+m) x∧Q.length<R.length∧Sml Q)(hm:m≤2):EP T (withinG e low T b):=by
 unfold withinG
 refine EP.bif (fun h=>?_) (fun _=>EP.bad)
 have ht:=tok_tl h
 refine deep_p hl fun G hG=>?_
 intro y Q hy
 cases hr:b G T.tail with
 |bad a=>rw[hr] at hy;cases hy
 |ok x R1 =>
  rw[hr] at hy
  obtain⟨h1,h2,h3⟩:=hb G hG T.tail hs.tail x R1 hr
  have hw:=want_p (e:=e) 3 [41] h3
  simp only[Res.bind] at hy
  cases hq:wantG e 3 [41] R1 with
  |bad a=>rw[hq] at hy;cases hy
  |ok u R2 =>
   rw[hq] at hy
   obtain⟨-,h4,h5⟩:=hw u R2 hq
   injection hy with e1 e2
   subst e1 e2
   exact⟨h1.le (by omega),by omega,h5⟩
theorem cast_p {T:List TR}(hs:Sml T):EP T (castG e low T):=by
 unfold castG
 have key:EP T.tail (withinG e low T.tail fun G R=>(G.expr R).bind fun x R=>(wantG e 1 wAS R).bind fun _ R=>(typedG e R).bind fun y R=>.ok (castX (nxt e T) y.1 y.2 x) R):=by
  refine within_p hl hs.tail (m:=1) (fun G hG R hR x Q hx=>?_) (by omega)
  have:EP R ((G.expr R).bind fun x R=>(wantG e 1 wAS R).bind fun _ R=>(typedG e R).bind fun y R=>.ok (castX (nxt e T) y.1 y.2 x) R):=by
   refine EP.bind (hG R hR).1 fun x R1 h1 l1 s1=>EQ.bindP (want_p 1 wAS s1) fun _ R2 _ l2 s2=>EQ.bindP (typed_p s2) fun y R3 _ l3 s3=>EP.ok ?_ (by omega) s3
   exact h1.cast.le (by omega)
  obtain⟨a,b,c⟩:=this x Q hx
  exact⟨a.le (by omega),b,c⟩
 intro x R hx
 obtain⟨a,b,c⟩:=key x R hx
 have:T.tail.length≤T.length:=by simp
 exact⟨a.le (by omega),by omega,c⟩
theorem call_p {T:List TR}(hs:Sml T):EP T (callG e low T):=by
 unfold callG
 have key:EP T.tail (withinG e low T.tail fun G R=>bif hdW T==wCOUNT then bif tokIs 3 [[42]] R then .ok (call0 (nxt e T) (hdW T)) R.tail else (G.expr R).bind fun x R=>.ok (callX (nxt e T) (hdW T) x) R else (G.expr R).bind fun x R=>.ok (callX (nxt e T) (hdW T) x) R):=by
  refine within_p hl hs.tail (m:=1) (fun G hG R hR x Q hx=>?_) (by omega)
  have hc:∀ x Q,((G.expr R).bind fun x R=>.ok (callX (nxt e T) (hdW T) x) R:Res XR)=.ok x Q→Has (R.length-Q.length+1) x∧Q.length<R.length∧Sml Q:=fun x Q hx=>by
   cases hr:G.expr R with
   |bad a=>rw[hr] at hx;cases hx
   |ok y R1 =>
    rw[hr] at hx
    obtain⟨h1,h2,h3⟩:=(hG R hR).1 y R1 hr
    injection hx with e1 e2
    subst e1 e2
    exact⟨h1.call,h2,h3⟩
  cases h1:hdW T==wCOUNT with
  |false=>rw[h1,cond_false] at hx;exact hc x Q hx
  |true =>
   rw[h1,cond_true] at hx
   cases h2:tokIs 3 [[42]] R with
   |false=>rw[h2,cond_false] at hx;exact hc x Q hx
   |true =>
    rw[h2,cond_true] at hx
    injection hx with e1 e2
    subst e1 e2
    have:=tok_tl h2
    exact⟨Has.call0.le (by omega),by omega,hR.tail⟩
 intro x R hx
 obtain⟨a,b,c⟩:=key x R hx
 have:T.tail.length≤T.length:=by simp
 exact⟨a.le (by omega),by omega,c⟩
theorem atom_p {T:List TR} (hs:Sml T):EP T (atomG e low T):=by
  unfold atomG
  refine EP.bif (fun _=>within_p hl hs (m:=0) (fun G hG R hR x Q hx=>(hG R hR).1 x Q hx) (by omega)) (fun _=>EP.bif (fun _=>cast_p hl hs) (fun _=>EP.bif (fun _=>call_p hl hs) (fun _=>?_)))
  cases T with
  | nil=>exact EP.bad
  | cons t R =>
    cases hlit:litG (t :: R) with
    | some v =>
      refine EP.ok ?_ (Nat.lt_succ_self _) hs.tail
      have hv : v.vs.length≤1000000:=by
        rw [litG] at hlit
        cases h2:t.k == 2 with
        | true=>rw [h2] at hlit;injection hlit with hlit;subst hlit;exact (hs t (List.mem_cons_self ..)).2
        | false =>
          rw [h2] at hlit
          cases h1:t.k == 1 with
          | false=>rw [h1] at hlit;cases hlit
          | true =>
            rw [h1] at hlit
            cases h3:t.t == wTRUE with
            | true=>rw [h3] at hlit;injection hlit with hlit;subst hlit;exact Nat.zero_le _
            | false =>
              rw [h3] at hlit
              cases h4:t.t == wFALSE with
              | true=>rw [h4] at hlit;injection hlit with hlit;subst hlit;exact Nat.zero_le _
              | false =>
                rw [h4] at hlit
                cases h5:t.t == wNULL with
                | true=>rw [h5] at hlit;injection hlit with hlit;subst hlit;exact Nat.zero_le _
                | false=>rw [h5] at hlit;cases hlit
      refine (Has.leaf ?_ rfl).le (by simp)
      unfold smX litX
      simp only [Bool.and_eq_true,decide_eq_true_eq]
      exact ⟨hv,Nat.zero_le _,Nat.zero_le _,Nat.zero_le _⟩
    | none =>
      have hcol:∀ (tb nm:List UInt8),tb.length≤1000000→nm.length≤1000000→Has 1 (colX (nxt e (t :: R)) tb nm):=fun tb nm h1 h2=>by
        refine Has.leaf ?_ rfl
        unfold smX colX
        simp only [Bool.and_eq_true,decide_eq_true_eq]
        exact ⟨Nat.zero_le _,h1,h2,Nat.zero_le _⟩
      refine EQ.bindP (name_p hs) fun n R1 h1 l1 s1=>EP.bif (fun h=>?_) (fun _=>EP.ok ((hcol [] n (Nat.zero_le _) h1).le (by omega)) l1 s1)
      have:=tok_tl h
      refine EQ.bindP (name_p s1.tail) fun m R2 h2 l2 s2=>EP.ok ((hcol n m h1 h2).le (by omega)) (by omega) s2
theorem fact_p {T:List TR}(hs:Sml T):EP T (factG e low T):=by
 unfold factG
 refine EP.bif (fun h=>deep_p hl fun G hG=>?_) (fun _=>atom_p hl hs)
 have:=tok_tl h
 exact EP.bind (hG _ hs.tail).2.2 fun x R h1 l1 s1=>EP.ok (h1.un.le (by omega)) (by omega) s1
omit hl in
theorem loop_p {n:Nat}{p:List TR→Res XR}(hp:∀ T,Sml T→EP T (p T))(T:List TR):∀ (m:Nat) (x:XR) (R:List TR),Has (T.length-R.length) x→R.length<T.length→Sml R→EP T (loopG e n p m x R)
 |0,x,R,h,l,s=>EP.ok h l s
 |m+1,x,R,h,l,s=>by
  unfold loopG
  refine EP.bif (fun ht=>?_) (fun _=>EP.ok h l s)
  have:=tok_tl ht
  refine EP.bind (hp _ s.tail) fun y R1 h1 l1 s1=>loop_p hp T m _ R1 ?_ (by omega) s1
  exact ((h.le (d':=T.length-R1.length-1) (by omega)).bin (h1.le (by omega))).le (by omega)
omit hl in
theorem lev_p {n:Nat}{p:List TR→Res XR}(hp:∀ T,Sml T→EP T (p T)){T:List TR}(hs:Sml T):EP T (levG e n p T):=by
 unfold levG
 exact EP.bind (hp T hs) fun x R h l s=>loop_p hp T _ x R h l s
theorem mul_p {T:List TR}(hs:Sml T):EP T (mulG e low T):=lev_p (fun T hs=>fact_p hl hs) hs
theorem sum_p {T:List TR}(hs:Sml T):EP T (sumG e low T):=lev_p (fun T hs=>mul_p hl hs) hs
theorem comp_p {T:List TR}(hs:Sml T):EP T (compG e low T):=by
 unfold compG
 refine EP.bind (sum_p hl hs) fun x R h l s=>?_
 unfold cmpG
 refine EP.bif (fun ht=>?_) (fun _=>EP.bif (fun ht=>?_) (fun _=>EP.ok h l s))
 ·have:=tok_tl ht
  refine EP.bind (sum_p hl s.tail) fun y R1 h1 l1 s1=>EP.ok ?_ (by omega) s1
  exact ((h.le (d':=T.length-R1.length-1) (by omega)).bin (h1.le (by omega))).le (by omega)
 ·have:=tok_tl ht
  have key:∀ Q:List TR,Sml Q→Q.length<R.length→EP T ((wantG e 1 wNULL Q).bind fun _ R1=>.ok (nullX (nxt e R) (tokIs 1 [wNOT] R.tail) x) R1):=fun Q hQ lQ =>
   EQ.bindP (want_p 1 wNULL hQ) fun _ R1 _ l1 s1=>EP.ok (h.null.le (by omega)) (by omega) s1
  cases h2:tokIs 1 [wNOT] R.tail with
  |true =>
   rw[h2] at key
   rw[cond_true]
   exact key _ s.tail.tail (by have:=tok_tl h2;omega)
  |false =>
   rw[h2] at key
   rw[cond_false]
   exact key _ s.tail (by omega)
theorem neg_p {T:List TR}(hs:Sml T):EP T (negG e low T):=by
 unfold negG
 refine EP.bif (fun h=>deep_p hl fun G hG=>?_) (fun _=>comp_p hl hs)
 have:=tok_tl h
 exact EP.bind (hG _ hs.tail).2.1 fun x R h1 l1 s1=>EP.ok (h1.un.le (by omega)) (by omega) s1
theorem and_p {T:List TR}(hs:Sml T):EP T (andG e low T):=lev_p (fun T hs=>neg_p hl hs) hs
theorem expr_p {T:List TR}(hs:Sml T):EP T (exprG e low T):=lev_p (fun T hs=>and_p hl hs) hs
end
theorem gfs_p (e:Int):∀ (k:Nat) (G:GF),gfs e k=some G→∀ T,Sml T→EP T (G.expr T)∧EP T (G.neg T)∧EP T (G.fact T)
 |0,G,h=>by cases h
 |k+1,G,h=>fun T hs=>by
  rw[gfs] at h
  injection h with h
  subst h
  have ih:=gfs_p e k
  exact⟨expr_p ih hs,neg_p ih hs,fact_p ih hs⟩
end Go.Proofs.YtkpfigikffphdaaGreatDoor
end
section
set_option maxRecDepth 1000000
namespace Go.Proofs.YtkpfigikffphdaaGreatDoor
open Go.RowKit Go.Lib
set_option maxHeartbeats 1000000 in
theorem cmp_isNaN_s (x:ByteArray) (w:World):Calls Tryz.prog 251 #[.string x] w fun e w'=>e=.returned (.bool false)∧w'=w:=by
 go_enter Tryz.func251,Tryz.ntmps251
 go_wp2
 go_ret
 exact⟨by simp,rfl⟩
set_option maxHeartbeats 1000000 in
theorem sl_isNaN_s (x:ByteArray) (w:World):Calls Tryz.prog 222 #[.string x] w fun e w'=>e=.returned (.bool false)∧w'=w:=by
 go_enter Tryz.func222,Tryz.ntmps222
 go_wp2
 go_ret
 exact⟨by simp,rfl⟩
set_option maxHeartbeats 1000000 in
theorem cmp_Less_s (x y:ByteArray) (w:World):Calls Tryz.prog 221 #[.string x,.string y] w fun e w'=>e=.returned (.bool (Op.bytesLess x.toList y.toList))∧w'=w:=by
 go_enter Tryz.func221,Tryz.ntmps221
 go_wp2_with (go_at_call 251;refine (cmp_isNaN_s _ _).mono ?_;rintro e w' ⟨rfl,rfl⟩)
 go_ret
 exact⟨rfl,rfl⟩
set_option maxHeartbeats 4000000 in
set_option maxRecDepth 1000000 in
theorem bsearch_s (b off n c:Nat) (Sx:Nat→ByteArray) (x:ByteArray) (w:World) (hbig:n<4611686018427387904) (hc:∀ j,j<n→w.cell? ⟨b,off+j,none⟩=some (.string (Sx j))) :
    Calls Tryz.prog 175 #[.slice (some ⟨b,off,none⟩) n c,.string x] w fun e w' =>
      e=.returned (.tuple #[.int .i64 (Lib.bsGo (fun t=>Op.bytesLess (Sx t).toList x.toList) n 0 n:Nat),.bool (decide (Lib.bsGo (fun t=>Op.bytesLess (Sx t).toList x.toList) n 0 n<n∧Sx (Lib.bsGo (fun t=>Op.bytesLess (Sx t).toList x.toList) n 0 n)=x))])∧∃ q,w'=w.drewN q:=by
  have mixed:=Go.Proofs.YtkpfigikffphdaaGreatDoor.mixed
  obtain⟨I,hI⟩:∃ I,Lib.bsGo (fun t=>Op.bytesLess (Sx t).toList x.toList) n 0 n=I:=⟨_,rfl⟩
  rw[hI]
  go_enter Tryz.func175,Tryz.ntmps175
  go_wp2
  go_loopg [7,8] n (fun g s7 s8 wr=>∃ lo hi q:Nat,s7=.int .i64 lo∧s8=.int .i64 hi∧lo≤hi∧hi≤n∧hi-lo≤g∧wr=w.drewN q∧Lib.bsGo (fun t=>Op.bytesLess (Sx t).toList x.toList) g lo hi=I)
  case atStart=>exact⟨0,n,0,rfl,rfl,Nat.zero_le _,Nat.le_refl _,by omega,rfl,hI⟩
  case round =>
    obtain⟨lo,hi,q,rfl,rfl,hlh,hin,hg,rfl,hb⟩:=hrel
    by_cases hlt:lo<hi
    · have cm:w.cell? ⟨b,off+(lo+hi)/2,none⟩=some (.string (Sx ((lo+hi)/2))):=hc _ (by omega)
      clear hc
      obtain⟨g',rfl⟩:∃ g',gk=g'+1:=⟨gk-1,by omega⟩
      simp only[Lib.bsGo,hlt,if_true] at hb
      obtain⟨y,hy⟩:∃ y,Sx ((lo+hi)/2)=y:=⟨_,rfl⟩
      rw[hy] at cm
      simp only[hy] at hb
      cases hyx:Op.bytesLess y.toList x.toList<;>simp only[hyx,if_true,Bool.false_eq_true,if_false] at hb
      · go_wp2_with (first|(go_at_call 221;refine (cmp_Less_s _ _ _).mono ?_;rintro e w' ⟨rfl,rfl⟩)|(go_at_call 222;refine (sl_isNaN_s _ _).mono ?_;rintro e w' ⟨rfl,rfl⟩))
        go_roundg ((lo+hi)/2-lo)
        case measure=>omega
        case rel=>exact⟨lo,(lo+hi)/2,_,rfl,by rw[show ((lo:Int)+(hi:Int))/2=(((lo+hi)/2:Nat):Int) by omega],by omega,by omega,Nat.le_refl _,rfl,by rw[← hb];exact Lib.bsGo_fuel _ _ _ _ _ (Nat.le_refl _) (by omega)⟩
      · go_wp2_with (first|(go_at_call 221;refine (cmp_Less_s _ _ _).mono ?_;rintro e w' ⟨rfl,rfl⟩)|(go_at_call 222;refine (sl_isNaN_s _ _).mono ?_;rintro e w' ⟨rfl,rfl⟩))
        go_roundg (hi-((lo+hi)/2+1))
        case measure=>omega
        case rel=>exact⟨(lo+hi)/2+1,hi,_,by rw[show ((lo:Int)+(hi:Int))/2+1=(((lo+hi)/2+1:Nat):Int) by omega],rfl,by omega,hin,Nat.le_refl _,rfl,by rw[← hb];exact Lib.bsGo_fuel _ _ _ _ _ (Nat.le_refl _) (by omega)⟩
    · have : hi=lo:=by omega
      subst this
      have hIe:I=hi:=by
        rw[← hb]
        cases gk<;>simp[Lib.bsGo]
      by_cases hn:hi<n
      · have cl:w.cell? ⟨b,off+hi,none⟩=some (.string (Sx hi)):=hc _ hn
        clear hc hb hI
        obtain⟨y,hy⟩:∃ y,Sx hi=y:=⟨_,rfl⟩
        rw[hy] at cl
        by_cases hyx:y=x
        · go_wp2_with (first|(go_at_call 221;refine (cmp_Less_s _ _ _).mono ?_;rintro e w' ⟨rfl,rfl⟩)|(go_at_call 222;refine (sl_isNaN_s _ _).mono ?_;rintro e w' ⟨rfl,rfl⟩))
          go_ret2
          refine⟨?_,_,rfl⟩
          try rw[hIe]
          rw[hy,decide_eq_true (show hi<n∧y=x from ⟨hn,hyx⟩)]
          first|rfl|simp[*]
        · have hne:(y.toList==x.toList)=false:=by
            rw[beq_eq_false_iff_ne]
            intro h
            apply hyx
            rw[Lib.toList_data,Lib.toList_data] at h
            cases y with
            |mk yd=>cases x with
              |mk xd=>exact congrArg ByteArray.mk (Array.toList_inj.1 h)
          go_wp2_with (first|(go_at_call 221;refine (cmp_Less_s _ _ _).mono ?_;rintro e w' ⟨rfl,rfl⟩)|(go_at_call 222;refine (sl_isNaN_s _ _).mono ?_;rintro e w' ⟨rfl,rfl⟩))
          all_goals
            (go_ret2
             refine⟨?_,_,rfl⟩
             try rw[hIe]
             rw[hy,decide_eq_false (show ¬ (hi<n∧y=x) from fun h=>hyx h.2)]
             first|rfl|simp[*])
      · clear hc hb hI
        go_wp2_with (first|(go_at_call 221;refine (cmp_Less_s _ _ _).mono ?_;rintro e w' ⟨rfl,rfl⟩)|(go_at_call 222;refine (sl_isNaN_s _ _).mono ?_;rintro e w' ⟨rfl,rfl⟩))
        go_ret2
        refine⟨?_,_,rfl⟩
        try rw[hIe]
        rw[decide_eq_false (show ¬ (hi<n∧Sx hi=x) from fun h=>hn h.1)]
        first|rfl|simp[*]
def strOf:PV→List UInt8
 | .str s=>s
 |_=>[]
def isStr:PV→Bool
 | .str _=>true
 |_=>false
def strAt (keys:List PV)(t:Nat):List UInt8:=strOf (keys.getD t .undef)
def placeI (keys:List PV)(x:List UInt8):Nat:=Lib.bsGo (fun t=>Op.bytesLess (strAt keys t) x) keys.length 0 keys.length
theorem str_cells {M:Mem}{keys:List PV}{cs:List Value}(hr:RelL M keys cs)(hs:keys.all isStr=true){t:Nat}(ht:t<keys.length):cs[t]? = some (.string ⟨(strAt keys t).toArray⟩):=by
 obtain⟨u,h1,_,h3⟩:=hr.get (List.getElem?_eq_getElem ht)
 rw[h1]
 have:=List.all_eq_true.1 hs _ (List.getElem_mem ht)
 unfold strAt
 rw[List.getD_eq_getElem?_getD,List.getElem?_eq_getElem ht,Option.getD_some]
 revert h3 this
 cases keys[t]<;>intro h3 h4<;>simp only[isStr,RelD,strOf,Bool.false_eq_true] at h3 h4 ⊢
 rw[h3]
theorem tl_mk (s:List UInt8):(ByteArray.mk s.toArray).toList=s:=by rw[Lib.toList_data]
theorem below_drewN (w:World)(q B:Nat):Below B w (w.drewN q):=⟨rfl,rfl,rfl,Nat.le_refl _,fun _ _=>rfl⟩
def p_bs:PFn:=⟨fun xs k=>match xs with|[.sl _ 1 n keys,.str x]=>bif keys.all isStr&&(decide (keys.length=n)&&(decide (0<n)&&decide (n≤1000000))) then k (.tuple [.int .i64 (placeI keys x:Nat),.bool (decide (placeI keys x<n)&&strAt keys (placeI keys x)==x)]) else none|_=>none,false⟩
theorem ok_bs {NG:Nat}{W:World→Prop}:FOK NG W 175 p_bs:=by
 refine fok_calls Tryz.func175 (by kernel_rfl) (by decide) ?_ rfl ?_
 ·intro R xs k
  simp only[p_bs]
  split
  ·rename_i n keys x
   rcases (keys.all isStr&&(decide (keys.length=n)&&(decide (0<n)&&decide (n≤1000000)))) with _|_<;>rfl
  ·rfl
 ·intro xs r M vs hW h hr
  simp only[p_bs] at h
  split at h
  ·rename_i nl n keys x
   rcases hb:(keys.all isStr&&(decide (keys.length=n)&&(decide (0<n)&&decide (n≤1000000)))) with _|_<;>rw[hb] at h
   ·cases h
   simp only[cond_true,Option.some.injEq] at h
   subst h
   simp only[Bool.and_eq_true,decide_eq_true_eq] at hb
   obtain⟨b1,rfl,b3,b4⟩:=hb
   obtain⟨v,u,rfl,g1,g2⟩:=relT2 hr
   simp only[RelD] at g1 g2
   subst g2
   obtain⟨A,c,cs,rfl,j1,j2,j3,j4,j5,j6,j7⟩:=g1
   have hl:=j6.length
   obtain rfl|⟨b,o,rfl,hat⟩:=j7
   ·simp only[List.length_nil] at hl;omega
   have key:=bsearch_s b o keys.length c (fun t=>⟨(strAt keys t).toArray⟩) ⟨x.toArray⟩ M.w (by omega) (fun j hj=>(hat j _ (str_cells j6 b1 hj)).1)
   simp only[tl_mk] at key
   refine key.mono ?_
   rintro e w' ⟨rfl,q,rfl⟩
   refine⟨_,rfl,below_drewN _ _ _,fun U' hm=>?_⟩
   simp only[RelD,RelT]
   refine⟨[_,_],rfl,_,_,rfl,rfl,_,_,rfl,?_,rfl⟩
   show Value.bool _=Value.bool _
   congr 1
   show decide (placeI keys x<keys.length∧(⟨(strAt keys (placeI keys x)).toArray⟩:ByteArray)=⟨x.toArray⟩)=_
   rw[Bool.eq_iff_iff]
   simp
  ·cases h
end Go.Proofs.YtkpfigikffphdaaGreatDoor
end
section
namespace Go.Proofs.YtkpfigikffphdaaGreatDoor
open Go.RowKit
def NGd:Nat:=3+1
noncomputable def Wd (w:World):Prop:=Lib.TabIs Tryz.prog w "internal/strconv.uint64pow10" .u64 Lib.pow10Tab
theorem gPow:Tryz.prog.globalNamed "internal/strconv.uint64pow10" = some 3:=by kernel_rfl
theorem wd_size {w:World}(h:Wd w):NGd≤w.heap.size:=by
 unfold Wd Lib.TabIs World.var? at h
 rw[gPow] at h
 simp only[Option.bind_some] at h
 unfold NGd
 rcases e:w.heap[3]? with _|o
 ·rw[e] at h;cases h
 ·exact (Array.getElem?_eq_some_iff.1 e).1
theorem wokd:WOK NGd Wd:=by
 intro w w' h hW
 have hg:Tryz.prog.globalNamed "internal/strconv.uint64pow10" = some 3:=by kernel_rfl
 unfold Wd Lib.TabIs World.var? at hW ⊢
 rw[hg] at hW ⊢
 rw[← hW]
 simp only[Option.bind_some]
 rw[h _ (of_decide_eq_true (by kernel_rfl))]
theorem cond_nat {R:Type}{b:Bool}{x:PV}{k:PV→Option R}:(bif b then k x else none)=(bif b then some x else none).bind k:=by cases b<;>rfl
def firstIx (c:Int):Nat→List UInt8→Int
 |_,[]=>-1
 |i,x::xs=>bif decide ((x.toNat:Int)=c) then (i:Int) else firstIx c (i+1) xs
theorem find_range (s:ByteArray)(c:UInt8):∀ (l:List UInt8) (i:Nat),(∀ j,j<l.length→s[i+j]! = l.getD j 0)→(match (List.range' i l.length).find? fun i=>s[i]! == c with|some i=>(i:Int)|none=>-1)=firstIx c.toNat i l
 |[],i,h=>rfl
 |x::l,i,h=>by
  have h0:=h 0 (by simp)
  simp only[Nat.add_zero,List.getD_cons_zero] at h0
  simp only[List.length_cons,List.range'_succ,List.find?_cons,h0,firstIx]
  by_cases e:x=c
  ·subst e
   simp
  ·have e2:(x==c)=false:=by simpa using e
   have e3:¬ ((x.toNat:Int)=(c.toNat:Int)):=fun h=>e (UInt8.toNat_inj.1 (by omega))
   rw[e2,decide_eq_false e3]
   simp only[cond_false]
   have:=find_range s c l (i+1) (fun j hj=>by have:=h (j+1) (by simpa using hj);simpa [Nat.add_assoc,Nat.add_comm 1 j] using this)
   exact this
theorem firstIdx_eq (l:List UInt8)(c:UInt8):firstIdx ⟨l.toArray⟩ c=firstIx c.toNat 0 l:=by
 unfold firstIdx
 have:=find_range ⟨l.toArray⟩ c l 0 (fun j hj=>by
  rw[Nat.zero_add]
  have hs:j<(⟨l.toArray⟩:ByteArray).size:=by simpa [ByteArray.size] using hj
  rw[getElem!_pos (⟨l.toArray⟩:ByteArray) j hs]
  simp[ByteArray.getElem_eq_getElem_data,List.getD,hj])
 rw[← List.range_eq_range'] at this
 rw[← this]
 rfl
def p_IndexByteString:PFn:=⟨fun xs k=>match xs with
 |[.str s,.int .u8 c]=>bif decide (0≤c)&&decide (c≤255) then k (.int .i64 (firstIx c 0 s)) else none
 |_=>none,false⟩
theorem ok_IndexByteString:FOK NGd Wd 304 p_IndexByteString:=by
 refine fok_ext ?_ rfl ?_
 ·intro R xs k
  simp only[p_IndexByteString]
  split
  ·exact cond_nat
  ·rfl
 ·intro xs r M vs h hr
  simp only[p_IndexByteString] at h
  split at h
  ·rename_i s c
   rcases hb:(decide (0≤c)&&decide (c≤255)) with _|_<;>rw[hb] at h
   ·cases h
   ·simp only[cond_true,Option.some.injEq] at h
    subst h
    simp only[Bool.and_eq_true,decide_eq_true_eq] at hb
    obtain⟨v,u,rfl,h1,h2⟩:=relT2 hr
    simp only[RelD] at h1 h2
    subst h1 h2
    refine⟨_,?_,rfl⟩
    rw[run_callFunc_extern Tryz.func304 (by kernel_rfl) (by kernel_rfl) (by kernel_rfl) (e:=Extern.BytealgIndexByte.indexByte) (by kernel_rfl)]
    show ((Extern.BytealgIndexByte.indexByte #[.string ⟨s.toArray⟩,.int .u8 c]).run _ _).andThen _=_
    rw[run_indexByte_string,firstIdx_eq]
    have e:((c.toNat.toUInt8).toNat:Int)=c:=by
     simp
     omega
    rw[e]
    rfl
  ·cases h
def decD:Nat→Nat→List UInt8
 |0,_=>[]
 |k+1,u=>bif decide (u<10) then [UInt8.ofNat (48+u)] else decD k (u/10)++[UInt8.ofNat (48+u%10)]
theorem decD_eq:∀ (k u:Nat),u<10^(k+1)→decD (k+1) u=Lib.decDigits u
 |k,u,h=>by
  rw[Lib.decDigits,decD]
  by_cases hu:u<10
  ·rw[decide_eq_true hu,dif_pos hu];rfl
  ·rw[decide_eq_false hu,dif_neg hu,cond_false]
   match k,h with
   |0,h=>omega
   |k+1,h=>rw[decD_eq k (u/10) (by rw[Nat.pow_succ] at h;omega)]
def itoaD (n:Int):List UInt8:=bif decide (n<0) then 45::decD 20 n.natAbs else decD 20 n.toNat
theorem itoaD_eq (n:Int)(h0:-9223372036854775808≤n)(h1:n≤9223372036854775807):itoaD n=Lib.itoa n:=by
 unfold itoaD Lib.itoa
 by_cases h:n<0
 ·rw[decide_eq_true h,if_pos h,cond_true,decD_eq 19 _ (by omega)]
 ·rw[decide_eq_false h,if_neg h,cond_false,decD_eq 19 _ (by omega)]
def p_Itoa:PFn:=⟨fun xs k=>match xs with
 |[.int .i64 n]=>bif decide (-9223372036854775808≤n)&&decide (n≤9223372036854775807) then k (.str (itoaD n)) else none
 |_=>none,false⟩
theorem ok_Itoa:FOK NGd Wd 89 p_Itoa:=by
 refine fok_calls Tryz.func89 (by kernel_rfl) (by decide) ?_ rfl ?_
 ·intro R xs k
  simp only[p_Itoa]
  split
  ·exact cond_nat
  ·rfl
 ·intro xs r M vs hW h hr
  simp only[p_Itoa] at h
  split at h
  ·rename_i n
   rcases hb:(decide (-9223372036854775808≤n)&&decide (n≤9223372036854775807)) with _|_<;>rw[hb] at h
   ·cases h
   ·simp only[cond_true,Option.some.injEq] at h
    subst h
    simp only[Bool.and_eq_true,decide_eq_true_eq] at hb
    obtain⟨v,rfl,h1⟩:=relT1 hr
    simp only[RelD] at h1
    subst h1
    refine (Any.strconv_Itoa Tryz.laysM171 n hb.1 hb.2 M.w hW).mono ?_
    rintro e w' ⟨rfl,k,os,rfl⟩
    refine⟨_,rfl,?_,fun U' _=>?_⟩
    ·exact (Go.below_drewN (Below.refl _ _) k).trans ⟨rfl,rfl,rfl,by simp[Sort.grow],fun b hb=>by simp only[Sort.grow];rw[Array.getElem?_append_left (Nat.lt_of_lt_of_le hb (Go.below_drewN (Below.refl M.w.heap.size _) k).size)]⟩
    ·simp only[RelD]
     rw[itoaD_eq n hb.1 hb.2]
  ·cases h
end Go.Proofs.YtkpfigikffphdaaGreatDoor
namespace Go.Proofs.YtkpfigikffphdaaGreatDoor
open Go.RowKit
def N2 (h l:Int):Int:=h * 18446744073709551616+l
def hiI (n:Int):Int:=n/18446744073709551616%18446744073709551616
def loI (n:Int):Int:=n%18446744073709551616
end Go.Proofs.YtkpfigikffphdaaGreatDoor
namespace Go.Proofs.YtkpfigikffphdaaGreatDoor
open Go.RowKit
theorem v1 {q:Nat}:hiI (2 * q)=hiI (2 * q+1:Nat):=by unfold hiI;omega
theorem v2 {q:Nat}:loI (2 * q)+1=loI (2 * q+1:Nat):=by unfold loI;omega
theorem v3 {r b:Nat}(hb:b≤1):N2 (hiI (2 * r)) (loI (2 * r)+b)=(2 * (r:Int)+b)%340282366920938463463374607431768211456:=by unfold N2 hiI loI;omega
theorem v4 {y:Int}{z:Nat}(h:(y-z)%340282366920938463463374607431768211456=0):hiI y=hiI z∧loI y=loI z:=by unfold hiI loI;omega
theorem v5 {r b:Nat}(hb:b≤1):hiI (2 * r)=hiI (2 * r+b:Nat):=by unfold hiI;omega
end Go.Proofs.YtkpfigikffphdaaGreatDoor
namespace Go.Proofs.YtkpfigikffphdaaGreatDoor
open Go.RowKit
theorem w1 {q:Int}:IntKind.u64.wrap (hiI q+(loI q+1+0)/18446744073709551616)=hiI (q+1):=by rw[wrapU];unfold hiI loI;omega
theorem w2 {q:Int}:(loI q+1+0)%18446744073709551616=loI (q+1):=by unfold loI;omega
def sgn (n:Int)(m:Bool):Int:=bif m then -n else n
def over64 (n:Int):Bool:=decide (n < -9223372036854775808)||decide (9223372036854775807<n)
end Go.Proofs.YtkpfigikffphdaaGreatDoor
end
section
namespace Go.Proofs.YtkpfigikffphdaaGreatDoor
open Go.RowKit
theorem law_run {NG:Nat}{W:World→Prop}(hW:WOK NG W){l:List (FuncId×PFn)}(hl:AllOK NG W l){f:FuncId}{fn:Func}(hf:Tryz.prog.funcs[f]? = some fn){h:Hints}{fuel:Nat}{w:World}{xs:List PV}{vs:List Value}
  (hw:W w) (hng:NG≤w.heap.size) (hr:RelT ⟨w,fun _=>0,⟨0,fun _ _=>none⟩⟩ xs vs) (hrun:prun (en l) h fuel false fn xs=some (.bool true)) :
  Calls Tryz.prog f vs.toArray w fun e w'=>e=.returned (.bool true)∧Below w.heap.size w w':=by
 refine (run_ok (env_ok hW hl) rfl hf (M:=⟨w,fun _=>0,⟨0,fun _ _=>none⟩⟩) hw hng (fun g cs hg=>by cases hg) hr hrun).mono ?_
 rintro e w' ⟨v,rfl,U',hm,hv,_⟩
 simp only[RelD] at hv
 subst hv
 exact⟨rfl,hm.os,hm.tape,hm.output,hm.size,fun b hb=>(hm.block b hb (by simp)).1⟩
def inI (x:Int):Bool:=decide (-9223372036854775808≤x)&&decide (x≤9223372036854775807)
theorem inI_iff {x:Int}:inI x=true ↔ -9223372036854775808≤x∧x≤9223372036854775807:=by
 simp only[inI,Bool.and_eq_true,decide_eq_true_eq]
def scaleB (s:Int):Bool:=decide (0≤s)&&decide (s≤6)
theorem scaleB_iff {s:Int}:scaleB s=true↔0≤s∧s≤6:=by simp only[scaleB,Bool.and_eq_true,decide_eq_true_eq]
def p_Right:PFn:=⟨fun xs k=>match xs with|[.int .i64 s]=>k (.bool (scaleB s))|_=>none,false⟩
theorem right_raw (l:List (FuncId×PFn))(s:Int)(fuel:Nat):prun (en l) ⟨[],[]⟩ fuel false Tryz.f163 [.int .i64 s]=some (.bool (decide (0≤s)&&decide (s≤6))):=by kernel_rfl
theorem ok_Right:FOK NGd Wd 163 p_Right:=by
 refine fok wokd allOK_nil (h:=⟨[],[]⟩) Tryz.func163 rfl (by decide) ?_ ?_
 ·intro R xs k
  simp only[p_Right]
  split<;>rfl
 ·intro xs r h
  simp only[p_Right] at h
  split at h
  ·exact⟨0,(right_raw [] _ 0).trans h⟩
  ·cases h
def room {R:Type}(l m:Nat)(x:Option R):Option R:=bif decide (l+m≤9223372036854775807)&&decide ((l+m) * 8≤140737488355328) then x else none
end Go.Proofs.YtkpfigikffphdaaGreatDoor
namespace Go.Proofs.YtkpfigikffphdaaGreatDoor
open Go.RowKit
theorem carry {A B:Nat}(i:Nat):A/10^i+B/10^i≤(A+B)/10^i∧(A+B)/10^i≤A/10^i+B/10^i+1:=by
 have hp:0<10^i:=Nat.pow_pos (by decide)
 have h1:=Nat.div_add_mod A (10^i)
 have h2:=Nat.div_add_mod B (10^i)
 have h3:=Nat.mod_lt A hp
 have h4:=Nat.mod_lt B hp
 generalize 10^i=p at *
 refine⟨(Nat.le_div_iff_mul_le hp).2 ?_,Nat.le_of_lt_succ ((Nat.div_lt_iff_lt_mul hp).2 ?_)⟩
 ·rw[Nat.add_mul,Nat.mul_comm _ p,Nat.mul_comm _ p];omega
 ·show A+B<(A/p+B/p+2) * p
  rw[Nat.add_mul,Nat.add_mul,Nat.mul_comm (A/p) p,Nat.mul_comm (B/p) p];omega
end Go.Proofs.YtkpfigikffphdaaGreatDoor
namespace Go.Proofs.YtkpfigikffphdaaGreatDoor
open Go.RowKit
end Go.Proofs.YtkpfigikffphdaaGreatDoor
namespace Go.Proofs.YtkpfigikffphdaaGreatDoor
open Go.RowKit
end Go.Proofs.YtkpfigikffphdaaGreatDoor
namespace Go.Proofs.YtkpfigikffphdaaGreatDoor
open Go.RowKit
end Go.Proofs.YtkpfigikffphdaaGreatDoor
namespace Go.Proofs.YtkpfigikffphdaaGreatDoor
open Go.RowKit
end Go.Proofs.YtkpfigikffphdaaGreatDoor
namespace Go.Proofs.YtkpfigikffphdaaGreatDoor
open Go.RowKit
end Go.Proofs.YtkpfigikffphdaaGreatDoor
end
section
namespace Go.Proofs.YtkpfigikffphdaaGreatDoor
open Go.RowKit
def ErrIs (w:World)(name:String):Prop:=∃ tp p,w.var? Tryz.prog name=some #[.iface tp p]
def We (w:World):Prop:=Wd w∧ErrIs w "strconv.ErrSyntax" ∧ ErrIs w "strconv.ErrRange"
theorem gSyntax:Tryz.prog.globalNamed "strconv.ErrSyntax" = some 8:=by kernel_rfl
theorem gRange:Tryz.prog.globalNamed "strconv.ErrRange" = some 9:=by kernel_rfl
def NGe:Nat:=max NGd (max (8+1) (9+1))
theorem nge_d:NGd≤NGe:=by unfold NGe;omega
theorem err_size {w:World}{name:String}{g:Nat}(hg:Tryz.prog.globalNamed name=some g)(h:ErrIs w name):g+1≤w.heap.size:=by
 obtain⟨tp,p,h⟩:=h
 unfold World.var? at h
 rw[hg] at h
 simp only[Option.bind_some] at h
 rcases e:w.heap[g]? with _|o
 ·rw[e] at h;cases h
 ·exact (Array.getElem?_eq_some_iff.1 e).1
theorem we_size {w:World}(h:We w):NGe≤w.heap.size:=by
 have h1:=wd_size h.1
 have h2:=err_size gSyntax h.2.1
 have h3:=err_size gRange h.2.2
 unfold NGe
 omega
theorem woke:WOK NGe We:=by
 intro w w' h hW
 refine⟨wokd w w' (fun b hb=>h b (Nat.lt_of_lt_of_le hb nge_d)) hW.1,?_,?_⟩
 ·obtain⟨tp,p,hv⟩:=hW.2.1
  refine⟨tp,p,?_⟩
  rw[← hv]
  unfold World.var?
  rw[gSyntax]
  simp only[Option.bind_some]
  rw[h _ (of_decide_eq_true (by kernel_rfl))]
 ·obtain⟨tp,p,hv⟩:=hW.2.2
  refine⟨tp,p,?_⟩
  rw[← hv]
  unfold World.var?
  rw[gRange]
  simp only[Option.bind_some]
  rw[h _ (of_decide_eq_true (by kernel_rfl))]
theorem fok_mono {W V:World→Prop}(h:∀ w,V w→W w){f:FuncId}{p:PFn}(hp:FOK NGd W f p):FOK NGe V f p where
 nat:=hp.nat
 call:=fun M xs vs r hW hng=>hp.call M xs vs r (h _ hW) (Nat.le_trans nge_d hng)
theorem we_d:∀ w,We w→Wd w:=fun w h=>h.1
def ixB {R:Type}(s:List UInt8)(i:Int)(K:UInt8→Option R):Option R:=bif decide (0≤i)&&decide (i<(s.length:Int)) then s[i.toNat]?.bind K else none
theorem ixB_eq {R:Type}{s:List UInt8}{i:Nat}{c:UInt8}{K:UInt8→Option R}(h:s[i]? = some c):ixB s (i:Int) K=K c:=by
 have:=(List.getElem?_eq_some_iff.1 h).1
 unfold ixB
 rw[cond_t (by rw[decide_eq_true (by omega),decide_eq_true (by omega)];rfl),Int.toNat_natCast,h]
 rfl
def isD (c:UInt8):Bool:=decide (48≤c.toNat)&&decide (c.toNat≤57)
def digB (s:List UInt8):Bool:=s.all isD&&!(s==[])
def hDig:Hints:=⟨[],[(0,⟨[(0,false),(5,false),(6,false)],[]⟩)]⟩
def frDig (s:List UInt8)(n i:Int):St:=frame 22 [(0,(.str s,0)),(5,(.int .i64 n,0)),(6,(.int .i64 i,0))] []
noncomputable def digLoop (fu n:Nat)(st:St):Option PV:=loopF (en []) hDig fu false Tryz.f249 [1,0,1,0] 0 n st
theorem dig_raw (fu:Nat)(s:List UInt8):prun (en []) hDig fu false Tryz.f249 [.str s]=digLoop fu fu (frDig s (s.length:Int) 0):=by kernel_rfl
theorem dig_step (fu:Nat)(s:List UInt8)(n i:Int)(K:St→Option PV) :
  stepF (en []) hDig fu false Tryz.f249 [1,0,1,0] (frDig s n i) (fun st=>pnorm (hDig.loop.lookup 0) st K) =
  bif decide (i<n) then ixB s i fun v=>bif !decide ((v.toNat:Int)<48) then ixB s i fun v=>bif decide (57<(v.toNat:Int)) then some (.bool false) else K (frDig s n (IntKind.i64.wrap (i+1))) else some (.bool false)
  else some (.bool (!(s==[]))):=by kernel_rfl
theorem dig_loop (fu:Nat)(s:List UInt8)(hs:s.length≤10000):∀ (m i n:Nat),i+m=s.length→m<n→digLoop fu n (frDig s (s.length:Int) (i:Int))=some (.bool ((s.drop i).all isD&&!(s==[])))
 |m,i,0,_,h=>by omega
 |0,i,n+1,hi,hn=>by
  unfold digLoop
  rw[loopF_succ,dig_step,cond_f (decide_eq_false (by omega)),List.drop_of_length_le (by omega)]
  rfl
 |m+1,i,n+1,hi,hn=>by
  unfold digLoop
  have hc:=List.getElem?_eq_getElem (l:=s) (i:=i) (by omega)
  rw[loopF_succ,dig_step,cond_t (decide_eq_true (by omega)),ixB_eq hc,ixB_eq hc,wrapI_of (by omega) (by omega),List.drop_eq_getElem_cons (by omega),List.all_cons]
  generalize s[i]=c
  have ih:=dig_loop fu s hs m (i+1) n (by omega) (by omega)
  unfold digLoop at ih
  unfold isD
  by_cases h1:48≤c.toNat
  ·rw[cond_t (by rw[decide_eq_false (by omega)];rfl),decide_eq_true h1]
   by_cases h2:c.toNat≤57
   ·rw[cond_f (decide_eq_false (by omega)),decide_eq_true h2]
    exact ih
   ·rw[cond_t (decide_eq_true (by omega)),decide_eq_false h2];rfl
  ·rw[cond_f (by rw[decide_eq_true (by omega)];rfl),decide_eq_false h1];rfl
def p_digits:PFn:=⟨fun xs k=>match xs with|[.str s]=>bif decide (s.length≤5000) then k (.bool (digB s)) else none|_=>none,false⟩
theorem ok_digits:FOK NGd Wd 249 p_digits:=by
 refine fok wokd allOK_nil (h:=hDig) Tryz.func249 rfl (by decide) ?_ ?_
 ·intro R xs k
  simp only[p_digits]
  split
  ·exact cond_nat
  ·rfl
 ·intro xs r h
  simp only[p_digits] at h
  split at h
  ·rename_i s
   rcases hb:decide (s.length≤5000) with _|_<;>rw[hb] at h
   ·cases h
   ·simp only[cond_true,Option.some.injEq] at h
    subst h
    simp only[decide_eq_true_eq] at hb
    refine⟨10000,(dig_raw 10000 s).trans ?_⟩
    exact dig_loop 10000 s (by omega) s.length 0 10000 (by omega) (by omega)
  ·cases h
def hasM (s:List UInt8):Bool:=s.head? == some 45
def p_HasPrefix:PFn:=⟨fun xs k=>match xs with|[.str s,.str [45]]=>k (.bool (hasM s))|_=>none,false⟩
theorem hasp_raw (s:List UInt8):prun (en []) ⟨[],[]⟩ 0 false Tryz.f242 [.str s,.str [45]] =
  bif decide (1≤(s.length:Int)) then bif decide (1≤(s.length:Int)) then some (.bool ((s.take 1).drop 0==[45])) else none else some (.bool false):=by kernel_rfl
theorem ok_HasPrefix:FOK NGd Wd 242 p_HasPrefix:=by
 refine fok wokd allOK_nil (h:=⟨[],[]⟩) Tryz.func242 rfl (by decide) ?_ ?_
 ·intro R xs k
  simp only[p_HasPrefix]
  split<;>rfl
 ·intro xs r h
  simp only[p_HasPrefix] at h
  split at h
  ·rename_i s
   refine⟨0,(hasp_raw s).trans ?_⟩
   rw[← h]
   cases s with
   |nil=>rfl
   |cons c t =>
    rw[cond_t (decide_eq_true (by simp;omega)),cond_t (decide_eq_true (by simp;omega))]
    simp[hasM]
  ·cases h
def noM (s:List UInt8):List UInt8:=bif hasM s then s.drop 1 else s
def p_CutP:PFn:=⟨fun xs k=>match xs with|[.str s,.str [45]]=>k (.tuple [.str (noM s),.bool (hasM s)])|_=>none,false⟩
theorem cutp_raw (s:List UInt8):prun (en [(242,p_HasPrefix)]) ⟨[],[]⟩ 0 false Tryz.f217 [.str s,.str [45]] =
  bif !hasM s then some (.tuple [.str s,.bool false]) else bif decide (1≤(s.length:Int)) then some (.tuple [.str ((s.take s.length).drop 1),.bool true]) else none:=by kernel_rfl
theorem ok_CutPl:FOK NGd Wd 217 p_CutP:=by
 refine fok wokd (allOK_cons ok_HasPrefix allOK_nil) (h:=⟨[],[]⟩) Tryz.func217 rfl (by decide) ?_ ?_
 ·intro R xs k
  simp only[p_CutP]
  split<;>rfl
 ·intro xs r h
  simp only[p_CutP] at h
  split at h
  ·rename_i s
   refine⟨0,(cutp_raw s).trans ?_⟩
   rw[← h]
   unfold noM
   cases hm:hasM s
   ·rfl
   ·have:s≠[]:=by intro e;subst e;cases hm
    have hl:0<s.length:=List.length_pos_iff.2 this
    simp only[Bool.not_true,cond_false,cond_true]
    rw[cond_t (decide_eq_true (by omega)),List.take_length]
  ·cases h
theorem cutpo_raw (s:List UInt8):prun (en [(217,p_CutP)]) ⟨[],[]⟩ 0 false Tryz.f164 [.str s,.str [45]]=some (.tuple [.str (noM s),.bool (hasM s)]):=by kernel_rfl
theorem ok_CutP:FOK NGd Wd 164 p_CutP:=by
 refine fok wokd (allOK_cons ok_CutPl allOK_nil) (h:=⟨[],[]⟩) Tryz.func164 rfl (by decide) ?_ ?_
 ·intro R xs k
  simp only[p_CutP]
  split<;>rfl
 ·intro xs r h
  simp only[p_CutP] at h
  split at h
  ·rename_i s
   exact⟨0,(cutpo_raw s).trans h⟩
  ·cases h
def notP (c:UInt8):Bool:=!(c==46)
def cutA (s:List UInt8):List UInt8:=s.takeWhile notP
def cutR (s:List UInt8):List UInt8:=(s.dropWhile notP).drop 1
def cutB (s:List UInt8):Bool:=s.any fun c=>c==46
theorem first_ix (s:List UInt8):∀ i,firstIx 46 i s=bif cutB s then ((i+(cutA s).length:Nat):Int) else -1:=by
 induction s with
 |nil=>intro i;rfl
 |cons c s ih =>
  intro i
  unfold firstIx cutB cutA
  by_cases h:c=46
  ·subst h;simp[notP]
  ·have h1:¬ ((c.toNat:Int)=46):=by
    intro e
    apply h
    apply UInt8.toNat_inj.1
    simp only[UInt8.reduceToNat];omega
   have h2:(c==46)=false:=by simpa using h
   rw[decide_eq_false h1,cond_false,ih]
   simp only[List.any_cons,h2,Bool.false_or,List.takeWhile_cons,notP,Bool.not_false,if_true,List.length_cons]
   unfold cutB cutA notP
   cases s.any fun c=>c==46<;>simp<;>omega
def p_IndexByte:PFn:=⟨fun xs k=>match xs with|[.str s,.int .u8 c]=>bif decide (0≤c)&&decide (c≤255) then k (.int .i64 (firstIx c 0 s)) else none|_=>none,false⟩
theorem ixbyte_raw (s:List UInt8)(c:Int):prun (en [(304,p_IndexByteString)]) ⟨[],[]⟩ 0 false Tryz.f295 [.str s,.int .u8 c]=bif decide (0≤c)&&decide (c≤255) then some (.int .i64 (firstIx c 0 s)) else none:=by kernel_rfl
theorem ok_IndexByte:FOK NGd Wd 295 p_IndexByte:=by
 refine fok wokd (allOK_cons ok_IndexByteString allOK_nil) (h:=⟨[],[]⟩) Tryz.func295 rfl (by decide) ?_ ?_
 ·intro R xs k
  simp only[p_IndexByte]
  split
  ·exact cond_nat
  ·rfl
 ·intro xs r h
  simp only[p_IndexByte] at h
  split at h
  ·exact⟨0,(ixbyte_raw _ _).trans h⟩
  ·cases h
def p_Index:PFn:=⟨fun xs k=>match xs with|[.str s,.str [46]]=>k (.int .i64 (bif [46]==s then 0 else firstIx 46 0 s))|_=>none,false⟩
theorem index_raw (s:List UInt8):prun (en [(295,p_IndexByte)]) ⟨[],[]⟩ 0 false Tryz.f276 [.str s,.str [46]]=bif (false||([46]==s)) then some (.int .i64 0) else some (.int .i64 (firstIx 46 0 s)):=by kernel_rfl
theorem ok_Index:FOK NGd Wd 276 p_Index:=by
 refine fok wokd (allOK_cons ok_IndexByte allOK_nil) (h:=⟨[],[]⟩) Tryz.func276 rfl (by decide) ?_ ?_
 ·intro R xs k
  simp only[p_Index]
  split<;>rfl
 ·intro xs r h
  simp only[p_Index] at h
  split at h
  ·rename_i s
   refine⟨0,(index_raw s).trans ?_⟩
   rw[← h]
   cases [46]==s<;>rfl
  ·cases h
def p_Cut:PFn:=⟨fun xs k=>match xs with|[.str s,.str [46]]=>bif decide (s.length≤5000) then k (.tuple [.str (cutA s),.str (cutR s),.bool (cutB s)]) else none|_=>none,false⟩
theorem cut_raw (s:List UInt8)(i:Int)(hi:(bif [46]==s then 0 else firstIx 46 0 s)=i):prun (en [(276,p_Index)]) ⟨[],[]⟩ 0 false Tryz.f273 [.str s,.str [46]] =
  bif decide (0≤i) then bif decide (0≤i)&&decide (i≤(s.length:Int)) then bif decide (0≤IntKind.i64.wrap (i+1))&&decide (IntKind.i64.wrap (i+1)≤(s.length:Int)) then
   some (.tuple [.str ((s.take i.toNat).drop 0),.str ((s.take s.length).drop (IntKind.i64.wrap (i+1)).toNat),.bool true]) else none else none
  else some (.tuple [.str s,.str [],.bool false]):=by
 subst hi
 kernel_rfl
theorem cut_ix (s:List UInt8):(bif [46]==s then 0 else firstIx 46 0 s)=bif cutB s then (((cutA s).length:Nat):Int) else -1:=by
 by_cases h:[46]=s
 ·subst h;rfl
 ·have:([46]==s)=false:=by simpa using h
  rw[this,cond_false,first_ix]
  simp
theorem cut_none {s:List UInt8}(h:cutB s=false):cutA s=s∧cutR s=[]:=by
 induction s with
 |nil=>exact⟨rfl,rfl⟩
 |cons c s ih =>
  unfold cutB at h
  simp only[List.any_cons,Bool.or_eq_false_iff] at h
  obtain⟨i1,i2⟩:=ih h.2
  have hn:notP c=true:=by unfold notP;rw[h.1];rfl
  unfold cutA cutR at *
  rw[List.takeWhile_cons,List.dropWhile_cons,hn]
  simp only[if_true,i1,i2]
  exact⟨trivial,trivial⟩
theorem cut_some {s:List UInt8}(h:cutB s=true):s=cutA s++46::cutR s∧(cutA s).length<s.length:=by
 induction s with
 |nil=>cases h
 |cons c s ih =>
  unfold cutA cutR
  rw[List.takeWhile_cons,List.dropWhile_cons]
  by_cases hc:c=46
  ·subst hc
   simp[notP]
  ·have hn:notP c=true:=by unfold notP;simpa using hc
   have h2:cutB s=true:=by
    unfold cutB at h ⊢
    simp only[List.any_cons,Bool.or_eq_true,beq_iff_eq] at h
    rcases h with h|h
    ·exact (hc h).elim
    ·exact h
   obtain⟨i1,i2⟩:=ih h2
   rw[hn]
   simp only[if_true,List.cons_append,List.length_cons]
   unfold cutA cutR at i1
   unfold cutA at i2
   exact⟨congrArg (c :: ·) i1,by omega⟩
theorem ok_Cutl:FOK NGd Wd 273 p_Cut:=by
 refine fok wokd (allOK_cons ok_Index allOK_nil) (h:=⟨[],[]⟩) Tryz.func273 rfl (by decide) ?_ ?_
 ·intro R xs k
  simp only[p_Cut]
  split
  ·exact cond_nat
  ·rfl
 ·intro xs r h
  simp only[p_Cut] at h
  split at h
  ·rename_i s
   rcases hb:decide (s.length≤5000) with _|_<;>rw[hb] at h
   ·cases h
   ·simp only[cond_true,Option.some.injEq] at h
    subst h
    simp only[decide_eq_true_eq] at hb
    refine⟨0,(cut_raw s _ (cut_ix s)).trans ?_⟩
    cases hc:cutB s
    ·obtain⟨e1,e2⟩:=cut_none hc
     rw[e1,e2];rfl
    ·obtain⟨e1,e2⟩:=cut_some hc
     simp only[cond_true]
     have hw:IntKind.i64.wrap (((cutA s).length:Int)+1)=((cutA s).length:Int)+1:=wrapI_of (by omega) (by omega)
     rw[cond_t (decide_eq_true (by omega)),cond_t (by rw[decide_eq_true (by omega),decide_eq_true (by omega)];rfl)]
     simp only[hw]
     rw[cond_t (by rw[decide_eq_true (by omega),decide_eq_true (by omega)];rfl),List.take_length,List.drop_zero,Int.toNat_natCast,show ((((cutA s).length:Nat):Int)+1).toNat=(cutA s).length+1 by omega]
     have t1:s.take (cutA s).length=cutA s:=by
      conv=>lhs;arg 2;rw[e1]
      exact List.take_left
     have t2:s.drop ((cutA s).length+1)=cutR s:=by
      conv=>lhs;arg 2;rw[e1]
      rw[show cutA s++46::cutR s=(cutA s++[46])++cutR s by simp]
      exact List.drop_left' (by simp)
     rw[t1,t2]
  ·cases h
theorem cuto_raw (s:List UInt8):prun (en [(273,p_Cut)]) ⟨[],[]⟩ 0 false Tryz.f248 [.str s,.str [46]]=bif decide (s.length≤5000) then some (.tuple [.str (cutA s),.str (cutR s),.bool (cutB s)]) else none:=by kernel_rfl
theorem ok_Cut:FOK NGd Wd 248 p_Cut:=by
 refine fok wokd (allOK_cons ok_Cutl allOK_nil) (h:=⟨[],[]⟩) Tryz.func248 rfl (by decide) ?_ ?_
 ·intro R xs k
  simp only[p_Cut]
  split
  ·exact cond_nat
  ·rfl
 ·intro xs r h
  simp only[p_Cut] at h
  split at h
  ·exact⟨0,(cuto_raw _).trans h⟩
  ·cases h
def atoK {R:Type}(s:List UInt8)(A:Int→Option R)(B:Option R)(C:Int→Option R):Option R :=
 match Lib.atoiAll s with
 | .ok v=>A v
 | .range=>C (Lib.atoiSat s)
 |_=>B
def p_Atoi:PFn:=⟨fun xs k=>match xs with|[.str s]=>bif decide (s.length≤10000) then atoK s (fun v=>k (.tuple [.int .i64 v,.nilIface])) (k (.tuple [.int .i64 0,.iface 284 .nptr])) (fun v=>k (.tuple [.int .i64 v,.iface 284 .nptr])) else none|_=>none,false⟩
theorem ok_Atoi:FOK NGe We 250 p_Atoi:=by
 refine fok_calls Tryz.func250 (by kernel_rfl) (by decide) ?_ rfl ?_
 ·intro R xs k
  simp only[p_Atoi]
  split
  ·rename_i s
   unfold atoK
   cases decide (s.length≤10000)
   ·rfl
   ·simp only[cond_true]
    cases Lib.atoiAll s<;>rfl
  ·rfl
 ·intro xs r M vs hW h hr
  simp only[p_Atoi] at h
  split at h
  ·rename_i s
   rcases hb:decide (s.length≤10000) with _|_<;>rw[hb] at h
   ·cases h
   ·simp only[cond_true] at h
    simp only[decide_eq_true_eq] at hb
    obtain⟨v,rfl,h1⟩:=relT1 hr
    simp only[RelD] at h1
    subst h1
    have hsz:(ByteArray.mk s.toArray).size≤10000:=by show s.toArray.size≤10000;simpa using hb
    obtain⟨_,⟨t1,q1,e1⟩,⟨t2,q2,e2⟩⟩:=hW
    unfold atoK at h
    cases ha:Lib.atoiAll s<;>rw[ha] at h<;>dsimp only at h
    ·rename_i n
     simp only[Option.some.injEq] at h
     subst h
     refine (Any.strconv_Atoi_ok Tryz.laysC172 ⟨s.toArray⟩ (by omega) n (by simpa using ha) M.w).mono ?_
     rintro e w' ⟨rfl,hw⟩
     refine⟨_,rfl,?_,fun U' _=>?_⟩
     ·rcases hw with rfl|⟨t,rfl⟩
      ·exact Below.refl _ _
      ·exact Go.Joins.below_bytesWorld _ _ _ _ (Nat.le_refl _)
     ·simp only[RelD,RelT]
      exact⟨[_,_],rfl,_,_,rfl,rfl,_,_,rfl,rfl,rfl⟩
    ·simp only[Option.some.injEq] at h
     subst h
     refine (Any.strconv_Atoi_syntax_var Tryz.laysC172 ⟨s.toArray⟩ (by omega) (by simpa using ha) t1 q1 M.w e1).mono ?_
     rintro e w' ⟨N,rfl,_,_,hbl⟩
     refine⟨_,rfl,hbl,fun U' _=>?_⟩
     simp only[RelD,RelT]
     exact⟨[_,_],rfl,_,_,rfl,rfl,_,_,rfl,⟨_,rfl,_,rfl⟩,rfl⟩
    ·simp only[Option.some.injEq] at h
     subst h
     refine (Any.strconv_Atoi_range_var Tryz.laysC172 ⟨s.toArray⟩ (by omega) (by simpa using ha) t2 q2 M.w e2).mono ?_
     rintro e w' ⟨N,rfl,_,_,hbl⟩
     refine⟨_,rfl,hbl,fun U' _=>?_⟩
     simp only[RelD,RelT]
     exact⟨[_,_],rfl,_,_,rfl,rfl,_,_,rfl,⟨_,rfl,_,rfl⟩,rfl⟩
  ·cases h
end Go.Proofs.YtkpfigikffphdaaGreatDoor
namespace Go.Proofs.YtkpfigikffphdaaGreatDoor
open Go.RowKit
def vacc (a:Nat)(l:List UInt8):Nat:=l.foldl (fun a c=>a * 10+(c.toNat-48)) a
def digV (l:List UInt8):Nat:=vacc 0 l
theorem vacc_ge:∀ (l:List UInt8) (a:Nat),a≤vacc a l
 |[],a=>Nat.le_refl _
 |c::l,a=>Nat.le_trans (by omega) (vacc_ge l (a * 10+(c.toNat-48)))
theorem pu10:∀ (l:List UInt8) (a:Nat),l.all isD=true→a<18446744073709551616→Lib.parseUint10 a l=if vacc a l<18446744073709551616 then .ok (vacc a l) else .range
 |[],a,_,h=>by
  show Lib.NumEnd.ok a=if a<_ then _ else _
  rw[if_pos h];rfl
 |c::l,a,hd,h=>by
  rw[List.all_cons,Bool.and_eq_true] at hd
  have hc:=hd.1
  unfold isD at hc
  simp only[Bool.and_eq_true,decide_eq_true_eq] at hc
  have e:vacc a (c::l)=vacc (a * 10+(c.toNat-48)) l:=rfl
  have hge:=vacc_ge l (a * 10+(c.toNat-48))
  unfold Lib.parseUint10
  rw[if_pos hc,e]
  by_cases h1:1844674407370955162≤a
  ·rw[if_pos h1,if_neg (by omega)]
  ·rw[if_neg h1]
   by_cases h2:18446744073709551616≤a * 10+(c.toNat-48)
   ·rw[if_pos h2,if_neg (by omega)]
   ·rw[if_neg h2]
    exact pu10 l _ hd.2 (by omega)
theorem atoi_digits {d:List UInt8}{m:Bool}(hd:d.all isD=true)(hne:d≠[]):Lib.atoiAll ((bif m then [45] else [])++d)=bif over64 (sgn (digV d) m) then .range else .ok (sgn (digV d) m):=by
 have hp:Lib.parseMag d=if digV d<18446744073709551616 then .ok (digV d) else .range:=by
  unfold Lib.parseMag
  rw[if_neg hne]
  exact pu10 d 0 hd (by decide)
 cases m
 ·obtain⟨c,r,rfl⟩:=List.exists_cons_of_ne_nil hne
  rw[List.all_cons,Bool.and_eq_true] at hd
  have hc:=hd.1
  unfold isD at hc
  simp only[Bool.and_eq_true,decide_eq_true_eq] at hc
  rw[cond_false,List.nil_append,Lib.atoiAll_plain c r (by omega) (by omega),hp]
  generalize digV (c::r)=N
  unfold sgn over64
  rw[cond_false,decide_eq_false (show ¬ (N:Int) < -9223372036854775808 by omega),Bool.false_or]
  by_cases h:N<18446744073709551616
  ·rw[if_pos h]
   unfold Lib.signless
   by_cases k:9223372036854775807<(N:Int)
   ·rw[decide_eq_true k]
    simp only[cond_true]
    rw[if_pos (by omega)]
   ·rw[decide_eq_false k]
    simp only[cond_false]
    rw[if_neg (by omega)]
  ·rw[if_neg h,decide_eq_true (by omega)];rfl
 ·rw[cond_true,List.singleton_append,Lib.atoiAll_minus,hp]
  generalize digV d=N
  unfold sgn over64
  rw[cond_true,decide_eq_false (show ¬ 9223372036854775807 < -(N:Int) by omega),Bool.or_false]
  by_cases h:N<18446744073709551616
  ·rw[if_pos h]
   unfold Lib.signed
   by_cases k:-(N:Int) < -9223372036854775808
   ·rw[decide_eq_true k]
    simp only[cond_true]
    rw[if_pos (by omega)]
   ·rw[decide_eq_false k]
    simp only[cond_false]
    rw[if_neg (by omega)]
  ·rw[if_neg h,decide_eq_true (by omega)];rfl
def badP (w r:List UInt8)(pt:Bool):Bool:=!digB w||(decide (1<w.length)&&(w.head? == some 48))||(pt&&(!digB r||decide (6<r.length)))
def valP (w r:List UInt8)(pt m:Bool):Option (Int×Nat) :=
 bif badP w r pt then none else bif over64 (sgn (digV (w++r)) m)||(sgn (digV (w++r)) m==0&&m) then none else some (sgn (digV (w++r)) m,r.length)
def parseP (s:List UInt8):Option (Int×Nat):=valP (cutA (noM s)) (cutR (noM s)) (cutB (noM s)) (hasM s)
def resP (o:Option (Int×Nat)):PV:=.tuple [.int .i64 (o.elim 0 fun p=>p.1),.int .i64 (o.elim 0 fun p=>(p.2:Int)),.bool o.isSome]
def failP:Option PV:=some (.tuple [.int .i64 0,.int .i64 0,.bool false])
def tailC (w r:List UInt8)(m:Bool)(pre:List UInt8):Option PV :=
 bif decide (pre.length+w.length≤9223372036854775807) then bif decide ((pre++w).length+r.length≤9223372036854775807) then bif decide ((pre++w++r).length≤10000) then
  atoK (pre++w++r) (fun n=>bif n==0&&m then failP else some (.tuple [.int .i64 n,.int .i64 (r.length:Int),.bool true])) failP (fun _=>failP)
 else none else none else none
def tailP (w r:List UInt8)(m:Bool):Option PV:=bif m then tailC w r m [45] else tailC w r m []
def digO {R:Type}(s:List UInt8)(k:Bool→Option R):Option R:=bif decide (s.length≤5000) then k (digB s) else none
def skelP {R:Type}(Q L pt X:Bool)(I:(Bool→Option R)→Option R)(D:(Bool→Option R)→Option R)(F T:Option R):Option R :=
 bif !!Q&&L then I fun z=>bif !z&&pt then D fun d=>bif !d||X then F else T else bif !z&&pt then none else bif !z&&pt then none else bif !z&&pt then none else bif z||(pt&&false) then F else T
 else bif !!Q&&L then none else
  bif !(!Q||(L&&false))&&pt then D fun d=>bif !d||X then F else T else
  bif !(!Q||(L&&false))&&pt then none else bif !(!Q||(L&&false))&&pt then none else bif !(!Q||(L&&false))&&pt then none else
  bif !Q||(L&&false)||(pt&&false) then F else T
theorem skelP_eq {R:Type}{Q L pt X z d:Bool}{I D:(Bool→Option R)→Option R}{F T:Option R}(hI:L=true→∀ K,I K=K z)(hD:∀ K,D K=K d):skelP Q L pt X I D F T=bif !Q||(L&&z)||(pt&&(!d||X)) then F else T:=by
 unfold skelP
 simp only[hD]
 cases L
 ·cases Q<;>cases pt<;>cases d<;>cases X<;>rfl
 ·simp only[hI rfl]
  cases Q<;>cases pt<;>cases d<;>cases X<;>cases z<;>rfl
def parseBody (b:List UInt8)(m:Bool):Option PV :=
 bif decide (b.length≤5000) then
  digO (cutA b) fun Q=>skelP Q (decide (1<((cutA b).length:Int))) (cutB b) (decide (6<((cutR b).length:Int))) (fun K=>ixB (cutA b) 0 fun v=>K ((v.toNat:Int)==48)) (digO (cutR b)) failP (tailP (cutA b) (cutR b) m)
 else none
noncomputable def lParse:List (FuncId×PFn):=[(164,p_CutP),(248,p_Cut),(249,p_digits),(250,p_Atoi)]
theorem ok_lParse:AllOK NGe We lParse:=allOK_cons (fok_mono we_d ok_CutP) (allOK_cons (fok_mono we_d ok_Cut) (allOK_cons (fok_mono we_d ok_digits) (allOK_cons ok_Atoi allOK_nil)))
theorem parse_raw (s:List UInt8):prun (en lParse) ⟨[],[]⟩ 0 false Tryz.f220 [.str s]=parseBody (noM s) (hasM s):=by kernel_rfl
theorem noM_len (s:List UInt8):(noM s).length≤s.length:=by unfold noM;cases hasM s<;>simp
theorem cut_len (s:List UInt8):(cutA s).length+(cutR s).length≤s.length:=by
 cases h:cutB s
 ·obtain⟨e1,e2⟩:=cut_none h
  rw[e1,e2];simp
 ·have:=congrArg List.length (cut_some h).1
  simp only[List.length_append,List.length_cons] at this
  omega
theorem digB_iff {s:List UInt8}:digB s=true↔s.all isD=true∧s≠[]:=by unfold digB;simp
theorem tail_eq {w r:List UInt8}{m:Bool}(hw:digB w=true)(hr:r.all isD=true)(hl:w.length+r.length≤5000) :
  tailP w r m=some (resP (bif over64 (sgn (digV (w++r)) m)||(sgn (digV (w++r)) m==0&&m) then none else some (sgn (digV (w++r)) m,r.length))):=by
 rw[digB_iff] at hw
 have hd:(w++r).all isD=true:=by rw[List.all_append,hw.1,hr];rfl
 have hne:w++r≠[]:=by simp[hw.2]
 have key:tailC w r m (bif m then [45] else [])=some (resP (bif over64 (sgn (digV (w++r)) m)||(sgn (digV (w++r)) m==0&&m) then none else some (sgn (digV (w++r)) m,r.length))):=by
  have hpl:(bif m then [45] else []:List UInt8).length≤1:=by cases m<;>simp
  unfold tailC
  rw[cond_t (decide_eq_true (by omega)),cond_t (decide_eq_true (by simp only[List.length_append];omega)),cond_t (decide_eq_true (by simp only[List.length_append];omega)),List.append_assoc]
  unfold atoK
  rw[atoi_digits hd hne]
  cases ho:over64 (sgn (digV (w++r)) m)
  ·simp only[cond_false,Bool.false_or]
   cases hz:sgn (digV (w++r)) m==0&&m
   ·rfl
   ·rfl
  ·rfl
 unfold tailP
 cases m
 ·exact key
 ·exact key
theorem ixB_head {R:Type}{w:List UInt8}{K:UInt8→Option R}(c:UInt8)(t:List UInt8)(h:w=c::t):ixB w 0 K=K c:=by
 subst h
 exact ixB_eq (i:=0) rfl
theorem parse_body {s:List UInt8}(hs:s.length≤4000):parseBody (noM s) (hasM s)=some (resP (parseP s)):=by
 have h1:=noM_len s
 have h2:=cut_len (noM s)
 unfold parseBody parseP valP
 generalize noM s=b at *
 have hz:decide (1<((cutA b).length:Int))=true→∀ (K:Bool→Option PV),(ixB (cutA b) 0 fun v=>K ((v.toNat:Int)==48))=K ((cutA b).head? == some 48):=by
  intro hL K
  simp only[decide_eq_true_eq] at hL
  obtain⟨c,t,e⟩:=List.exists_cons_of_ne_nil (show cutA b≠[] by intro e;rw[e] at hL;simp at hL)
  rw[ixB_head c t e,e]
  congr 1
  simp only[List.head?_cons]
  rw[Bool.eq_iff_iff]
  simp only[beq_iff_eq,Option.some.injEq]
  constructor
  ·intro k;apply UInt8.toNat_inj.1;simp only[UInt8.reduceToNat];omega
  ·intro k;subst k;rfl
 have hD:∀ (x:List UInt8),x.length≤5000→∀ (K:Bool→Option PV),digO x K=K (digB x):=by
  intro x hx K
  unfold digO
  exact cond_t (decide_eq_true hx)
 rw[cond_t (decide_eq_true (by omega)),hD _ (by omega),skelP_eq hz (hD (cutR b) (by omega))]
 have eL:decide (1<((cutA b).length:Int))=decide (1<(cutA b).length):=by congr 1;simp only[eq_iff_iff];omega
 have eX:decide (6<((cutR b).length:Int))=decide (6<(cutR b).length):=by congr 1;simp only[eq_iff_iff];omega
 rw[eL,eX]
 have eb:(!digB (cutA b)||decide (1<(cutA b).length)&&(cutA b).head? == some 48||cutB b&&(!digB (cutR b)||decide (6<(cutR b).length)))=badP (cutA b) (cutR b) (cutB b):=rfl
 rw[eb]
 cases hb:badP (cutA b) (cutR b) (cutB b)
 ·simp only[cond_false]
  unfold badP at hb
  simp only[Bool.or_eq_false_iff] at hb
  have hw:digB (cutA b)=true:=by have:=hb.1.1;simpa using this
  have hr:(cutR b).all isD=true:=by
   cases hc:cutB b
   ·rw[(cut_none hc).2];rfl
   ·have:=hb.2
    rw[hc,Bool.true_and,Bool.or_eq_false_iff] at this
    have h3:digB (cutR b)=true:=by simpa using this.1
    exact (digB_iff.1 h3).1
  exact tail_eq hw hr (by omega)
 ·rfl
def p_Parse:PFn:=⟨fun xs k=>match xs with|[.str s]=>bif decide (s.length≤4000) then k (resP (parseP s)) else none|_=>none,false⟩
theorem ok_Parse:FOK NGe We 220 p_Parse:=by
 refine fok woke ok_lParse (h:=⟨[],[]⟩) Tryz.func220 rfl (by decide) ?_ ?_
 ·intro R xs k
  simp only[p_Parse]
  split
  ·exact cond_nat
  ·rfl
 ·intro xs r h
  simp only[p_Parse] at h
  split at h
  ·rename_i s
   rcases hb:decide (s.length≤4000) with _|_<;>rw[hb] at h
   ·cases h
   ·simp only[decide_eq_true_eq] at hb
    exact⟨0,(parse_raw s).trans ((parse_body hb).trans h)⟩
  ·cases h
end Go.Proofs.YtkpfigikffphdaaGreatDoor
namespace Go.Proofs.YtkpfigikffphdaaGreatDoor
open Go.RowKit
end Go.Proofs.YtkpfigikffphdaaGreatDoor
namespace Go.Proofs.YtkpfigikffphdaaGreatDoor
open Go.RowKit
theorem ch_nat {d:Nat}(h:d<10):(UInt8.ofNat (48+d)).toNat=48+d:=by simp;omega
theorem ch_isD {d:Nat}(h:d<10):isD (UInt8.ofNat (48+d))=true:=by
 unfold isD
 rw[ch_nat h,decide_eq_true (by omega),decide_eq_true (by omega)];rfl
theorem vacc_app (a:Nat)(l:List UInt8)(c:UInt8):vacc a (l++[c])=vacc a l * 10+(c.toNat-48):=by simp[vacc]
theorem head_app {l:List UInt8}{t:List UInt8}(h:l≠[]):(l++t).head? = l.head? := by
 obtain⟨c,r,e⟩:=List.exists_cons_of_ne_nil h
 rw[e];rfl
theorem decD_facts:∀ (k u:Nat),u<10^(k+1)→(decD (k+1) u).all isD=true∧decD (k+1) u≠[]∧digV (decD (k+1) u)=u∧(decD (k+1) u).length≤k+1∧(0<u→∀ c,(decD (k+1) u).head? = some c→c≠48)∧(1<(decD (k+1) u).length→0<u)
 |k, u, hu=>by
  unfold decD
  by_cases h:u<10
  ·rw[decide_eq_true h,cond_true]
   refine⟨by rw[List.all_cons,ch_isD h];rfl,by simp,?_,by simp,?_,by simp⟩
   ·show 0 * 10+((UInt8.ofNat (48+u)).toNat-48)=u
    rw[ch_nat h];omega
   ·intro hp c hc
    simp only[List.head?_cons,Option.some.injEq] at hc
    subst hc
    intro e
    have:=congrArg UInt8.toNat e
    rw[ch_nat h] at this
    simp at this;omega
  ·rw[decide_eq_false h,cond_false]
   match k,hu with
   |0,hu=>simp at hu;omega
   |k+1,hu =>
    have hq:u/10<10^(k+1):=(Nat.div_lt_iff_lt_mul (by decide)).2 (by rw[Nat.pow_succ] at hu;exact hu)
    obtain⟨f1,f2,f3,f4,f5,f6⟩:=decD_facts k (u/10) hq
    have hm:u%10<10:=Nat.mod_lt _ (by decide)
    refine⟨by rw[List.all_append,f1,List.all_cons,ch_isD hm];rfl,by simp,?_,by simp;omega,?_,fun _=>by omega⟩
    ·unfold digV at *
     rw[vacc_app,f3,ch_nat hm];omega
    ·intro hp c hc
     rw[head_app f2] at hc
     exact f5 (by omega) c hc
def dS (N:Nat):List UInt8:=decD 20 N
theorem dS_facts {N:Nat}(h:N<10^20):(dS N).all isD=true∧dS N≠[]∧digV (dS N)=N∧(dS N).length≤20∧(0<N→∀ c,(dS N).head? = some c→c≠48)∧(1<(dS N).length→0<N):=decD_facts 19 N h
def padS (t:List UInt8)(k:Nat):List UInt8:=List.replicate (k+1-t.length) 48++t
def catM (m:Bool)(t:List UInt8):Option PV:=bif m then bif decide (([45]:List UInt8).length+t.length≤9223372036854775807) then some (.str ([45]++t)) else none else some (.str t)
def prFin (x:List UInt8)(sc:Int)(m:Bool):Option PV :=
 bif decide (0<sc) then
  bif decide (0≤IntKind.i64.wrap ((x.length:Int)-sc))&&decide (IntKind.i64.wrap ((x.length:Int)-sc)≤(x.length:Int)) then
   bif decide (((x.take (IntKind.i64.wrap ((x.length:Int)-sc)).toNat).drop 0).length+([46]:List UInt8).length≤9223372036854775807) then
    bif decide (0≤IntKind.i64.wrap ((x.length:Int)-sc))&&decide (IntKind.i64.wrap ((x.length:Int)-sc)≤(x.length:Int)) then
     bif decide ((((x.take (IntKind.i64.wrap ((x.length:Int)-sc)).toNat).drop 0)++[46]).length+((x.take x.length).drop (IntKind.i64.wrap ((x.length:Int)-sc)).toNat).length≤9223372036854775807) then
      catM m (((x.take (IntKind.i64.wrap ((x.length:Int)-sc)).toNat).drop 0)++[46]++((x.take x.length).drop (IntKind.i64.wrap ((x.length:Int)-sc)).toNat))
     else none
    else none
   else none
  else none
 else catM m x
def dotS (p:List UInt8)(k:Nat):List UInt8:=bif decide (0<k) then p.take (p.length-k)++[46]++p.drop (p.length-k) else p
def printS (N:Nat)(m:Bool)(k:Nat):List UInt8:=(bif m then [45] else [])++dotS (padS (dS N) k) k
theorem catM_eq {m:Bool}{t:List UInt8}(h:t.length≤10000):catM m t=some (.str ((bif m then [45] else [])++t)):=by
 unfold catM
 cases m
 ·rfl
 ·rw[cond_true,cond_t (decide_eq_true (by simp;omega))];rfl
theorem prFin_eq {x:List UInt8}{k:Nat}{m:Bool}(hk:k<x.length)(hx:x.length≤5000):prFin x (k:Int) m=some (.str ((bif m then [45] else [])++dotS x k)):=by
 unfold prFin dotS
 have hw:IntKind.i64.wrap ((x.length:Int)-(k:Int))=(x.length:Int)-(k:Int):=wrapI_of (by omega) (by omega)
 have ht:((x.length:Int)-(k:Int)).toNat=x.length-k:=by omega
 by_cases h:0<k
 ·rw[cond_t (decide_eq_true (by omega)),decide_eq_true h,cond_true]
  simp only[hw,ht]
  have hb:(decide (0≤(x.length:Int)-(k:Int))&&decide ((x.length:Int)-(k:Int)≤(x.length:Int)))=true:=by rw[decide_eq_true (by omega),decide_eq_true (by omega)];rfl
  rw[hb,List.take_length,List.drop_zero]
  have l1:(x.take (x.length-k)).length=x.length-k:=by rw[List.length_take];omega
  rw[cond_true,cond_true,cond_t (decide_eq_true (by rw[l1];simp;omega)),cond_t (decide_eq_true (by simp only[List.length_append,l1,List.length_drop,List.length_cons,List.length_nil];omega)),catM_eq (by simp only[List.length_append,l1,List.length_drop,List.length_cons,List.length_nil];omega)]
 ·rw[cond_f (decide_eq_false (by omega)),decide_eq_false h,cond_false,catM_eq (by omega)]
theorem pad_step {t:List UInt8}{k:Nat}(h:t.length≤k):padS (48::t) k=padS t k:=by
 unfold padS
 rw[show k+1-t.length=(k+1-(48::t).length)+1 by simp only[List.length_cons];omega,List.replicate_succ',List.append_assoc]
 rfl
theorem pad_done {t:List UInt8}{k:Nat}(h:k<t.length):padS t k=t:=by
 unfold padS
 rw[show k+1-t.length=0 by omega];rfl
def hPr:Hints:=⟨[],[(0,⟨[(1,false),(5,false),(6,false)],[]⟩)]⟩
noncomputable def lPr:List (FuncId×PFn):=[(163,p_Right),(164,p_CutP),(89,p_Itoa)]
theorem ok_lPr:AllOK NGd Wd lPr:=allOK_cons ok_Right (allOK_cons ok_CutP (allOK_cons ok_Itoa allOK_nil))
def frPr (sc:Int)(x:List UInt8)(m:Bool):St:=frame 42 [(1,(.int .i64 sc,0)),(5,(.str x,0)),(6,(.bool m,0))] []
noncomputable def prLoop (fu n:Nat)(st:St):Option PV:=loopF (en lPr) hPr fu false Tryz.f83 [1,1,1,0,0] 0 n st
theorem pr_raw (fu:Nat)(n sc:Int):prun (en lPr) hPr fu false Tryz.f83 [.int .i64 n,.int .i64 sc] =
  bif !scaleB sc then some (.str []) else bif decide (-9223372036854775808≤n)&&decide (n≤9223372036854775807) then prLoop fu fu (frPr sc (noM (itoaD n)) (hasM (itoaD n))) else none:=by kernel_rfl
theorem pr_step (fu:Nat)(sc:Int)(x:List UInt8)(m:Bool)(K:St→Option PV) :
  stepF (en lPr) hPr fu false Tryz.f83 [1,1,1,0,0] (frPr sc x m) (fun st=>pnorm (hPr.loop.lookup 0) st K) =
  bif decide ((x.length:Int)≤sc) then bif decide (([48]:List UInt8).length+x.length≤9223372036854775807) then K (frPr sc ([48]++x) m) else none else prFin x sc m:=by kernel_rfl
theorem pr_loop (fu:Nat)(k:Nat)(hk:k≤6)(m:Bool):∀ (j n:Nat) (x:List UInt8),k+1≤x.length+j→j<n→x.length≤100→prLoop fu n (frPr (k:Int) x m)=some (.str ((bif m then [45] else [])++dotS (padS x k) k))
 |j,0,_,_,h,_=>by omega
 |j,n+1,x,hj,hn,hx=>by
  unfold prLoop
  rw[loopF_succ,pr_step]
  by_cases h:x.length≤k
  ·rw[cond_t (decide_eq_true (by omega)),cond_t (decide_eq_true (by simp;omega))]
   have ih:=pr_loop fu k hk m (j-1) n (48::x) (by simp;omega) (by omega) (by simp;omega)
   rw[pad_step h] at ih
   unfold prLoop at ih
   exact ih
  ·rw[cond_f (decide_eq_false (by omega)),prFin_eq (by omega) (by omega),pad_done (by omega)]
theorem noM_digits {t:List UInt8}(h:t.all isD=true):noM t=t∧hasM t=false:=by
 have:hasM t=false:=by
  unfold hasM
  cases t with
  |nil=>rfl
  |cons c t =>
   rw[List.all_cons,Bool.and_eq_true] at h
   have hc:=h.1
   simp only[List.head?_cons]
   rw[beq_eq_false_iff_ne]
   intro e
   injection e with e
   subst e
   simp[isD] at hc
 unfold noM
 rw[this]
 exact⟨rfl,rfl⟩
theorem itoa_cut {n:Int}(h:inI n=true):noM (itoaD n)=dS n.natAbs∧hasM (itoaD n)=decide (n<0):=by
 rw[inI_iff] at h
 have f:=(dS_facts (N:=n.natAbs) (by omega)).1
 unfold itoaD
 by_cases k:n<0
 ·rw[decide_eq_true k,cond_true]
  exact⟨rfl,rfl⟩
 ·rw[decide_eq_false k,cond_false,show n.toNat=n.natAbs by omega]
  exact noM_digits f
def prV (n sc:Int):List UInt8:=bif scaleB sc then printS n.natAbs (decide (n<0)) sc.toNat else []
def p_Print:PFn:=⟨fun xs k=>match xs with|[.int .i64 n,.int .i64 sc]=>bif inI n then k (.str (prV n sc)) else none|_=>none,false⟩
theorem ok_Print:FOK NGd Wd 83 p_Print:=by
 refine fok wokd ok_lPr (h:=hPr) Tryz.func83 rfl (by decide) ?_ ?_
 ·intro R xs k
  simp only[p_Print]
  split
  ·exact cond_nat
  ·rfl
 ·intro xs r h
  simp only[p_Print] at h
  split at h
  ·rename_i n sc
   rcases hb:inI n with _|_<;>rw[hb] at h
   ·cases h
   ·simp only[cond_true,Option.some.injEq] at h
    subst h
    refine⟨10000,(pr_raw 10000 n sc).trans ?_⟩
    unfold prV
    cases hs:scaleB sc
    ·rfl
    ·rw[scaleB_iff] at hs
     obtain⟨e1,e2⟩:=itoa_cut hb
     rw[inI_iff] at hb
     have f:=(dS_facts (N:=n.natAbs) (by omega)).2.2.2.1
     rw[Bool.not_true,cond_false,cond_true,cond_t (by rw[decide_eq_true hb.1,decide_eq_true hb.2];rfl),e1,e2]
     obtain⟨k,rfl⟩:=Int.eq_ofNat_of_zero_le hs.1
     have:=pr_loop 10000 k (by omega) (decide (n<0)) 7 10000 (dS n.natAbs) (by omega) (by omega) (by omega)
     rw[Int.toNat_natCast]
     exact this
  ·cases h
end Go.Proofs.YtkpfigikffphdaaGreatDoor
namespace Go.Proofs.YtkpfigikffphdaaGreatDoor
open Go.RowKit
end Go.Proofs.YtkpfigikffphdaaGreatDoor
end
section
namespace Go.Proofs.YtkpfigikffphdaaGreatDoor
open Go.RowKit
def NGk:Nat:=max (4+1) (5+1)
theorem tabs_size {w:World}(h:Tabs w):NGk≤w.heap.size:=by
 have h1:=World.block_lt_of_cell? w _ (h.2 0 (by decide)).1
 have h2:=World.block_lt_of_cell? w _ (h.1 0 (by decide))
 exact Nat.max_le.2 ⟨h2,h1⟩
theorem wokk:WOK NGk Tabs:=by
 intro w w' h hW
 have hc:∀ (b o:Nat),b<NGk→w'.cell? ⟨b,o,none⟩=w.cell? ⟨b,o,none⟩:=by
  intro b o hb
  unfold World.cell?
  simp only[h b hb]
 refine⟨fun c hlt=>?_,fun i hi=>?_⟩
 ·rw[hc _ _ (by decide)];exact hW.1 c hlt
 ·rw[hc _ _ (by decide),hc _ _ (by decide)];exact hW.2 i hi
def p_valid:PFn:=⟨fun xs k=>match xs with|[.str s]=>bif decide (s.length≤1000000) then k (.bool (Lib.validD s)) else none|_=>none,false⟩
theorem ok_valid:FOK NGk Tabs 257 p_valid:=by
 refine fok_calls Tryz.func257 (by kernel_rfl) (by decide) ?_ rfl ?_
 ·intro R xs k
  simp only[p_valid]
  split
  ·exact cond_nat
  ·rfl
 ·intro xs r M vs hW h hr
  simp only[p_valid] at h
  split at h
  ·rename_i s
   rcases hb:decide (s.length≤1000000) with _|_<;>rw[hb] at h
   ·cases h
   ·simp only[cond_true,Option.some.injEq] at h
    subst h
    simp only[decide_eq_true_eq] at hb
    obtain⟨v,rfl,h1⟩:=relT1 hr
    simp only[RelD] at h1
    subst h1
    refine (valid_any s M.w (by omega) hW).mono ?_
    rintro e w' ⟨rfl,hbl⟩
    exact⟨_,rfl,hbl,fun U' _=>rfl⟩
  ·cases h
def scB (s:Int):Bool:=decide (0≤s)&&decide (s≤6)
def p_sc:PFn:=⟨fun xs k=>match xs with|[.int .i64 s]=>k (.bool (scB s))|_=>none,false⟩
theorem sc_raw1 (l:List (FuncId×PFn))(s:Int)(fuel:Nat):prun (en l) ⟨[],[]⟩ fuel false Tryz.f163 [.int .i64 s]=some (.bool (decide (0≤s)&&decide (s≤6))):=by kernel_rfl
theorem ok_scR:FOK NGk Tabs 163 p_sc:=by
 refine fok wokk allOK_nil (h:=⟨[],[]⟩) Tryz.func163 rfl (by decide) ?_ ?_
 ·intro R xs k
  simp only[p_sc]
  split<;>rfl
 ·intro xs r h
  simp only[p_sc] at h
  split at h
  ·exact⟨0,(sc_raw1 [] _ 0).trans h⟩
  ·cases h
def rightB (a n c:Int)(s:List UInt8):Bool :=
 bif a==0 then n==0&&(c==0&&s==[]) else
 bif a==1 then (n==0||n==1)&&(c==0&&s==[]) else
 bif a==2 then c==0&&s==[] else
 bif a==3 then s==[]&&scB c else
 bif a==4 then n==0&&(c==0&&(decide (s.length≤200)&&Lib.validD s)) else
 bif a==5 then n==0&&(c==0&&decide (s.length≤200)) else false
def utO {R:Type}(s:List UInt8)(k:Bool→Option R):Option R:=bif decide (s.length≤1000000) then k (Lib.validD s) else none
noncomputable def lRight:List (FuncId×PFn):=[(163,p_sc),(257,p_valid)]
def eq4 (a a' n n' c c':Int)(s s':List UInt8):Bool:=a==a'&&(n==n'&&(c==c'&&(s==s'&&true)))
def rightBody (a n c:Int)(s:List UInt8):Option PV :=
 bif a==0 then some (.bool (eq4 a 0 n 0 c 0 s [])) else
 bif a==1 then some (.bool (eq4 a 1 n (IntKind.i64.wrap (BitVec.ofInt IntKind.i64.bits n &&& BitVec.ofInt IntKind.i64.bits 1).toNat) c 0 s [])) else
 bif a==2 then some (.bool (eq4 a 2 n n c 0 s [])) else
 bif a==3 then bif eq4 a 3 n n c c s [] then some (.bool (scB c)) else some (.bool false) else
 bif a==4 then bif eq4 a 4 n 0 c 0 s s&&decide ((s.length:Int)≤200) then utO s fun b=>some (.bool b) else some (.bool false) else
 bif a==5 then some (.bool (eq4 a 5 n 0 c 0 s s&&decide ((s.length:Int)≤200))) else some (.bool false)
theorem vright_raw (a n c:Int)(s:List UInt8):prun (en lRight) ⟨[],[]⟩ 0 false Tryz.f231 [.agg [.int .i64 a,.int .i64 n,.int .i64 c,.str s]]=rightBody a n c s:=by kernel_rfl
theorem and_one (n:Int):IntKind.i64.wrap (BitVec.ofInt IntKind.i64.bits n &&& BitVec.ofInt IntKind.i64.bits 1).toNat=n%2:=by
 have h:(BitVec.ofInt IntKind.i64.bits n &&& BitVec.ofInt IntKind.i64.bits 1).toNat=(n%2).toNat:=by
  rw[BitVec.toNat_and]
  have h1:(BitVec.ofInt IntKind.i64.bits 1).toNat=1:=rfl
  have h2:(BitVec.ofInt IntKind.i64.bits n).toNat=(n%18446744073709551616).toNat:=BitVec.toNat_ofInt ..
  rw[h1,h2,Nat.and_one_is_mod]
  omega
 rw[h,wrapI_of (by omega) (by omega)]
 omega
theorem right_body (a n c:Int) (s:List UInt8) (hs:s.length≤1000000):rightBody a n c s=some (.bool (rightB a n c s)):=by
  unfold rightBody rightB eq4
  simp only [Bool.and_true]
  have hl:decide ((s.length:Int)≤200)=decide (s.length≤200):=by congr 1;simp only [eq_iff_iff];omega
  have hn:(n == n % 2)=(n == 0 || n == 1):=by
    rw [Bool.eq_iff_iff]
    simp only [Bool.or_eq_true,beq_iff_eq]
    omega
  rw [and_one,hn,hl]
  by_cases h0:a=0
  · subst h0;rfl
  · rw [show (a == 0)=false by simpa using h0]
    by_cases h1:a=1
    · subst h1;rfl
    · rw [show (a == 1)=false by simpa using h1]
      by_cases h2:a=2
      · subst h2;simp
      · rw [show (a == 2)=false by simpa using h2]
        by_cases h3:a=3
        · subst h3
          simp only [cond_false,cond_true,beq_self_eq_true,Bool.true_and]
          cases s == []<;>rfl
        · rw [show (a == 3)=false by simpa using h3]
          by_cases h4:a=4
          · subst h4
            simp only [cond_false,cond_true,beq_self_eq_true,Bool.true_and,Bool.and_true]
            unfold utO
            rw [decide_eq_true hs]
            cases n == 0<;>cases c == 0<;>cases decide (s.length≤200)<;>rfl
          · rw [show (a == 4)=false by simpa using h4]
            by_cases h5:a=5
            · subst h5
              simp only [cond_false,cond_true,beq_self_eq_true,Bool.true_and,Bool.and_true]
              cases n == 0<;>cases c == 0<;>rfl
            · rw [show (a == 5)=false by simpa using h5];rfl
def p_rightV:PFn:=⟨fun xs k=>match xs with|[.agg [.int .i64 a,.int .i64 n,.int .i64 c,.str s]]=>bif decide (s.length≤1000000) then k (.bool (rightB a n c s)) else none|_=>none,false⟩
theorem ok_rightV:FOK NGk Tabs 231 p_rightV:=by
 refine fok wokk (allOK_cons ok_scR (allOK_cons ok_valid allOK_nil)) (h:=⟨[],[]⟩) Tryz.func231 rfl (by decide) ?_ ?_
 ·intro R xs k
  simp only[p_rightV]
  split
  ·exact cond_nat
  ·rfl
 ·intro xs r h
  simp only[p_rightV] at h
  split at h
  ·rename_i a n c s
   rcases hb:decide (s.length≤1000000) with _|_<;>rw[hb] at h
   ·cases h
   ·simp only[decide_eq_true_eq] at hb
    exact⟨0,(vright_raw a n c s).trans ((right_body a n c s hb).trans h)⟩
  ·cases h
end Go.Proofs.YtkpfigikffphdaaGreatDoor
end
section
set_option maxRecDepth 100000
namespace Go.Proofs.YtkpfigikffphdaaGreatDoor
open Go.RowKit
def NGc:Nat:=max NGe NGk
noncomputable def Wc (w:World):Prop:=We w∧Tabs w
theorem wokc:WOK NGc Wc:=fun w w' h hW=>⟨woke w w' (fun b hb=>h b (by unfold NGc;omega)) hW.1,wokk w w' (fun b hb=>h b (by unfold NGc;omega)) hW.2⟩
theorem fok_d {f:FuncId}{p:PFn}(hp:FOK NGd Wd f p):FOK NGc Wc f p where
 nat:=hp.nat
 call:=fun M xs vs r hW hng=>hp.call M xs vs r hW.1.1 (Nat.le_trans nge_d (by unfold NGc at hng;omega))
theorem fok_e {f:FuncId}{p:PFn}(hp:FOK NGe We f p):FOK NGc Wc f p where
 nat:=hp.nat
 call:=fun M xs vs r hW hng=>hp.call M xs vs r hW.1 (by unfold NGc at hng;omega)
theorem fok_k {f:FuncId}{p:PFn}(hp:FOK NGk Tabs f p):FOK NGc Wc f p where
 nat:=hp.nat
 call:=fun M xs vs r hW hng=>hp.call M xs vs r hW.2 (by unfold NGc at hng;omega)
def tyB (k s:Int):Bool:=bif k==3 then scB s else decide (1≤k)&&decide (k≤5)&&s==0
def p_typ:PFn:=⟨fun xs k=>match xs with|[.agg [.int .i64 a,.int .i64 b]]=>k (.bool (tyB a b))|_=>none,false⟩
theorem p_typ_nat:p_typ.nat:=by
 intro R xs k
 simp only[p_typ]
 split<;>rfl
theorem typ_raw (a b:Int):prun (en [(163,p_sc)]) ⟨[],[]⟩ 0 false Tryz.f82 [.agg [.int .i64 a,.int .i64 b]] =
  bif a==3 then some (.bool (scB b)) else some (.bool (decide (1≤a)&&decide (a≤5)&&b==0)):=by kernel_rfl
theorem ok_typ:FOK NGc Wc 82 p_typ:=by
 refine fok wokc (allOK_cons (fok_k ok_scR) allOK_nil) (h:=⟨[],[]⟩) Tryz.func82 rfl (by decide) p_typ_nat ?_
 intro xs r h
 simp only[p_typ] at h
 split at h
 ·rename_i a b
  refine⟨0,(typ_raw a b).trans ?_⟩
  rw[← h]
  unfold tyB
  cases a==3<;>rfl
 ·cases h
end Go.Proofs.YtkpfigikffphdaaGreatDoor
set_option maxRecDepth 100000
namespace Go.Proofs.YtkpfigikffphdaaGreatDoor
open Go.RowKit
end Go.Proofs.YtkpfigikffphdaaGreatDoor
set_option maxRecDepth 100000
namespace Go.Proofs.YtkpfigikffphdaaGreatDoor
open Go.RowKit
end Go.Proofs.YtkpfigikffphdaaGreatDoor
set_option maxRecDepth 100000
namespace Go.Proofs.YtkpfigikffphdaaGreatDoor
open Go.RowKit
end Go.Proofs.YtkpfigikffphdaaGreatDoor
end
section
set_option maxRecDepth 100000
namespace Go.Proofs.YtkpfigikffphdaaGreatDoor
open Go.RowKit
def NGs:Nat:=max NGc (max (2+1) (0+1))
def HasMax (w:World):Prop:=∃ m,w.cell? ⟨2,0,none⟩=some (.int .i64 m)
def HasSpc (w:World):Prop:=Lib.TabIs Tryz.prog w "strings.asciiSpace" .u8 Lib.asciiSpaceTab
noncomputable def Ws (w:World):Prop:=Wc w∧HasMax w∧HasSpc w
theorem ngs_c:NGc≤NGs:=by unfold NGs;omega
theorem woks:WOK NGs Ws:=fun w w' h hW=>by
 refine⟨wokc w w' (fun b hb=>h b (Nat.lt_of_lt_of_le hb ngs_c)) hW.1,?_,?_⟩
 ·obtain⟨m,hm⟩:=hW.2.1
  refine⟨m,?_⟩
  unfold World.cell? at hm ⊢
  rw[show w'.heap[2]? = w.heap[2]? from h _ (by unfold NGs;omega)]
  exact hm
 ·have:=hW.2.2
  unfold HasSpc Lib.TabIs World.var? at this ⊢
  rw[show Tryz.prog.globalNamed "strings.asciiSpace" = some 0 by kernel_rfl,Option.bind_some] at this ⊢
  rw[show w'.heap[0]? = w.heap[0]? from h _ (by unfold NGs;omega)]
  exact this
theorem fok_s {f:FuncId}{p:PFn}(hp:FOK NGc Wc f p):FOK NGs Ws f p where
 nat:=hp.nat
 call:=fun M xs vs r hW hng=>hp.call M xs vs r hW.1 (Nat.le_trans ngs_c hng)
theorem fok_calls' {NG:Nat}{W:World→Prop}{f:FuncId}{fn:Func}(hf:Tryz.prog.funcs[f]? = some fn)(hb:fn.body.isSome=true)(hname:fn.name ≠ "runtime.NumGoroutine"){p:PFn}(hn:p.nat)(ho:p.own=false)
  (hrun:∀ (xs:List PV) (r:PV) (M:Mem) (vs:List Value),W M.w→p.F xs (R:=PV) some=some r→RelT M xs vs→Calls Tryz.prog f vs.toArray M.w fun e w'=>∃ v,e=.returned v∧∃ U',Move M ⟨w',U',M.y⟩ none∧RelD ⟨w',U',M.y⟩ r v):FOK NG W f p where
 nat:=hn
 call:=by
  intro M xs vs r hW hng hg hr hF
  have hb':¬ fn.body=none:=by intro e;rw[e] at hb;cases hb
  refine .inr ⟨?_,(hrun xs r M vs hW hF hr).mono ?_⟩
  ·show (callFunc f vs.toArray).run Tryz.prog M.w=_
   simp[callFunc,hf]
   rw[if_neg hname,if_neg hb']
  ·rintro e w' ⟨v,rfl,U',h1,h2⟩
   exact⟨v,rfl,U',h1,h2,fun h=>by rw[ho] at h;cases h⟩
def p_rep:PFn:=⟨fun xs k=>match xs with|[.str s,.str a,.str b]=>bif decide (s.length≤100000)&&(decide (1≤a.length)&&decide (b.length≤100)) then k (.str (Lib.replaceAll s a b)) else none|_=>none,false⟩
theorem ok_rep:FOK NGs Ws 215 p_rep:=by
 refine fok_calls Tryz.func215 (by kernel_rfl) (by decide) ?_ rfl ?_
 ·intro R xs k
  simp only[p_rep]
  split
  ·exact cond_nat
  ·rfl
 ·intro xs r M vs hW h hr
  simp only[p_rep] at h
  split at h
  ·rename_i s a b
   obtain⟨hb,h⟩:=bif_inv h
   injection h with h
   subst h
   simp only[Bool.and_eq_true,decide_eq_true_eq] at hb
   obtain⟨v1,v2,v3,rfl,h1,h2,h3⟩:=relT3 hr
   simp only[RelD] at h1 h2 h3
   subst h1 h2 h3
   obtain⟨m,hm⟩:=hW.2.1
   refine (Any.strings_ReplaceAll Tryz.lays155 Tryz.Builder_Extra_155 ⟨s.toArray⟩ ⟨a.toArray⟩ ⟨b.toArray⟩ m M.w (by show s.toArray.size<_;rw[List.size_toArray];omega) hm (by show 1≤a.toArray.size;rw[List.size_toArray];omega) ?_).mono ?_
   ·have hc:=Lib.countB_le ⟨a.toArray⟩ (by show 1≤a.toArray.size;rw[List.size_toArray];omega) _ (⟨s.toArray⟩:ByteArray) (Nat.le_refl _)
    have e1:(⟨s.toArray⟩:ByteArray).size=s.length:=List.size_toArray
    have e2:(⟨b.toArray⟩:ByteArray).size=b.length:=List.size_toArray
    rw[e1] at hc ⊢
    rw[e2]
    have:Lib.countB ⟨s.toArray⟩ ⟨a.toArray⟩ * b.length≤100000 * 100:=Nat.mul_le_mul (by omega) hb.2.2
    omega
   ·rintro e w' ⟨rfl,hbl⟩
    exact⟨_,rfl,hbl,fun U' _=>rfl⟩
  ·cases h
def p_cnt:PFn:=⟨fun xs k=>match xs with|[.str s,.str [c]]=>k (.int .i64 (Lib.countByte s c))|_=>none,false⟩
theorem ok_cnt:FOK NGs Ws 263 p_cnt:=by
 refine fok_calls Tryz.func263 (by kernel_rfl) (by decide) ?_ rfl ?_
 ·intro R xs k
  simp only[p_cnt]
  split<;>rfl
 ·intro xs r M vs hW h hr
  simp only[p_cnt] at h
  split at h
  ·rename_i s c
   injection h with h
   subst h
   obtain⟨v1,v2,rfl,h1,h2⟩:=relT2 hr
   simp only[RelD] at h1 h2
   subst h1 h2
   refine (Any.strings_Count_one Tryz.lays138 ⟨s.toArray⟩ c M.w).mono ?_
   rintro e w' ⟨rfl,rfl⟩
   exact⟨_,rfl,Below.refl _ _,fun U' _=>rfl⟩
  ·cases h
def p_ixb:PFn:=⟨fun xs k=>match xs with|[.str s,.int .u8 c]=>k (.int .i64 (Lib.indexByte s c.toNat.toUInt8))|_=>none,false⟩
theorem ok_ixb:FOK NGs Ws 288 p_ixb:=by
 refine fok_calls Tryz.func288 (by kernel_rfl) (by decide) ?_ rfl ?_
 ·intro R xs k
  simp only[p_ixb]
  split<;>rfl
 ·intro xs r M vs hW h hr
  simp only[p_ixb] at h
  split at h
  ·rename_i s c
   injection h with h
   subst h
   obtain⟨v1,v2,rfl,h1,h2⟩:=relT2 hr
   simp only[RelD] at h1 h2
   subst h1 h2
   refine (Any.strings_IndexByte Tryz.lays137 ⟨s.toArray⟩ c M.w).mono ?_
   rintro e w' ⟨rfl,rfl⟩
   exact⟨_,rfl,Below.refl _ _,fun U' _=>rfl⟩
  ·cases h
def p_cts:PFn:=⟨fun xs k=>match xs with|[.str s,.str [c]]=>k (.bool (decide (0≤Lib.indexByte s c)))|_=>none,false⟩
theorem ok_cts:FOK NGs Ws 223 p_cts:=by
 refine fok_calls Tryz.func223 (by kernel_rfl) (by decide) ?_ rfl ?_
 ·intro R xs k
  simp only[p_cts]
  split<;>rfl
 ·intro xs r M vs hW h hr
  simp only[p_cts] at h
  split at h
  ·rename_i s c
   injection h with h
   subst h
   obtain⟨v1,v2,rfl,h1,h2⟩:=relT2 hr
   simp only[RelD] at h1 h2
   subst h1 h2
   refine (Any.strings_Contains_one Tryz.lays144 ⟨s.toArray⟩ c M.w).mono ?_
   rintro e w' ⟨rfl,rfl⟩
   exact⟨_,rfl,Below.refl _ _,fun U' _=>rfl⟩
  ·cases h
theorem words_len (l:List (List UInt8)):(l.flatMap stC).length=l.length * 1:=by
 induction l with
 |nil=>rfl
 |cons a l ih=>rw[List.flatMap_cons,List.length_append,ih,List.length_cons];show 1+l.length * 1=_;omega
theorem words_rel (M:Mem):∀ l:List (List UInt8),RelL M (l.flatMap stC) (l.map fun x=>Value.string ⟨x.toArray⟩)
 |[]=>rfl
 |a::l=>⟨_,_,rfl,rfl,rfl,words_rel M l⟩
def fldF (s:List UInt8):Option (Option Bool×Nat×List PV):=bif decide (s.length≤100000)&&s.all (fun b=>decide (b.toNat<128)) then some (some false,(Lib.fields s).length,(Lib.fields s).flatMap stC) else none
theorem fields_le:∀ (l cur:List UInt8),(Lib.fieldsGo cur l).length≤l.length+1
 |[],cur=>by rw[Lib.fieldsGo];split<;>simp
 |b::l,cur=>by
  rw[Lib.fieldsGo]
  have h1:=fields_le l []
  have h2:=fields_le l (cur++[b])
  split
  ·split
   ·simp only[List.length_cons];omega
   ·simp only[List.length_cons];omega
  ·simp only[List.length_cons];omega
theorem ok_fld:FOK NGs Ws 198 (tWs fldF):=by
 refine fok_calls' Tryz.func198 (by kernel_rfl) (by decide) ?_ rfl ?_
 ·intro R xs k
  simp only[tWs]
  split
  ·rw[Option.bind_assoc];rfl
  ·rfl
 ·intro xs r M vs hW h hr
  simp only[tWs] at h
  split at h
  ·rename_i s
   obtain⟨q,hq,h⟩:=Option.bind_eq_some_iff.1 h
   injection h with h
   subst h
   unfold fldF at hq
   obtain⟨hb,hq⟩:=bif_inv hq
   injection hq with hq
   subst hq
   simp only[Bool.and_eq_true,decide_eq_true_eq,List.all_eq_true] at hb
   obtain⟨v1,rfl,h1⟩:=relT1 hr
   simp only[RelD] at h1
   subst h1
   have hl:(Lib.fields s).length≤s.length+1:=fields_le s []
   refine (Any.strings_Fields Tryz.lays157 (by kernel_rfl) (by kernel_rfl) ⟨s.toArray⟩ M.w (by show s.toArray.size<_;rw[List.size_toArray];omega) (fun j b hj=>?_) hW.2.2).mono ?_
   ·exact hb.2 b (List.mem_of_getElem? hj)
   ·rintro e w' ⟨rfl,rfl⟩
    refine⟨_,rfl,fun b=>if b=M.w.heap.size then (Lib.fields s).length else M.U b,Move.mk0 (Below.alloc (Below.refl _ _) (Nat.le_refl _) _) (fun b hb=>if_neg (Nat.ne_of_lt hb)),?_⟩
    simp only[RelD]
    refine⟨_,_,(Lib.fields s).map fun x=>Value.string ⟨x.toArray⟩,rfl,Nat.le_refl _,by unfold maxLen;omega,fun b hb=>(by cases hb;rfl),fun h=>(by cases h),words_len _,words_rel _ _,Or.inr ⟨_,_,rfl,fun j u hu=>?_⟩⟩
    refine⟨?_,?_⟩
    ·rw[Nat.zero_add]
     have hp:RowP (M.w.alloc (.cells ((Lib.fields s).map fun x=>Value.string ⟨x.toArray⟩).toArray (Tryz.lays157_ren.t 9))) M.w.heap.size (Tryz.lays157_ren.t 9) ((Lib.fields s).map fun x=>Value.string ⟨x.toArray⟩):=⟨[],by
      show (M.w.heap.push _)[M.w.heap.size]? = _
      rw[Array.getElem?_push_size,List.append_nil]⟩
     exact hp.cell hu
    ·have:=(List.getElem?_eq_some_iff.1 hu).1
     rw[List.length_map] at this
     show 0+j<if M.w.heap.size=M.w.heap.size then _ else _
     rw[if_pos rfl]
     omega
  ·cases h
noncomputable def fIs:Func:=Tryz.f230
def hIs:Hints:=⟨[],[(0,⟨[(0,false),(1,false),(7,false),(8,false)],[]⟩)]⟩
def frIs (nl:Option Bool)(n:Nat)(c:List PV)(s:List UInt8)(L i:Int):St:=frame 19 [(0,(.sl nl 1 n c,0)),(1,(.str s,0)),(7,(.int .i64 L,0)),(8,(.int .i64 i,0))] []
noncomputable def isL (fu n:Nat)(st:St):Option PV:=loopF (en []) hIs fu false fIs [1,0,1,0] 0 n st
def ixT {R:Type}(n:Nat)(c:List PV)(i:Int)(K:List UInt8→Option R):Option R:=bif decide (0≤i)&&decide (i<(n:Int)) then ((c.drop (i.toNat * 1)).take 1).head?.bind fun v=>v.asStr.bind K else none
theorem stC_len' (a:List UInt8):(stC a).length=1:=rfl
theorem stG_inv' (l:List PV)(a:List UInt8)(h:stG l=some a):l=stC a:=by
 unfold stG at h
 split at h
 ·injection h with h;subst h;rfl
 ·cases h
theorem ixT_eq {R:Type}{l:List (List UInt8)}{i:Nat}{x:List UInt8}{K:List UInt8→Option R}(h:l[i]? = some x):ixT l.length (l.flatMap stC) (i:Int) K=K x:=by
 have:=(List.getElem?_eq_some_iff.1 h).1
 unfold ixT
 rw[cond_t (by rw[decide_eq_true (by omega),decide_eq_true (by omega)];rfl),Int.toNat_natCast,flat_at stC_len' h]
 rfl
theorem sis_raw (fu:Nat)(nl:Option Bool)(n:Nat)(c:List PV)(s:List UInt8):prun (en []) hIs fu false fIs [.sl nl 1 n c,.str s]=isL fu fu (frIs nl n c s (n:Int) 0):=prunN_eq.trans (by kernel_rfl)
theorem is_step (fu:Nat)(nl:Option Bool)(n:Nat)(c:List PV)(s:List UInt8)(L i:Int)(K:St→Option PV) :
  stepF (en []) hIs fu false fIs [1,0,1,0] (frIs nl n c s L i) (fun st=>pnorm (hIs.loop.lookup 0) st K) =
  bif decide (i<L) then ixT n c i fun a=>bif s==a then some (.int .i64 i) else K (frIs nl n c s L (IntKind.i64.wrap (i+1))) else some (.int .i64 (-1)):=by kernel_rfl
theorem is_loop (fu:Nat)(nl:Option Bool)(s:List UInt8)(l:List (List UInt8))(hl:l.length≤1000000):∀ (k i n:Nat),i+k=l.length→k<n →
  isL fu n (frIs nl l.length (l.flatMap stC) s (l.length:Int) (i:Int))=some (.int .i64 (isI (l.drop i) s i))
 |k,i,0,_,h=>by omega
 |0,i,n+1,hi,hn=>by
  unfold isL
  rw[loopF_succ,is_step,cond_f (decide_eq_false (by omega)),List.drop_of_length_le (by omega)]
  rfl
 |k+1,i,n+1,hi,hn=>by
  have hc:=List.getElem?_eq_getElem (l:=l) (i:=i) (by omega)
  rw[List.drop_eq_getElem_cons (show i<l.length by omega)]
  generalize l[i]=a at hc
  have ih:=is_loop fu nl s l hl k (i+1) n (by omega) (by omega)
  unfold isL at ih ⊢
  rw[loopF_succ,is_step,cond_t (decide_eq_true (by omega)),ixT_eq hc,wrapI_of (by omega) (by omega),isI]
  cases s==a
  ·exact ih
  ·rfl
theorem isI_any:∀ (l:List (List UInt8)) (s:List UInt8) (i:Int),0≤i→decide (0≤isI l s i)=l.any fun a=>s==a
 |[],_,_,_=>rfl
 |a::l,s,i,h=>by
  rw[isI,List.any_cons]
  cases s==a
  ·exact isI_any l s (i+1) (by omega)
  ·exact decide_eq_true h
theorem ok_idx {NG:Nat}{W:World→Prop}(hW:WOK NG W):FOK NG W 230 (tCi idxN):=by
 refine fok hW allOK_nil (h:=hIs) Tryz.func230 rfl (by decide) ?_ ?_
 ·intro R xs k
  simp only[tCi]
  split
  ·split
   ·rw[Option.bind_assoc];rfl
   ·rfl
  ·rfl
 ·intro xs r h
  simp only[tCi] at h
  split at h
  ·rename_i nl z n c s
   obtain⟨hz,h⟩:=ite_inv h
   subst hz
   obtain⟨b,hb,h⟩:=Option.bind_eq_some_iff.1 h
   injection h with h
   subst h
   unfold idxN at hb
   obtain⟨l,h1,hb⟩:=Option.bind_eq_some_iff.1 hb
   obtain⟨hg,hb⟩:=bif_inv hb
   injection hb with hb
   subst hb
   obtain⟨rfl,rfl⟩:=decG_inv stG_inv' h1
   exact⟨l.length+1,(sis_raw _ nl _ _ s).trans (is_loop _ nl s l (of_decide_eq_true hg) l.length 0 _ (by omega) (by omega))⟩
  ·cases h
theorem cn_raw (nl:Option Bool)(n:Nat)(c:List PV)(s:List UInt8):prun (en [(230,tCi idxN)]) ⟨[],[]⟩ 0 false Tryz.f184 [.sl nl 1 n c,.str s]=(idxN n c s).bind fun i=>some (.bool (decide (0≤i))):=by kernel_rfl
theorem ok_con {NG:Nat}{W:World→Prop}(hW:WOK NG W):FOK NG W 184 (tCn conN):=by
 refine fok hW (allOK_cons (ok_idx hW) allOK_nil) (h:=⟨[],[]⟩) Tryz.func184 rfl (by decide) ?_ ?_
 ·intro R xs k
  simp only[tCn]
  split
  ·split
   ·rw[Option.bind_assoc];rfl
   ·rfl
  ·rfl
 ·intro xs r h
  simp only[tCn] at h
  split at h
  ·rename_i nl z n c s
   obtain⟨hz,h⟩:=ite_inv h
   subst hz
   obtain⟨b,hb,h⟩:=Option.bind_eq_some_iff.1 h
   injection h with h
   subst h
   unfold conN at hb
   obtain⟨l,h1,hb⟩:=Option.bind_eq_some_iff.1 hb
   obtain⟨hg,hb⟩:=bif_inv hb
   injection hb with hb
   subst hb
   refine⟨0,(cn_raw nl n c s).trans ?_⟩
   unfold idxN
   rw[h1,Option.bind_some,hg,cond_true,Option.bind_some,isI_any l s 0 (by omega)]
   rfl
  ·cases h
theorem pdeps:PDeps NGs Ws fldF where
 w:=woks
 idx:=ok_idx woks
 con:=ok_con woks
 fields:=ok_fld
 bool:=evalFn_ok woks allOK_nil Tryz.func277 rfl (by decide)
theorem fok_wk {NG:Nat}{W:World→Prop}{f:FuncId}{p q:PFn}(hq:FOK NG W f q)(hn:p.nat)(ho:p.own=false)(h:∀ xs r,p.F xs (R:=PV) some=some r→q.F xs (R:=PV) some=some r):FOK NG W f p where
 nat:=hn
 call:=fun M xs vs r hW hng hg hr hF=>by
  have ho':∀ {P:Prop},p.own=true→P:=fun h=>by rw[ho] at h;cases h
  rcases hq.call M xs vs r hW hng hg hr (h xs r hF) with ⟨v,w',h1,U',h2,h3,-⟩|⟨h1,h2⟩
  ·exact .inl ⟨v,w',h1,U',h2,h3,ho'⟩
  ·exact .inr ⟨h1,h2.mono fun e w' ⟨v,k1,U',k2,k3,_⟩=>⟨v,k1,U',k2,k3,ho'⟩⟩
section
variable {NG:Nat} {W:World→Prop}
def tSB (f:List UInt8→Option (List UInt8×Bool)):PFn:=⟨fun xs k=>match xs with|[.str s]=>(f s).bind fun r=>k (.tuple [.str r.1,.bool r.2])|_=>none,false⟩
theorem tSB_nat (f:List UInt8→Option (List UInt8×Bool)):(tSB f).nat:=by
 intro R xs k
 simp only[tSB]
 split
 ·rw[Option.bind_assoc];rfl
 ·rfl
theorem fok_tSB (hW:WOK NG W){l:List (FuncId×PFn)}(hl:AllOK NG W l){lh:List (FuncId×HFn)}(hh:AllH NG W lh){h:Hints}{f:FuncId}{fn:Func}(hf:Tryz.prog.funcs[f]? = some fn)(hb:fn.body.isSome=true)(hname:fn.name ≠ "runtime.NumGoroutine"){g:List UInt8→Option (List UInt8×Bool)}(hr:∀ (s:List UInt8) r,(g s)=some r→∃ fu,prun (enH l lh []) h fu false fn [.str s]=some (.tuple [.str r.1,.bool r.2])):FOK NG W f (tSB g) :=
 fokH hW hl hh allI_nil (h:=h) hf hb hname (tSB_nat g) fun xs r h=>by
  simp only[tSB] at h
  split at h
  ·obtain⟨q,hq,h3⟩:=Option.bind_eq_some_iff.1 h
   obtain⟨fu,hr⟩:=hr _ _ hq
   exact⟨fu,hr.trans h3⟩
  ·cases h
def tSSB (f:List UInt8→List UInt8→Option (List UInt8×Bool)):PFn:=⟨fun xs k=>match xs with|[.str s,.str t]=>(f s t).bind fun r=>k (.tuple [.str r.1,.bool r.2])|_=>none,false⟩
theorem tSSB_nat (f:List UInt8→List UInt8→Option (List UInt8×Bool)):(tSSB f).nat:=by
 intro R xs k
 simp only[tSSB]
 split
 ·rw[Option.bind_assoc];rfl
 ·rfl
def tS3 (f:List UInt8→List UInt8→List UInt8→Option (List UInt8)):PFn:=⟨fun xs k=>match xs with|[.str s,.str t,.str u]=>(f s t u).bind fun r=>k (.str r)|_=>none,false⟩
theorem tS3_nat (f:List UInt8→List UInt8→List UInt8→Option (List UInt8)):(tS3 f).nat:=by
 intro R xs k
 simp only[tS3]
 split
 ·rw[Option.bind_assoc];rfl
 ·rfl
def tSSn (f:List UInt8→List UInt8→Option (Int)):PFn:=⟨fun xs k=>match xs with|[.str s,.str t]=>(f s t).bind fun r=>k (.int .i64 r)|_=>none,false⟩
theorem tSSn_nat (f:List UInt8→List UInt8→Option (Int)):(tSSn f).nat:=by
 intro R xs k
 simp only[tSSn]
 split
 ·rw[Option.bind_assoc];rfl
 ·rfl
def tBx (f:List UInt8→Int→Option (Int)):PFn:=⟨fun xs k=>match xs with|[.str s,.int .u8 c]=>(f s c).bind fun r=>k (.int .i64 r)|_=>none,false⟩
theorem tBx_nat (f:List UInt8→Int→Option (Int)):(tBx f).nat:=by
 intro R xs k
 simp only[tBx]
 split
 ·rw[Option.bind_assoc];rfl
 ·rfl
def tSSb (f:List UInt8→List UInt8→Option (Bool)):PFn:=⟨fun xs k=>match xs with|[.str s,.str t]=>(f s t).bind fun r=>k (.bool r)|_=>none,false⟩
theorem tSSb_nat (f:List UInt8→List UInt8→Option (Bool)):(tSSb f).nat:=by
 intro R xs k
 simp only[tSSb]
 split
 ·rw[Option.bind_assoc];rfl
 ·rfl
def tSv (f:List UInt8→Option (Val)):PFn:=⟨fun xs k=>match xs with|[.str s]=>(f s).bind fun r=>k (.agg [.int .i64 r.kind,.int .i64 r.n,.int .i64 r.scale,.str r.s])|_=>none,false⟩
theorem tSv_nat (f:List UInt8→Option (Val)):(tSv f).nat:=by
 intro R xs k
 simp only[tSv]
 split
 ·rw[Option.bind_assoc];rfl
 ·rfl
theorem fok_tSv (hW:WOK NG W){l:List (FuncId×PFn)}(hl:AllOK NG W l){lh:List (FuncId×HFn)}(hh:AllH NG W lh){h:Hints}{f:FuncId}{fn:Func}(hf:Tryz.prog.funcs[f]? = some fn)(hb:fn.body.isSome=true)(hname:fn.name ≠ "runtime.NumGoroutine"){g:List UInt8→Option (Val)}(hr:∀ (s:List UInt8) r,(g s)=some r→∃ fu,prun (enH l lh []) h fu false fn [.str s]=some (.agg [.int .i64 r.kind,.int .i64 r.n,.int .i64 r.scale,.str r.s])):FOK NG W f (tSv g) :=
 fokH hW hl hh allI_nil (h:=h) hf hb hname (tSv_nat g) fun xs r h=>by
  simp only[tSv] at h
  split at h
  ·obtain⟨q,hq,h3⟩:=Option.bind_eq_some_iff.1 h
   obtain⟨fu,hr⟩:=hr _ _ hq
   exact⟨fu,hr.trans h3⟩
  ·cases h
def tvB (f:Int→Int→Int→List UInt8→Option (Bool)):PFn:=⟨fun xs k=>match xs with|[.agg [.int .i64 a,.int .i64 n,.int .i64 c,.str s]]=>(f a n c s).bind fun r=>k (.bool r)|_=>none,false⟩
theorem tvB_nat (f:Int→Int→Int→List UInt8→Option (Bool)):(tvB f).nat:=by
 intro R xs k
 simp only[tvB]
 split
 ·rw[Option.bind_assoc];rfl
 ·rfl
theorem fok_tvB (hW:WOK NG W){l:List (FuncId×PFn)}(hl:AllOK NG W l){lh:List (FuncId×HFn)}(hh:AllH NG W lh){h:Hints}{f:FuncId}{fn:Func}(hf:Tryz.prog.funcs[f]? = some fn)(hb:fn.body.isSome=true)(hname:fn.name ≠ "runtime.NumGoroutine"){g:Int→Int→Int→List UInt8→Option (Bool)}(hr:∀ (a n c:Int) (s:List UInt8) r,(g a n c s)=some r→∃ fu,prun (enH l lh []) h fu false fn [.agg [.int .i64 a,.int .i64 n,.int .i64 c,.str s]]=some (.bool r)):FOK NG W f (tvB g) :=
 fokH hW hl hh allI_nil (h:=h) hf hb hname (tvB_nat g) fun xs r h=>by
  simp only[tvB] at h
  split at h
  ·obtain⟨q,hq,h3⟩:=Option.bind_eq_some_iff.1 h
   obtain⟨fu,hr⟩:=hr _ _ _ _ _ hq
   exact⟨fu,hr.trans h3⟩
  ·cases h
def tvS (f:Int→Int→Int→List UInt8→Option (List UInt8)):PFn:=⟨fun xs k=>match xs with|[.agg [.int .i64 a,.int .i64 n,.int .i64 c,.str s]]=>(f a n c s).bind fun r=>k (.str r)|_=>none,false⟩
theorem tvS_nat (f:Int→Int→Int→List UInt8→Option (List UInt8)):(tvS f).nat:=by
 intro R xs k
 simp only[tvS]
 split
 ·rw[Option.bind_assoc];rfl
 ·rfl
theorem fok_tvS (hW:WOK NG W){l:List (FuncId×PFn)}(hl:AllOK NG W l){lh:List (FuncId×HFn)}(hh:AllH NG W lh){h:Hints}{f:FuncId}{fn:Func}(hf:Tryz.prog.funcs[f]? = some fn)(hb:fn.body.isSome=true)(hname:fn.name ≠ "runtime.NumGoroutine"){g:Int→Int→Int→List UInt8→Option (List UInt8)}(hr:∀ (a n c:Int) (s:List UInt8) r,(g a n c s)=some r→∃ fu,prun (enH l lh []) h fu false fn [.agg [.int .i64 a,.int .i64 n,.int .i64 c,.str s]]=some (.str r)):FOK NG W f (tvS g) :=
 fokH hW hl hh allI_nil (h:=h) hf hb hname (tvS_nat g) fun xs r h=>by
  simp only[tvS] at h
  split at h
  ·obtain⟨q,hq,h3⟩:=Option.bind_eq_some_iff.1 h
   obtain⟨fu,hr⟩:=hr _ _ _ _ _ hq
   exact⟨fu,hr.trans h3⟩
  ·cases h
def tvv (f:Int→Int→Int→List UInt8→Option (Val)):PFn:=⟨fun xs k=>match xs with|[.agg [.int .i64 a,.int .i64 n,.int .i64 c,.str s]]=>(f a n c s).bind fun r=>k (.agg [.int .i64 r.kind,.int .i64 r.n,.int .i64 r.scale,.str r.s])|_=>none,false⟩
theorem tvv_nat (f:Int→Int→Int→List UInt8→Option (Val)):(tvv f).nat:=by
 intro R xs k
 simp only[tvv]
 split
 ·rw[Option.bind_assoc];rfl
 ·rfl
theorem fok_tvv (hW:WOK NG W){l:List (FuncId×PFn)}(hl:AllOK NG W l){lh:List (FuncId×HFn)}(hh:AllH NG W lh){h:Hints}{f:FuncId}{fn:Func}(hf:Tryz.prog.funcs[f]? = some fn)(hb:fn.body.isSome=true)(hname:fn.name ≠ "runtime.NumGoroutine"){g:Int→Int→Int→List UInt8→Option (Val)}(hr:∀ (a n c:Int) (s:List UInt8) r,(g a n c s)=some r→∃ fu,prun (enH l lh []) h fu false fn [.agg [.int .i64 a,.int .i64 n,.int .i64 c,.str s]]=some (.agg [.int .i64 r.kind,.int .i64 r.n,.int .i64 r.scale,.str r.s])):FOK NG W f (tvv g) :=
 fokH hW hl hh allI_nil (h:=h) hf hb hname (tvv_nat g) fun xs r h=>by
  simp only[tvv] at h
  split at h
  ·obtain⟨q,hq,h3⟩:=Option.bind_eq_some_iff.1 h
   obtain⟨fu,hr⟩:=hr _ _ _ _ _ hq
   exact⟨fu,hr.trans h3⟩
  ·cases h
def tD3 (f:List UInt8→Option (Int×Int×Bool)):PFn:=⟨fun xs k=>match xs with|[.str s]=>(f s).bind fun r=>k (.tuple [.int .i64 r.1,.int .i64 r.2.1,.bool r.2.2])|_=>none,false⟩
theorem tD3_nat (f:List UInt8→Option (Int×Int×Bool)):(tD3 f).nat:=by
 intro R xs k
 simp only[tD3]
 split
 ·rw[Option.bind_assoc];rfl
 ·rfl
def tDp (f:Int→Int→Option (List UInt8)):PFn:=⟨fun xs k=>match xs with|[.int .i64 n,.int .i64 m]=>(f n m).bind fun r=>k (.str r)|_=>none,false⟩
theorem tDp_nat (f:Int→Int→Option (List UInt8)):(tDp f).nat:=by
 intro R xs k
 simp only[tDp]
 split
 ·rw[Option.bind_assoc];rfl
 ·rfl
def tS1 (f:List UInt8→Option (List UInt8)):PFn:=⟨fun xs k=>match xs with|[.str s]=>(f s).bind fun r=>k (.str r)|_=>none,false⟩
theorem tS1_nat (f:List UInt8→Option (List UInt8)):(tS1 f).nat:=by
 intro R xs k
 simp only[tS1]
 split
 ·rw[Option.bind_assoc];rfl
 ·rfl
theorem fok_tS1 (hW:WOK NG W){l:List (FuncId×PFn)}(hl:AllOK NG W l){lh:List (FuncId×HFn)}(hh:AllH NG W lh){h:Hints}{f:FuncId}{fn:Func}(hf:Tryz.prog.funcs[f]? = some fn)(hb:fn.body.isSome=true)(hname:fn.name ≠ "runtime.NumGoroutine"){g:List UInt8→Option (List UInt8)}(hr:∀ (s:List UInt8) r,(g s)=some r→∃ fu,prun (enH l lh []) h fu false fn [.str s]=some (.str r)):FOK NG W f (tS1 g) :=
 fokH hW hl hh allI_nil (h:=h) hf hb hname (tS1_nat g) fun xs r h=>by
  simp only[tS1] at h
  split at h
  ·obtain⟨q,hq,h3⟩:=Option.bind_eq_some_iff.1 h
   obtain⟨fu,hr⟩:=hr _ _ hq
   exact⟨fu,hr.trans h3⟩
  ·cases h
def tTk (f:List UInt8→Option (TR×Int×Bool)):PFn:=⟨fun xs k=>match xs with|[.str s]=>(f s).bind fun r=>k (.tuple [.agg r.1.cells,.int .i64 r.2.1,.bool r.2.2])|_=>none,false⟩
theorem tTk_nat (f:List UInt8→Option (TR×Int×Bool)):(tTk f).nat:=by
 intro R xs k
 simp only[tTk]
 split
 ·rw[Option.bind_assoc];rfl
 ·rfl
theorem fok_tTk (hW:WOK NG W){l:List (FuncId×PFn)}(hl:AllOK NG W l){lh:List (FuncId×HFn)}(hh:AllH NG W lh){h:Hints}{f:FuncId}{fn:Func}(hf:Tryz.prog.funcs[f]? = some fn)(hb:fn.body.isSome=true)(hname:fn.name ≠ "runtime.NumGoroutine"){g:List UInt8→Option (TR×Int×Bool)}(hr:∀ (s:List UInt8) r,(g s)=some r→∃ fu,prun (enH l lh []) h fu false fn [.str s]=some (.tuple [.agg r.1.cells,.int .i64 r.2.1,.bool r.2.2])):FOK NG W f (tTk g) :=
 fokH hW hl hh allI_nil (h:=h) hf hb hname (tTk_nat g) fun xs r h=>by
  simp only[tTk] at h
  split at h
  ·obtain⟨q,hq,h3⟩:=Option.bind_eq_some_iff.1 h
   obtain⟨fu,hr⟩:=hr _ _ hq
   exact⟨fu,hr.trans h3⟩
  ·cases h
def tcB (f:Int→Option (Bool)):PFn:=⟨fun xs k=>match xs with|[.int .u8 c]=>(f c).bind fun r=>k (.bool r)|_=>none,false⟩
theorem tcB_nat (f:Int→Option (Bool)):(tcB f).nat:=by
 intro R xs k
 simp only[tcB]
 split
 ·rw[Option.bind_assoc];rfl
 ·rfl
theorem fok_tcB (hW:WOK NG W){l:List (FuncId×PFn)}(hl:AllOK NG W l){lh:List (FuncId×HFn)}(hh:AllH NG W lh){h:Hints}{f:FuncId}{fn:Func}(hf:Tryz.prog.funcs[f]? = some fn)(hb:fn.body.isSome=true)(hname:fn.name ≠ "runtime.NumGoroutine"){g:Int→Option (Bool)}(hr:∀ (c:Int) r,(g c)=some r→∃ fu,prun (enH l lh []) h fu false fn [.int .u8 c]=some (.bool r)):FOK NG W f (tcB g) :=
 fokH hW hl hh allI_nil (h:=h) hf hb hname (tcB_nat g) fun xs r h=>by
  simp only[tcB] at h
  split at h
  ·obtain⟨q,hq,h3⟩:=Option.bind_eq_some_iff.1 h
   obtain⟨fu,hr⟩:=hr _ _ hq
   exact⟨fu,hr.trans h3⟩
  ·cases h
def tBs (f:Nat→List PV→List UInt8→Option (Int×Bool)):PFn:=⟨fun xs k=>match xs with|[.sl _ z n c,.str s]=>if z=1 then (f n c s).bind fun r=>k (.tuple [.int .i64 r.1,.bool r.2]) else none|_=>none,false⟩
theorem tBs_nat (f:Nat→List PV→List UInt8→Option (Int×Bool)):(tBs f).nat:=by
 intro R xs k
 simp only[tBs]
 split
 ·split
  ·rw[Option.bind_assoc];rfl
  ·rfl
 ·rfl
def tWs0 (f:Option (Option Bool×Nat×List PV)):PFn:=⟨fun xs k=>match xs with|[]=>f.bind fun r=>k (.sl r.1 1 r.2.1 r.2.2)|_=>none,false⟩
theorem tWs0_nat (f:Option (Option Bool×Nat×List PV)):(tWs0 f).nat:=by
 intro R xs k
 simp only[tWs0]
 split
 ·rw[Option.bind_assoc];rfl
 ·rfl
def tSvb (f:List UInt8→Option (Val×Bool)):PFn:=⟨fun xs k=>match xs with|[.str s]=>(f s).bind fun r=>k (.tuple [.agg [.int .i64 r.1.kind,.int .i64 r.1.n,.int .i64 r.1.scale,.str r.1.s],.bool r.2])|_=>none,false⟩
theorem tSvb_nat (f:List UInt8→Option (Val×Bool)):(tSvb f).nat:=by
 intro R xs k
 simp only[tSvb]
 split
 ·rw[Option.bind_assoc];rfl
 ·rfl
theorem fok_tSvb (hW:WOK NG W){l:List (FuncId×PFn)}(hl:AllOK NG W l){lh:List (FuncId×HFn)}(hh:AllH NG W lh){h:Hints}{f:FuncId}{fn:Func}(hf:Tryz.prog.funcs[f]? = some fn)(hb:fn.body.isSome=true)(hname:fn.name ≠ "runtime.NumGoroutine"){g:List UInt8→Option (Val×Bool)}(hr:∀ (s:List UInt8) r,(g s)=some r→∃ fu,prun (enH l lh []) h fu false fn [.str s]=some (.tuple [.agg [.int .i64 r.1.kind,.int .i64 r.1.n,.int .i64 r.1.scale,.str r.1.s],.bool r.2])):FOK NG W f (tSvb g) :=
 fokH hW hl hh allI_nil (h:=h) hf hb hname (tSvb_nat g) fun xs r h=>by
  simp only[tSvb] at h
  split at h
  ·obtain⟨q,hq,h3⟩:=Option.bind_eq_some_iff.1 h
   obtain⟨fu,hr⟩:=hr _ _ hq
   exact⟨fu,hr.trans h3⟩
  ·cases h
end
def hasX (s:List UInt8):Bool:=s.head? == some 88
def noX (s:List UInt8):List UInt8:=bif hasX s then s.drop 1 else s
def p_hasX:PFn:=⟨fun xs k=>match xs with|[.str s,.str [88]]=>k (.bool (hasX s))|_=>none,false⟩
theorem hasX_raw (s:List UInt8):prun (en []) ⟨[],[]⟩ 0 false Tryz.f242 [.str s,.str [88]] =
  bif decide (1≤(s.length:Int)) then bif decide (1≤(s.length:Int)) then some (.bool ((s.take 1).drop 0==[88])) else none else some (.bool false):=by kernel_rfl
theorem ok_hasX:FOK NGs Ws 242 p_hasX:=by
 refine fok woks allOK_nil (h:=⟨[],[]⟩) Tryz.func242 rfl (by decide) ?_ ?_
 ·intro R xs k
  simp only[p_hasX]
  split<;>rfl
 ·intro xs r h
  simp only[p_hasX] at h
  split at h
  ·rename_i s
   refine⟨0,(hasX_raw s).trans ?_⟩
   rw[← h]
   cases s with
   |nil=>rfl
   |cons c t =>
    rw[cond_t (decide_eq_true (by simp;omega)),cond_t (decide_eq_true (by simp;omega))]
    simp[hasX]
  ·cases h
def p_CutX:PFn:=⟨fun xs k=>match xs with|[.str s,.str [88]]=>k (.tuple [.str (noX s),.bool (hasX s)])|_=>none,false⟩
theorem cutx_raw (s:List UInt8):prun (en [(242,p_hasX)]) ⟨[],[]⟩ 0 false Tryz.f217 [.str s,.str [88]] =
  bif !hasX s then some (.tuple [.str s,.bool false]) else bif decide (1≤(s.length:Int)) then some (.tuple [.str ((s.take s.length).drop 1),.bool true]) else none:=by kernel_rfl
theorem ok_CutXl:FOK NGs Ws 217 p_CutX:=by
 refine fok woks (allOK_cons ok_hasX allOK_nil) (h:=⟨[],[]⟩) Tryz.func217 rfl (by decide) ?_ ?_
 ·intro R xs k
  simp only[p_CutX]
  split<;>rfl
 ·intro xs r h
  simp only[p_CutX] at h
  split at h
  ·rename_i s
   refine⟨0,(cutx_raw s).trans ?_⟩
   rw[← h]
   unfold noX
   cases hm:hasX s
   ·rfl
   ·have:s≠[]:=by intro e;subst e;cases hm
    have hl:0<s.length:=List.length_pos_iff.2 this
    simp only[Bool.not_true,cond_false,cond_true]
    rw[cond_t (decide_eq_true (by omega)),List.take_length]
  ·cases h
theorem cutxo_raw (s:List UInt8):prun (en [(217,p_CutX)]) ⟨[],[]⟩ 0 false Tryz.f164 [.str s,.str [88]]=some (.tuple [.str (noX s),.bool (hasX s)]):=by kernel_rfl
theorem ok_CutX:FOK NGs Ws 164 p_CutX:=by
 refine fok woks (allOK_cons ok_CutXl allOK_nil) (h:=⟨[],[]⟩) Tryz.func164 rfl (by decide) ?_ ?_
 ·intro R xs k
  simp only[p_CutX]
  split<;>rfl
 ·intro xs r h
  simp only[p_CutX] at h
  split at h
  ·rename_i s
   exact⟨0,(cutxo_raw s).trans h⟩
  ·cases h
def hasDot (s:List UInt8):Bool:=bif decide (1≤s.length) then s.drop (s.length-1)==[46] else false
def noDot (s:List UInt8):List UInt8:=bif hasDot s then s.take (s.length-1) else s
def p_hasDot:PFn:=⟨fun xs k=>match xs with|[.str s,.str [46]]=>bif decide (s.length≤100000) then k (.bool (hasDot s)) else none|_=>none,false⟩
theorem hasDot_raw (s:List UInt8):prun (en []) ⟨[],[]⟩ 0 false Tryz.f300 [.str s,.str [46]] =
  bif decide ((([46]:List UInt8).length:Int)≤(s.length:Int)) then bif decide (0≤IntKind.i64.wrap ((s.length:Int)-(([46]:List UInt8).length:Int)))&&decide (IntKind.i64.wrap ((s.length:Int)-(([46]:List UInt8).length:Int))≤(s.length:Int)) then
   some (.bool ((s.take s.length).drop (IntKind.i64.wrap ((s.length:Int)-(([46]:List UInt8).length:Int))).toNat==[46])) else none else some (.bool false):=by kernel_rfl
theorem ok_hasDot:FOK NGs Ws 300 p_hasDot:=by
 refine fok woks allOK_nil (h:=⟨[],[]⟩) Tryz.func300 rfl (by decide) ?_ ?_
 ·intro R xs k
  simp only[p_hasDot]
  split
  ·exact cond_nat
  ·rfl
 ·intro xs r h
  simp only[p_hasDot] at h
  split at h
  ·rename_i s
   obtain⟨hb,h⟩:=bif_inv h
   have hb:=of_decide_eq_true hb
   refine⟨0,(hasDot_raw s).trans ?_⟩
   rw[← h]
   unfold hasDot
   by_cases hl:1≤s.length
   ·rw[cond_t (decide_eq_true (show ((([46]:List UInt8).length:Nat):Int)≤(s.length:Int) by simp;omega)),decide_eq_true hl,cond_true,wrapI_of (by simp;omega) (by simp;omega)]
    have e:((s.length:Int)-(([46]:List UInt8).length:Int))=((s.length-1:Nat):Int):=by simp;omega
    rw[e,cond_t (by simp only[Bool.and_eq_true,decide_eq_true_eq];omega),Int.toNat_natCast,List.take_length]
   ·rw[cond_f (decide_eq_false (by simp;omega)),decide_eq_false hl,cond_false]
  ·cases h
def p_CutD:PFn:=⟨fun xs k=>match xs with|[.str s,.str [46]]=>bif decide (s.length≤100000) then k (.tuple [.str (noDot s),.bool (hasDot s)]) else none|_=>none,false⟩
theorem cutd_raw (s:List UInt8):prun (en [(300,p_hasDot)]) ⟨[],[]⟩ 0 false Tryz.f289 [.str s,.str [46]] =
  bif decide (s.length≤100000) then (bif !hasDot s then some (.tuple [.str s,.bool false]) else bif decide (0≤IntKind.i64.wrap ((s.length:Int)-(([46]:List UInt8).length:Int)))&&decide (IntKind.i64.wrap ((s.length:Int)-(([46]:List UInt8).length:Int))≤(s.length:Int)) then
   some (.tuple [.str ((s.take (IntKind.i64.wrap ((s.length:Int)-(([46]:List UInt8).length:Int))).toNat).drop 0),.bool true]) else none) else none:=by kernel_rfl
theorem ok_CutDl:FOK NGs Ws 289 p_CutD:=by
 refine fok woks (allOK_cons ok_hasDot allOK_nil) (h:=⟨[],[]⟩) Tryz.func289 rfl (by decide) ?_ ?_
 ·intro R xs k
  simp only[p_CutD]
  split
  ·exact cond_nat
  ·rfl
 ·intro xs r h
  simp only[p_CutD] at h
  split at h
  ·rename_i s
   refine⟨0,(cutd_raw s).trans ?_⟩
   obtain⟨hb,h⟩:=bif_inv h
   rw[hb,cond_true,← h]
   have hb:=of_decide_eq_true hb
   unfold noDot
   cases hm:hasDot s
   ·rfl
   ·have hl:1≤s.length:=by
     unfold hasDot at hm
     by_cases hl:1≤s.length
     ·exact hl
     ·rw[decide_eq_false hl] at hm;cases hm
    have e:((s.length:Int)-(([46]:List UInt8).length:Int))=((s.length-1:Nat):Int):=by simp;omega
    simp only[Bool.not_true,cond_false,cond_true]
    rw[wrapI_of (by simp;omega) (by simp;omega),e,cond_t (by simp only[Bool.and_eq_true,decide_eq_true_eq];omega),Int.toNat_natCast]
    rfl
  ·cases h
theorem cutdo_raw (s:List UInt8):prun (en [(289,p_CutD)]) ⟨[],[]⟩ 0 false Tryz.f272 [.str s,.str [46]]=bif decide (s.length≤100000) then some (.tuple [.str (noDot s),.bool (hasDot s)]) else none:=by kernel_rfl
theorem ok_CutD:FOK NGs Ws 272 p_CutD:=by
 refine fok woks (allOK_cons ok_CutDl allOK_nil) (h:=⟨[],[]⟩) Tryz.func272 rfl (by decide) ?_ ?_
 ·intro R xs k
  simp only[p_CutD]
  split
  ·exact cond_nat
  ·rfl
 ·intro xs r h
  simp only[p_CutD] at h
  split at h
  ·rename_i s
   exact⟨0,(cutdo_raw s).trans h⟩
  ·cases h
def catS {R:Type}(x y:List UInt8)(k:List UInt8→Option R):Option R:=bif decide (x.length+y.length≤9223372036854775807) then k (x++y) else none
theorem catS_eq {R:Type}{x y:List UInt8}{k:List UInt8→Option R}(h:x.length+y.length≤1000000000):catS x y k=k (x++y):=by
 unfold catS
 rw[cond_t (decide_eq_true (by omega))]
theorem catS_bind {α β:Type}{x y:List UInt8}{k:List UInt8→Option α}{g:α→Option β}:(catS x y k).bind g=catS x y fun z=>(k z).bind g:=by unfold catS;rw[cond_bindo];rfl
theorem ixB_bind {α β:Type}{s:List UInt8}{i:Int}{k:UInt8→Option α}{g:α→Option β}:(ixB s i k).bind g=ixB s i fun z=>(k z).bind g:=by unfold ixB;rw[cond_bindo,Option.bind_assoc];rfl
theorem none_bindo {α β:Type}{g:α→Option β}:(none:Option α).bind g=none:=rfl
def quotO {R:Type}(fr:List UInt8→List UInt8→List UInt8→Option (List UInt8))(fn:List UInt8→List UInt8→Option Int)(s:List UInt8)(k:List UInt8→Bool→Option R):Option R :=
 bif !decide ((s.length:Int)<2) then ixB s 0 fun v=>bif !!((v.toNat:Int)==39) then ixB s (IntKind.i64.wrap ((s.length:Int)-1)) fun v=>bif !((v.toNat:Int)==39) then k [] false else
  bif decide (0≤IntKind.i64.wrap ((s.length:Int)-1))&&decide (IntKind.i64.wrap ((s.length:Int)-1)≤(s.length:Int)) then bif decide ((1:Int)≤((IntKind.i64.wrap ((s.length:Int)-1)).toNat:Int)) then
   (fr ((s.take (IntKind.i64.wrap ((s.length:Int)-1)).toNat).drop 1) [39,39] [39]).bind fun y=>(fn ((s.take (IntKind.i64.wrap ((s.length:Int)-1)).toNat).drop 1) [39]).bind fun a=>(fn y [39]).bind fun b=>k y (a==IntKind.i64.wrap (2 * b))
  else none else none
  else k [] false else k [] false
theorem vquoted_raw (fr:List UInt8→List UInt8→List UInt8→Option (List UInt8))(fn:List UInt8→List UInt8→Option Int)(fu:Nat)(s:List UInt8) :
  prun (enH [(215,tS3 fr),(263,tSSn fn)] [] []) hh0 fu false Tryz.f270 [.str s]=quotO fr fn s fun a b=>some (.tuple [.str a,.bool b]):=by kernel_rfl
def candO {R:Type}(fx:List UInt8→List UInt8→Option (List UInt8×Bool))(fq fh:List UInt8→Option (List UInt8×Bool))(fd:List UInt8→List UInt8→Option (List UInt8×Bool))(fp:List UInt8→Option (Int×Int×Bool))(s:List UInt8)(k:Val→Option R):Option R :=
 let E:Option R:=(fq s).bind fun q=>bif q.2 then k ⟨4,0,0,q.1⟩ else (fd s [46]).bind fun d=>bif d.2 then (fp d.1).bind fun p=>k ⟨3,p.1,0,[]⟩ else (fp s).bind fun p=>bif !p.2.2 then k ⟨0,0,0,[]⟩ else bif decide (0<p.2.1) then k ⟨3,p.1,p.2.1,[]⟩ else k ⟨2,p.1,0,[]⟩
 bif s==[84,82,85,69] then k ⟨1,1,0,[]⟩ else bif s==[70,65,76,83,69] then k ⟨1,0,0,[]⟩ else
 (fx s [88]).bind fun x=>bif x.2 then (fq x.1).bind fun q=>bif q.2 then (fh q.1).bind fun b=>k ⟨5,0,0,b.1⟩ else E else E
abbrev valE (r:Val):PV:=.agg [.int .i64 r.kind,.int .i64 r.n,.int .i64 r.scale,.str r.s]
theorem cand_raw (fx:List UInt8→List UInt8→Option (List UInt8×Bool))(fq fh:List UInt8→Option (List UInt8×Bool))(fd:List UInt8→List UInt8→Option (List UInt8×Bool))(fp:List UInt8→Option (Int×Int×Bool))(fu:Nat)(s:List UInt8) :
  prun (enH [(164,tSSB fx),(270,tSB fq),(271,tSB fh),(272,tSSB fd),(220,tD3 fp)] [] []) hh0 fu false Tryz.f247 [.str s] =
   candO fx fq fh fd fp s fun r=>some (valE r):=by kernel_rfl
def rightO {R:Type}(fr:Int→Int→Int→List UInt8→Option Bool)(a n c:Int)(s:List UInt8)(k:Val→Option R):Option R:=(fr a n c s).bind fun b=>bif !b then k ⟨0,0,0,[]⟩ else k ⟨a,n,c,s⟩
theorem vrt_raw (fr:Int→Int→Int→List UInt8→Option Bool)(fu:Nat)(a n c:Int)(s:List UInt8) :
  prun (enH [(231,tvB fr)] [] []) hh0 fu false Tryz.f214 [.agg [.int .i64 a,.int .i64 n,.int .i64 c,.str s]]=rightO fr a n c s fun r=>some (valE r):=by kernel_rfl
def prinO {R:Type}(fv:Int→Int→Int→List UInt8→Option Val)(fr:List UInt8→List UInt8→List UInt8→Option (List UInt8))(fh:List UInt8→Option (List UInt8))(fd:Int→Int→Option (List UInt8))(a n c:Int)(s:List UInt8)(k:List UInt8→Option R):Option R :=
 (fv a n c s).bind fun v=>bif v.kind==1 then (bif v.n==1 then k [84,82,85,69] else k [70,65,76,83,69]) else bif v.kind==2 then (fd v.n 0).bind k else bif v.kind==3 then (bif v.scale==0 then (fd v.n 0).bind fun x=>catS x [46] k else (fd v.n v.scale).bind k) else
  bif v.kind==4 then (fr v.s [39] [39,39]).bind fun x=>catS [39] x fun y=>catS y [39] k else bif v.kind==5 then (fh v.s).bind fun x=>catS [88,39] x fun y=>catS y [39] k else k [78,85,76,76]
theorem vprint_raw (fv:Int→Int→Int→List UInt8→Option Val)(fr:List UInt8→List UInt8→List UInt8→Option (List UInt8))(fh:List UInt8→Option (List UInt8))(fd:Int→Int→Option (List UInt8))(fu:Nat)(a n c:Int)(s:List UInt8) :
  prun (enH [(214,tvv fv),(215,tS3 fr),(216,tS1 fh),(83,tDp fd)] [] []) hh0 fu false Tryz.f160 [.agg [.int .i64 a,.int .i64 n,.int .i64 c,.str s]]=prinO fv fr fh fd a n c s fun r=>some (.str r):=by kernel_rfl
def vparO {R:Type}(fc:List UInt8→Option Val)(fr:Int→Int→Int→List UInt8→Option Bool)(fp:Int→Int→Int→List UInt8→Option (List UInt8))(s:List UInt8)(k:Val→Bool→Option R):Option R :=
 (fc s).bind fun v=>(fr v.kind v.n v.scale v.s).bind fun b=>bif !!b then (fp v.kind v.n v.scale v.s).bind fun t=>bif !(t==s) then k ⟨0,0,0,[]⟩ false else k v true else k ⟨0,0,0,[]⟩ false
theorem vparse_raw (fc:List UInt8→Option Val)(fr:Int→Int→Int→List UInt8→Option Bool)(fp:Int→Int→Int→List UInt8→Option (List UInt8))(fu:Nat)(s:List UInt8) :
  prun (enH [(247,tSv fc),(231,tvB fr),(160,tvS fp)] [] []) hh0 fu false Tryz.f219 [.str s]=vparO fc fr fp s fun r b=>some (.tuple [valE r,.bool b]):=by kernel_rfl
def litO {R:Type}(fp:List UInt8→Option (Val×Bool))(s:List UInt8)(k:TR→Int→Bool→Option R):Option R:=(fp s).bind fun r=>k ⟨2,0,[],r.1.kind,r.1.n,r.1.scale,r.1.s⟩ (s.length:Int) (r.2&&!(s==[]))
theorem llit_raw (fp:List UInt8→Option (Val×Bool))(fu:Nat)(s:List UInt8) :
  prun (enH [(219,tSvb fp)] [] []) hh0 fu false Tryz.f169 [.str s]=litO fp s fun r n b=>some (.tuple [.agg r.cells,.int .i64 n,.bool b]):=by kernel_rfl
def hxD:List UInt8:=[48,49,50,51,52,53,54,55,56,57,65,66,67,68,69,70]
def rmB {R:Type}(l m:Nat)(x:Option R):Option R:=bif decide (l+m≤9223372036854775807)&&decide ((l+m) * 1≤140737488355328) then x else none
theorem rmB_eq {R:Type}{l m:Nat}{x:Option R}(h:l+m≤1000000):rmB l m x=x:=by
 unfold rmB
 rw[cond_t (by rw[decide_eq_true (by omega),decide_eq_true (by omega)];rfl)]
noncomputable def fHx:Func:=Tryz.f216
def hHx:Hints:=⟨[],[(0,⟨[(0,false),(3,true),(6,false),(7,false)],[]⟩)]⟩
def frHx (s:List UInt8)(no:Option Bool)(lo:Nat)(co:List PV)(L i:Int):St:=frame 26 [(0,(.str s,0)),(3,(.sl no 1 lo co,31)),(6,(.int .i64 L,0)),(7,(.int .i64 i,0))] []
noncomputable def hxL (fu n:Nat)(st:St):Option PV:=loopF (enH [] [] []) hHx fu false fHx [1,1,0,1,0] 0 n st
theorem hx_raw (fu:Nat)(s:List UInt8):prun (enH [] [] []) hHx fu false fHx [.str s]=hxL fu fu (frHx s (some true) 0 [] (s.length:Int) 0):=prunN_eq.trans (by kernel_rfl)
theorem hx_step (fu:Nat)(s:List UInt8)(no:Option Bool)(lo:Nat)(co:List PV)(L i:Int)(K:St→Option PV) :
  stepF (enH [] [] []) hHx fu false fHx [1,1,0,1,0] (frHx s no lo co L i) (fun st=>pnorm (hHx.loop.lookup 0) st K) =
  bif decide (i<L) then ixB s i fun v=>ixB hxD ((v.toNat:Int).fdiv (2^(min (4:Int).toNat IntKind.u8.bits))) fun a=>ixB s i fun w=>ixB hxD (IntKind.u8.wrap (BitVec.ofInt IntKind.u8.bits (w.toNat:Int) &&& BitVec.ofInt IntKind.u8.bits 15).toNat) fun b =>
   rmB lo 2 (K (frHx s (no.map (· && false)) (lo+2) (co++[bytePV a,bytePV b]) L (IntKind.i64.wrap (i+1)))) else (pbytes co).bind fun r=>some (.str r):=by kernel_rfl
noncomputable def fUh:Func:=Tryz.f271
def hUh:Hints:=⟨[],[(0,⟨[(0,false),(4,true),(5,false)],[]⟩)]⟩
def frUh (s:List UInt8)(no:Option Bool)(lo:Nat)(co:List PV)(i:Int):St:=frame 43 [(0,(.str s,0)),(4,(.sl no 1 lo co,49)),(5,(.int .i64 i,0))] []
noncomputable def enUh (fi:List UInt8→Int→Option Int):Env:=enH [(288,tBx fi)] [] []
noncomputable def uhL (fi:List UInt8→Int→Option Int)(fu n:Nat)(st:St):Option PV:=loopF (enUh fi) hUh fu false fUh [1,1,1,0,1,0] 0 n st
def failS:Option PV:=some (.tuple [.str [],.bool false])
theorem uh_raw (fi:List UInt8→Int→Option Int)(fu:Nat)(s:List UInt8):prun (enUh fi) hUh fu false fUh [.str s]=bif !((s.length:Int).tmod 2==0) then failS else uhL fi fu fu (frUh s (some true) 0 [] 0):=prunN_eq.trans (by kernel_rfl)
theorem uh_step (fi:List UInt8→Int→Option Int)(fu:Nat)(s:List UInt8)(no:Option Bool)(lo:Nat)(co:List PV)(i:Int)(K:St→Option PV) :
  stepF (enUh fi) hUh fu false fUh [1,1,1,0,1,0] (frUh s no lo co i) (fun st=>pnorm (hUh.loop.lookup 0) st K) =
  bif decide (i<(s.length:Int)) then ixB s i fun v=>(fi hxD (v.toNat:Int)).bind fun a=>ixB s (IntKind.i64.wrap (i+1)) fun w=>(fi hxD (w.toNat:Int)).bind fun b =>
   bif (bif decide (a<0) then true else decide (b<0)) then failS else (rmB lo 1 (K (frUh s (no.map (· && false)) (lo+1) (co++[.int .u8 (IntKind.u8.wrap (IntKind.i64.wrap (BitVec.ofInt IntKind.i64.bits (IntKind.i64.wrap (a * 2^(min (4:Int).toNat IntKind.i64.bits))) ||| BitVec.ofInt IntKind.i64.bits b).toNat))]) (IntKind.i64.wrap (i+2)))))
  else (pbytes co).bind fun r=>some (.tuple [.str r,.bool true]):=by kernel_rfl
def hxN (n:Nat):UInt8:=hxD.getD n 0
def hexV (s:List UInt8):List UInt8:=s.flatMap fun v=>[hxN (v.toNat/16),hxN (v.toNat%16)]
theorem shr4:∀ n:Fin 256,((n.val:Int).fdiv (2^(min (4:Int).toNat IntKind.u8.bits)))=((n.val/16:Nat):Int):=by decide
theorem and15:∀ n:Fin 256,(IntKind.u8.wrap (BitVec.ofInt IntKind.u8.bits (n.val:Int) &&& BitVec.ofInt IntKind.u8.bits 15).toNat)=((n.val%16:Nat):Int):=by decide
theorem hxD_at {R:Type}{n:Nat}(h:n<16){K:UInt8→Option R}:ixB hxD (n:Int) K=K (hxN n):=by
 refine ixB_eq ?_
 unfold hxN
 rw[List.getD_eq_getElem?_getD,List.getElem?_eq_getElem (show n<hxD.length from h)]
 rfl
theorem pbytes_map (l:List UInt8):pbytes (l.map bytePV)=some l:=by
 induction l with
 |nil=>rfl
 |cons a l ih =>
  rw[List.map_cons,pbytes,ih]
  show ((some ((a.toNat:Nat):Int)).bind fun n=>(some l).bind fun l=>some (UInt8.ofNat n.toNat::l))=_
  simp
theorem hx_loop (fu:Nat)(s:List UInt8)(hs:s.length≤100000):∀ (k i n:Nat),i+k=s.length→k<n →
  hxL fu n (frHx s (some (decide (i=0))) (2 * i) ((hexV (s.take i)).map bytePV) (s.length:Int) (i:Int))=some (.str (hexV s))
 |k,i,0,_,h=>by omega
 |0,i,n+1,hi,hn=>by
  unfold hxL
  rw[loopF_succ,hx_step,cond_f (decide_eq_false (by omega)),pbytes_map,List.take_of_length_le (by omega)]
  rfl
 |k+1,i,n+1,hi,hn=>by
  have hc:=List.getElem?_eq_getElem (l:=s) (i:=i) (by omega)
  have ih:=hx_loop fu s hs k (i+1) n (by omega) (by omega)
  have ht:s.take (i+1)=s.take i++[s[i]'(by omega)]:=List.take_succ_eq_append_getElem (by omega)
  rw[ht] at ih
  generalize s[i]'(by omega)=v at hc ih
  unfold hxL at ih ⊢
  have hv:=v.toNat_lt
  rw[loopF_succ,hx_step,cond_t (decide_eq_true (by omega)),ixB_eq hc,shr4 ⟨v.toNat,hv⟩,hxD_at (by omega),ixB_eq hc,and15 ⟨v.toNat,hv⟩,hxD_at (by omega),rmB_eq (by omega),wrapI_of (by omega) (by omega)]
  refine Eq.trans ?_ ih
  congr 2
  ·show (some _)=some _
   congr 1
   show (decide (i=0)&&false)=_
   rw[Bool.and_false]
   exact (decide_eq_false (by omega)).symm
  ·unfold hexV
   rw[List.flatMap_append,List.map_append]
   rfl
def hexD (s:List UInt8):Option (List UInt8):=bif decide (s.length≤100000) then some (hexV s) else none
theorem ok_hex:FOK NGs Ws 216 (tS1 hexD):=fok_tS1 woks allOK_nil allH_nil (h:=hHx) Tryz.func216 rfl (by decide) fun s r h=>by
 unfold hexD at h
 obtain⟨hs,h⟩:=bif_inv h
 injection h with h
 subst h
 have hs:=of_decide_eq_true hs
 exact⟨s.length+1,(hx_raw _ s).trans (hx_loop _ s hs s.length 0 _ (by omega) (by omega))⟩
def hxI (c:UInt8):Int:=Lib.indexByte hxD c
theorem hxI_all:∀ n:Fin 256,-1≤hxI (UInt8.ofNat n.val)∧hxI (UInt8.ofNat n.val)<16:=by decide
theorem hxI_ge (c:UInt8):-1≤hxI c∧hxI c<16:=by
 have:=hxI_all ⟨c.toNat,c.toNat_lt⟩
 rwa [UInt8.ofNat_toNat] at this
theorem or4:∀ a b:Fin 16,(IntKind.u8.wrap (IntKind.i64.wrap (BitVec.ofInt IntKind.i64.bits (IntKind.i64.wrap ((a.val:Int) * 2^(min (4:Int).toNat IntKind.i64.bits))) ||| BitVec.ofInt IntKind.i64.bits (b.val:Int)).toNat))=((16 * a.val+b.val:Nat):Int):=by decide
def unhV:List UInt8→Option (List UInt8)
 |[]=>some []
 |[_]=>none
 |a::b::t=>bif decide (hxI a<0)||decide (hxI b<0) then none else (unhV t).map fun l=>UInt8.ofNat (16 * (hxI a).toNat+(hxI b).toNat)::l
def ixbD (s:List UInt8)(c:Int):Option Int:=some (Lib.indexByte s c.toNat.toUInt8)
theorem unh_odd:∀ (k:Nat) (s:List UInt8),s.length≤k→s.length%2=1→unhV s=none
 |_,[],_,h=>by cases h
 |_,[_],_,_=>rfl
 |0,a::b::t,h,_=>by simp at h
 |k+1,a::b::t,h,h1=>by
  rw[unhV,unh_odd k t (by simp at h;omega) (by simp only[List.length_cons] at h1;omega)]
  cases decide (hxI a<0)||decide (hxI b<0)<;>rfl
def unhE (acc:List UInt8)(o:Option (List UInt8)):PV:=match o with
 |none=>.tuple [.str [],.bool false]
 |some l=>.tuple [.str (acc++l),.bool true]
theorem uh_loop (fu:Nat)(s:List UInt8)(hs:s.length≤100000)(h2:s.length%2=0):∀ (k i n:Nat) (acc:List UInt8),2 * i+2 * k=s.length→k<n→acc.length=i →
  uhL ixbD fu n (frUh s (some (decide (i=0))) i (acc.map bytePV) ((2 * i:Nat):Int))=some (unhE acc (unhV (s.drop (2 * i))))
 |k,i,0,_,_,h,_=>by omega
 |0,i,n+1,acc,hi,hn,ha=>by
  unfold uhL
  rw[loopF_succ,uh_step,cond_f (decide_eq_false (by omega)),pbytes_map,List.drop_of_length_le (by omega)]
  simp only[unhV,unhE,List.append_nil,Option.bind_some]
 |k+1,i,n+1,acc,hi,hn,ha=>by
  have hc:=List.getElem?_eq_getElem (l:=s) (i:=2 * i) (by omega)
  have hc2:=List.getElem?_eq_getElem (l:=s) (i:=2 * i+1) (by omega)
  rw[List.drop_eq_getElem_cons (show 2 * i<s.length by omega),List.drop_eq_getElem_cons (show 2 * i+1<s.length by omega)]
  generalize s[2 * i]'(by omega)=a at hc
  generalize s[2 * i+1]'(by omega)=b at hc2
  have e1:((2 * i:Nat):Int)+1=((2 * i+1:Nat):Int):=by omega
  have e2:((2 * i:Nat):Int)+2=((2 * (i+1):Nat):Int):=by omega
  have ga:=hxI_ge a
  have gb:=hxI_ge b
  have ei:∀ c:UInt8,ixbD hxD ((c.toNat:Nat):Int)=some (hxI c):=fun c=>by
   unfold ixbD hxI
   rw[Int.toNat_natCast,show (c.toNat).toUInt8=c from UInt8.ofNat_toNat]
  unfold uhL
  rw[loopF_succ,uh_step,cond_t (decide_eq_true (by omega)),ixB_eq hc,ei,Option.bind_some,wrapI_of (by omega) (by omega),e1,ixB_eq hc2,ei,Option.bind_some,unhV]
  by_cases ha0:hxI a<0
  ·rw[decide_eq_true ha0];rfl
  by_cases hb0:hxI b<0
  ·rw[decide_eq_true hb0,decide_eq_false ha0];rfl
  rw[decide_eq_false ha0,decide_eq_false hb0,cond_false,cond_false,rmB_eq (by omega)]
  obtain⟨x,hx⟩:∃ x:Fin 16,hxI a=(x.val:Int):=⟨⟨(hxI a).toNat,by omega⟩,by simp;omega⟩
  obtain⟨y,hy⟩:∃ y:Fin 16,hxI b=(y.val:Int):=⟨⟨(hxI b).toNat,by omega⟩,by simp;omega⟩
  rw[hx,hy,or4,wrapI_of (by omega) (by omega),e2]
  have ih:=uh_loop fu s hs h2 k (i+1) n (acc++[UInt8.ofNat (16 * x.val+y.val)]) (by omega) (by omega) (by rw[List.length_append,ha];rfl)
  unfold uhL at ih
  rw[show 2 * i+1+1=2 * (i+1) by omega]
  refine Eq.trans ?_ (ih.trans ?_)
  ·congr 2
   ·show (some (decide (i=0)&&false))=some _
    rw[Bool.and_false,decide_eq_false (show ¬ i+1=0 by omega)]
   ·rw[List.map_append]
    congr 1
    show [PV.int .u8 _]=[PV.int .u8 _]
    rw[UInt8.toNat_ofNat_of_lt' (by have:=x.isLt;have:=y.isLt;show _<256;omega)]
  ·simp only[Int.toNat_natCast,Bool.or_false,cond_false]
   cases unhV (s.drop (2 * (i+1))) with
   |none=>rfl
   |some l=>simp only[Option.map_some,unhE,List.append_assoc];rfl
def unhD (s:List UInt8):Option (List UInt8×Bool):=bif decide (s.length≤100000) then some (match unhV s with|none=>([],false)|some l=>(l,true)) else none
theorem ok_ixb':FOK NGs Ws 288 (tBx ixbD):=fok_wk ok_ixb (tBx_nat _) rfl fun xs r h=>by
 simp only[tBx] at h
 split at h
 ·exact h
 ·cases h
theorem ok_unhex:FOK NGs Ws 271 (tSB unhD):=fok_tSB woks (allOK_cons ok_ixb' allOK_nil) allH_nil (h:=hUh) Tryz.func271 rfl (by decide) fun s r h=>by
 unfold unhD at h
 obtain⟨hs,h⟩:=bif_inv h
 injection h with h
 subst h
 have hs:=of_decide_eq_true hs
 refine⟨s.length+1,(uh_raw ixbD _ s).trans ?_⟩
 have e:(s.length:Int).tmod 2=((s.length%2:Nat):Int):=by rw[Int.tmod_eq_emod_of_nonneg (by omega)];omega
 rw[e]
 by_cases h2:s.length%2=0
 ·rw[h2,cond_f (by rfl)]
  have:=uh_loop (s.length+1) s hs h2 (s.length/2) 0 (s.length+1) [] (by omega) (by omega) rfl
  refine this.trans ?_
  rw[Nat.mul_zero,List.drop_zero]
  cases unhV s<;>rfl
 ·have h3:s.length%2=1:=by omega
  rw[h3,cond_t (by rfl),unh_odd _ s (Nat.le_refl _) h3]
  rfl
end Go.Proofs.YtkpfigikffphdaaGreatDoor
end
