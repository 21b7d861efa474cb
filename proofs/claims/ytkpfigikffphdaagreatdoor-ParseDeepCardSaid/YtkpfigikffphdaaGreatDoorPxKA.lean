/-
  Lemmas, part K1: what the claim needs of the texts of wip/tpl.
-/
import Derived.Laws.IdiomCopy
import Derived.Shelf.Spec.SearchS
import Derived.Deep.LoopGhost
import Derived.Deep.Draws
import Derived.LoopTactic
import Derived.Shelf.Strconv.Itoa3
import Derived.Test.YtkpfigikffphdaaGreatDoorPxPD
import Derived.Test.YtkpfigikffphdaaGreatDoorPxBA
set_option linter.unusedVariables false
set_option linter.unusedSimpArgs false
section
set_option maxRecDepth 100000
namespace Go.Proofs.YtkpfigikffphdaaGreatDoor
open Go.RowKit
structure PS where
 nl:Option Bool
 n:Nat
 cs:List PV
 e:Int
 o:Int
 b:Int
def PS.box (s:PS):List PV:=[.sl s.nl 7 s.n s.cs,.int .i64 s.e,.int .i64 s.o,.int .i64 s.b]
structure TR where
 k:Int
 a:Int
 t:List UInt8
 vk:Int
 vn:Int
 vc:Int
 vs:List UInt8
def TR.cells (x:TR):List PV:=[.int .i64 x.k,.int .i64 x.a,.str x.t,.int .i64 x.vk,.int .i64 x.vn,.int .i64 x.vc,.str x.vs]
structure XR where
 k:Int
 a:Int
 op:List UInt8
 vk:Int
 vn:Int
 vc:Int
 vs:List UInt8
 tb:List UInt8
 nm:List UInt8
 nt:Bool
 tk:Int
 ts:Int
 knl:Option Bool
 kn:Nat
 kc:List PV
def XR.cells (x:XR):List PV:=[.int .i64 x.k,.int .i64 x.a,.str x.op,.int .i64 x.vk,.int .i64 x.vn,.int .i64 x.vc,.str x.vs,.str x.tb,.str x.nm,.bool x.nt,.int .i64 x.tk,.int .i64 x.ts,.sl x.knl 13 x.kn x.kc]
def XR.zero:XR:=⟨0,0,[],0,0,0,[],[],[],false,0,0,some true,0,[]⟩
def TR.zero:TR:=⟨0,0,[],0,0,0,[]⟩
structure VR where
 vk:Int
 vn:Int
 vc:Int
 vs:List UInt8
 ok:Bool
def onPS {R:Type}(bs:List (List PV))(k:PS→Option R):Option R :=
 match bs with
 |[[.sl nl z n cs,.int .i64 e,.int .i64 o,.int .i64 b]]=>if z=7 then k ⟨nl,n,cs,e,o,b⟩ else none
 |_=>none
def tSI (f:PS→Option (Int×PS)):HFn:=⟨fun bs xs k=>match xs with
 |[.ptr 0 0]=>onPS bs fun s=>(f s).bind fun r=>k [r.2.box] (.int .i64 r.1)
 |_=>none⟩
def tSU (f:PS→Option PS):HFn:=⟨fun bs xs k=>match xs with
 |[.ptr 0 0]=>onPS bs fun s=>(f s).bind fun r=>k [r.box] (.tuple [])
 |_=>none⟩
def tSUi (f:PS→Int→Option PS):HFn:=⟨fun bs xs k=>match xs with
 |[.ptr 0 0,.int .i64 a]=>onPS bs fun s=>(f s a).bind fun r=>k [r.box] (.tuple [])
 |_=>none⟩
def tSUw (f:PS→List UInt8→Option PS):HFn:=⟨fun bs xs k=>match xs with
 |[.ptr 0 0,.str w]=>onPS bs fun s=>(f s w).bind fun r=>k [r.box] (.tuple [])
 |_=>none⟩
def tSBw (f:PS→List UInt8→Option (Bool×PS)):HFn:=⟨fun bs xs k=>match xs with
 |[.ptr 0 0,.str w]=>onPS bs fun s=>(f s w).bind fun r=>k [r.2.box] (.bool r.1)
 |_=>none⟩
def tSBl (f:PS→Nat→List PV→Option (Bool×PS)):HFn:=⟨fun bs xs k=>match xs with
 |[.ptr 0 0,.sl _ z n ws]=>if z=1 then onPS bs fun s=>(f s n ws).bind fun r=>k [r.2.box] (.bool r.1) else none
 |_=>none⟩
def tSBk (f:PS→Int→Nat→List PV→Option (Bool×PS)):HFn:=⟨fun bs xs k=>match xs with
 |[.ptr 0 0,.int .i64 a,.sl _ z n ws]=>if z=1 then onPS bs fun s=>(f s a n ws).bind fun r=>k [r.2.box] (.bool r.1) else none
 |_=>none⟩
def tCn (f:Nat→List PV→List UInt8→Option Bool):PFn:=⟨fun xs k=>match xs with|[.sl _ z n c,.str s]=>if z=1 then (f n c s).bind fun b=>k (.bool b) else none|_=>none,false⟩
def tCi (f:Nat→List PV→List UInt8→Option Int):PFn:=⟨fun xs k=>match xs with|[.sl _ z n c,.str s]=>if z=1 then (f n c s).bind fun b=>k (.int .i64 b) else none|_=>none,false⟩
def tWi (f:List UInt8→Option Int):PFn:=⟨fun xs k=>match xs with|[.str s]=>(f s).bind fun b=>k (.int .i64 b)|_=>none,false⟩
def tWV (f:List UInt8→Option VR):PFn:=⟨fun xs k=>match xs with|[.str s]=>(f s).bind fun r=>k (.tuple [.agg [.int .i64 r.vk,.int .i64 r.vn,.int .i64 r.vc,.str r.vs],.bool r.ok])|_=>none,false⟩
def tWs (f:List UInt8→Option (Option Bool×Nat×List PV)):PFn:=⟨fun xs k=>match xs with|[.str s]=>(f s).bind fun r=>k (.sl r.1 1 r.2.1 r.2.2)|_=>none,false⟩
def tST (f:PS→Option (TR×PS)):HFn:=⟨fun bs xs k=>match xs with
 |[.ptr 0 0]=>onPS bs fun s=>(f s).bind fun r=>k [r.2.box] (.agg r.1.cells)
 |_=>none⟩
def tSS (f:PS→Option (List UInt8×PS)):HFn:=⟨fun bs xs k=>match xs with
 |[.ptr 0 0]=>onPS bs fun s=>(f s).bind fun r=>k [r.2.box] (.str r.1)
 |_=>none⟩
def tSIi (f:PS→Int→Option (Int×PS)):HFn:=⟨fun bs xs k=>match xs with
 |[.ptr 0 0,.int .i64 a]=>onPS bs fun s=>(f s a).bind fun r=>k [r.2.box] (.int .i64 r.1)
 |_=>none⟩
def tSY (f:PS→Option ((Int×Int)×PS)):HFn:=⟨fun bs xs k=>match xs with
 |[.ptr 0 0]=>onPS bs fun s=>(f s).bind fun r=>k [r.2.box] (.agg [.int .i64 r.1.1,.int .i64 r.1.2])
 |_=>none⟩
def tSL (f:PS→Option (VR×PS)):HFn:=⟨fun bs xs k=>match xs with
 |[.ptr 0 0]=>onPS bs fun s=>(f s).bind fun r=>k [r.2.box] (.tuple [.agg [.int .i64 r.1.vk,.int .i64 r.1.vn,.int .i64 r.1.vc,.str r.1.vs],.bool r.1.ok])
 |_=>none⟩
def tSX (f:PS→Option (XR×PS)):HFn:=⟨fun bs xs k=>match xs with
 |[.ptr 0 0]=>onPS bs fun s=>(f s).bind fun r=>k [r.2.box] (.agg r.1.cells)
 |_=>none⟩
def tSXi (f:PS→Int→Option (XR×PS)):HFn:=⟨fun bs xs k=>match xs with
 |[.ptr 0 0,.int .i64 a]=>onPS bs fun s=>(f s a).bind fun r=>k [r.2.box] (.agg r.1.cells)
 |_=>none⟩
def chk {S:Type}(b:Bool)(x:Option S):Option S:=bif b then x else none
def hdI {S:Type}(cs:List PV)(k:Nat)(kk:Int→Option S):Option S:=(((cs.drop (Int.toNat 0 * 7)).take 7).drop k).head?.bind fun x=>(x.asInt .i64).bind kk
def hdS {S:Type}(cs:List PV)(k:Nat)(kk:List UInt8→Option S):Option S:=(((cs.drop (Int.toNat 0 * 7)).take 7).drop k).head?.bind fun x=>x.asStr.bind kk
def hdJ {S:Type}(cs:List PV)(k:Nat)(kk:Int→Option S):Option S:=((((cs.drop (Int.toNat 0 * 7)).take 7).drop 3).drop k).head?.bind fun x=>(x.asInt .i64).bind kk
section
variable {R:Type}
noncomputable abbrev hh0:Hints:=⟨[],[]⟩
theorem at_raw (fu:Nat)(s:PS)(K:List (List PV)→PV→Option R):prunH (enH [] [] []) hh0 fu Tryz.f96 [s.box] [.ptr 0 0] K =
  bif ((s.n:Int)==0) then K [s.box] (.int .i64 s.e) else chk (decide ((0:Int)≤0)&&decide ((0:Int)<s.n)) (hdI s.cs 1 fun a=>K [s.box] (.int .i64 a)):=by kernel_rfl
theorem failAt_raw (fu:Nat)(s:PS)(a:Int)(K:List (List PV)→PV→Option R):prunH (enH [] [] []) hh0 fu Tryz.f95 [s.box] [.ptr 0 0,.int .i64 a] K =
  bif decide (s.b<0) then K [(⟨some true,0,[],s.e,s.o,a⟩:PS).box] (.tuple []) else K [s.box] (.tuple []):=by kernel_rfl
theorem fail_raw (fat:PS→Option (Int×PS))(ff:PS→Int→Option PS)(fu:Nat)(s:PS)(K:List (List PV)→PV→Option R):prunH (enH [] [(96,tSI fat),(95,tSUi ff)] []) hh0 fu Tryz.f52 [s.box] [.ptr 0 0] K =
  (fat s).bind fun r=>(ff r.2 r.1).bind fun s=>K [s.box] (.tuple []):=by kernel_rfl
theorem is_raw (fc:Nat→List PV→List UInt8→Option Bool)(fu:Nat)(s:PS)(a:Int)(nl:Option Bool)(n:Nat)(ws:List PV)(K:List (List PV)→PV→Option R):prunH (enH [(184,tCn fc)] [] []) hh0 fu Tryz.f101 [s.box] [.ptr 0 0,.int .i64 a,.sl nl 1 n ws] K =
  bif decide ((0:Int)<s.n) then chk (decide ((0:Int)≤0)&&decide ((0:Int)<s.n)) (hdI s.cs 0 fun k=>bif k==a then chk (decide ((0:Int)≤0)&&decide ((0:Int)<s.n)) (hdS s.cs 2 fun w=>(fc n ws w).bind fun r=>K [s.box] (.bool r)) else K [s.box] (.bool false)) else K [s.box] (.bool false):=by kernel_rfl
theorem key_raw (fi:PS→Int→Nat→List PV→Option (Bool×PS))(fu:Nat)(s:PS)(w:List UInt8)(K:List (List PV)→PV→Option R):prunH (enH [] [(101,tSBk fi)] []) hh0 fu Tryz.f114 [s.box] [.ptr 0 0,.str w] K =
  (fi s 1 1 [.str w]).bind fun r=>K [r.2.box] (.bool r.1):=by kernel_rfl
theorem sign_raw (fi:PS→Int→Nat→List PV→Option (Bool×PS))(fu:Nat)(s:PS)(nl:Option Bool)(n:Nat)(ws:List PV)(K:List (List PV)→PV→Option R):prunH (enH [] [(101,tSBk fi)] []) hh0 fu Tryz.f128 [s.box] [.ptr 0 0,.sl nl 1 n ws] K =
  (fi s 3 n ws).bind fun r=>K [r.2.box] (.bool r.1):=by kernel_rfl
def hdT {S:Type}(cs:List PV)(kk:TR→Option S):Option S:=hdI cs 0 fun k=>((((cs.drop (Int.toNat 0 * 7)).take 7).drop 0).tail.head?.bind fun x=>(x.asInt .i64).bind fun a=>(((cs.drop (Int.toNat 0 * 7)).take 7).drop 0).tail.tail.head?.bind fun x=>x.asStr.bind fun t=>(((cs.drop (Int.toNat 0 * 7)).take 7).drop 0).tail.tail.tail.head?.bind fun x=>(x.asInt .i64).bind fun vk=>(((cs.drop (Int.toNat 0 * 7)).take 7).drop 0).tail.tail.tail.tail.head?.bind fun x=>(x.asInt .i64).bind fun vn=>(((cs.drop (Int.toNat 0 * 7)).take 7).drop 0).tail.tail.tail.tail.tail.head?.bind fun x=>(x.asInt .i64).bind fun vc=>(((cs.drop (Int.toNat 0 * 7)).take 7).drop 0).tail.tail.tail.tail.tail.tail.head?.bind fun x=>x.asStr.bind fun vs=>kk ⟨k,a,t,vk,vn,vc,vs⟩)
theorem take_raw (ff:PS→Option PS)(fu:Nat)(s:PS)(K:List (List PV)→PV→Option R):prunH (enH [] [(52,tSU ff)] []) hh0 fu Tryz.f102 [s.box] [.ptr 0 0] K =
  bif ((s.n:Int)==0) then (ff s).bind fun s=>K [s.box] (.agg TR.zero.cells) else chk (decide ((0:Int)≤0)&&decide ((0:Int)<s.n)) (hdT s.cs fun t=>chk (decide ((0:Int)≤1)&&decide ((1:Int)≤s.n)) (K [(⟨s.nl,s.n-1,(s.cs.take (s.n * 7)).drop (1 * 7),s.e,s.o,s.b⟩:PS).box] (.agg t.cells))):=by kernel_rfl
theorem skip_raw (fk:PS→List UInt8→Option (Bool×PS))(ft:PS→Option (TR×PS))(fu:Nat)(s:PS)(w:List UInt8)(K:List (List PV)→PV→Option R):prunH (enH [] [(114,tSBw fk),(102,tST ft)] []) hh0 fu Tryz.f64 [s.box] [.ptr 0 0,.str w] K =
  (fk s w).bind fun r=>bif !r.1 then K [r.2.box] (.bool false) else (ft r.2).bind fun q=>K [q.2.box] (.bool true):=by kernel_rfl
theorem wantSign_raw (fs:PS→Nat→List PV→Option (Bool×PS))(ff:PS→Option PS)(ft:PS→Option (TR×PS))(fu:Nat)(s:PS)(w:List UInt8)(K:List (List PV)→PV→Option R):prunH (enH [] [(128,tSBl fs),(52,tSU ff),(102,tST ft)] []) hh0 fu Tryz.f126 [s.box] [.ptr 0 0,.str w] K =
  (fs s 1 [.str w]).bind fun r=>bif !r.1 then (ff r.2).bind fun s=>K [s.box] (.tuple []) else (ft r.2).bind fun q=>K [q.2.box] (.tuple []):=by kernel_rfl
theorem name_raw (ff:PS→Option PS)(ft:PS→Option (TR×PS))(fu:Nat)(s:PS)(K:List (List PV)→PV→Option R):prunH (enH [] [(52,tSU ff),(102,tST ft)] []) hh0 fu Tryz.f115 [s.box] [.ptr 0 0] K =
  bif !((s.n:Int)==0) then chk (decide ((0:Int)≤0)&&decide ((0:Int)<s.n)) (hdI s.cs 0 fun k=>bif k != 0 then (ff s).bind fun s=>K [s.box] (.str []) else (ft s).bind fun q=>K [q.2.box] (.str q.1.t)) else (ff s).bind fun s=>K [s.box] (.str []):=by kernel_rfl
theorem number_raw (ff:PS→Option PS)(ft:PS→Option (TR×PS))(fu:Nat)(s:PS)(m:Int)(K:List (List PV)→PV→Option R):prunH (enH [] [(52,tSU ff),(102,tST ft)] []) hh0 fu Tryz.f135 [s.box] [.ptr 0 0,.int .i64 m] K =
  bif !((s.n:Int)==0) then chk (decide ((0:Int)≤0)&&decide ((0:Int)<s.n)) (hdI s.cs 0 fun k=>bif !(k != 2) then
   chk (decide ((0:Int)≤0)&&decide ((0:Int)<s.n)) (hdI s.cs 3 fun vk=>bif !(vk != 2) then
   chk (decide ((0:Int)≤0)&&decide ((0:Int)<s.n)) (hdJ s.cs 1 fun vn=>bif decide (m<vn) then (ff s).bind fun s=>K [s.box] (.int .i64 0) else (ft s).bind fun q=>K [q.2.box] (.int .i64 q.1.vn))
   else (ff s).bind fun s=>K [s.box] (.int .i64 0)) else (ff s).bind fun s=>K [s.box] (.int .i64 0)) else (ff s).bind fun s=>K [s.box] (.int .i64 0):=by kernel_rfl
theorem kind_raw (fi:Nat→List PV→List UInt8→Option Int)(fu:Nat)(w:List UInt8):prun (en [(230,tCi fi)]) hh0 fu false Tryz.f200 [.str w] =
  (fi 6 [.str [],.str [66,79,79,76],.str [73,78,84],.str [68,69,67,73,77,65,76],.str [84,69,88,84],.str [66,89,84,69,83]] w).bind fun i=>some (.int .i64 (if 0>i then 0 else i)):=by kernel_rfl
def wordA (w:List UInt8):Option PV:=bif w==[84,82,85,69] then some (.tuple [.agg [.int .i64 1,.int .i64 1,.int .i64 0,.str []],.bool true]) else some (.tuple [.agg [.int .i64 1,.int .i64 0,.int .i64 0,.str []],.bool true])
def wordZ (w:List UInt8):Option PV:=some (.tuple [.agg [.int .i64 0,.int .i64 0,.int .i64 0,.str []],.bool (w==[78,85,76,76])])
theorem word_raw (fu:Nat)(w:List UInt8):prun (en [(277,evalFn [] hh0 0 Tryz.f277)]) hh0 fu false Tryz.f256 [.str w] =
  bif w==[84,82,85,69] then (bif w==[84,82,85,69] then wordA w else wordZ w) else bif w==[70,65,76,83,69] then wordA w else wordZ w:=by kernel_rfl
theorem literal_raw (fw:List UInt8→Option VR)(ft:PS→Option (TR×PS))(fu:Nat)(s:PS)(K:List (List PV)→PV→Option R):prunH (enH [(256,tWV fw)] [(102,tST ft)] []) hh0 fu Tryz.f229 [s.box] [.ptr 0 0] K =
  bif ((s.n:Int)==0) then K [s.box] (.tuple [.agg [.int .i64 0,.int .i64 0,.int .i64 0,.str []],.bool false]) else chk (decide ((0:Int)≤0)&&decide ((0:Int)<s.n)) (hdT s.cs fun t =>
   bif t.k==2 then (ft s).bind fun q=>K [q.2.box] (.tuple [.agg [.int .i64 t.vk,.int .i64 t.vn,.int .i64 t.vc,.str t.vs],.bool true]) else
   (fw t.t).bind fun v=>bif (bif t.k != 1 then true else !v.ok) then K [s.box] (.tuple [.agg [.int .i64 0,.int .i64 0,.int .i64 0,.str []],.bool false]) else (ft s).bind fun q=>K [q.2.box] (.tuple [.agg [.int .i64 v.vk,.int .i64 v.vn,.int .i64 v.vc,.str v.vs],.bool true])):=by kernel_rfl
theorem typed_raw (fk:List UInt8→Option Int)(ff:PS→Option PS)(ft:PS→Option (TR×PS))(fw:PS→List UInt8→Option PS)(fn:PS→Int→Option (Int×PS))(fu:Nat)(s:PS)(K:List (List PV)→PV→Option R):prunH (enH [(200,tWi fk)] [(52,tSU ff),(102,tST ft),(126,tSUw fw),(135,tSIi fn)] []) hh0 fu Tryz.f120 [s.box] [.ptr 0 0] K =
  bif !((s.n:Int)==0) then chk (decide ((0:Int)≤0)&&decide ((0:Int)<s.n)) (hdI s.cs 0 fun k=>bif !(k != 1) then
   chk (decide ((0:Int)≤0)&&decide ((0:Int)<s.n)) (hdS s.cs 2 fun w=>(fk w).bind fun j=>bif j==0 then (ff s).bind fun s=>K [s.box] (.agg [.int .i64 0,.int .i64 0]) else
   (ft s).bind fun q=>(fk q.1.t).bind fun j=>bif j==3 then (fw q.2 [40]).bind fun s=>(fn s 6).bind fun m=>(fw m.2 [41]).bind fun s=>K [s.box] (.agg [.int .i64 j,.int .i64 m.1]) else K [q.2.box] (.agg [.int .i64 j,.int .i64 0]))
   else (ff s).bind fun s=>K [s.box] (.agg [.int .i64 0,.int .i64 0])) else (ff s).bind fun s=>K [s.box] (.agg [.int .i64 0,.int .i64 0]):=by kernel_rfl
end
def PS.open (s:PS)(d:Int):PS:=⟨s.nl,s.n,s.cs,s.e,IntKind.i64.wrap (s.o+d),s.b⟩
def PS.shut (s:PS)(d:Int):PS:=⟨s.nl,s.n,s.cs,s.e,IntKind.i64.wrap (s.o-d),s.b⟩
def unX (a:Int)(op:List UInt8)(e:XR):XR:=⟨2,a,op,0,0,0,[],[],[],false,0,0,some false,1,e.cells⟩
def binX (a:Int)(op:List UInt8)(e y:XR):XR:=⟨3,a,op,0,0,0,[],[],[],false,0,0,some false,2,e.cells++y.cells⟩
def nullX (a:Int)(nt:Bool)(e:XR):XR:=⟨4,a,[],0,0,0,[],[],[],nt,0,0,some false,1,e.cells⟩
def castX (a tk ts:Int)(e:XR):XR:=⟨6,a,[],0,0,0,[],[],[],false,tk,ts,some false,1,e.cells⟩
def callX (a:Int)(op:List UInt8)(e:XR):XR:=⟨5,a,op,0,0,0,[],[],[],false,0,0,some false,1,e.cells⟩
def call0 (a:Int)(op:List UInt8):XR:=⟨5,a,op,0,0,0,[],[],[],false,0,0,some true,0,[]⟩
def litX (a vk vn vc:Int)(vs:List UInt8):XR:=⟨0,a,[],vk,vn,vc,vs,[],[],false,0,0,some true,0,[]⟩
def colX (a:Int)(tb nm:List UInt8):XR:=⟨1,a,[],0,0,0,[],tb,nm,false,0,0,some true,0,[]⟩
def deepK {R:Type}(ff:PS→Option PS)(s:PS)(body:PS→(XR→PS→Option R)→Option R)(Kf:PS→Option R)(K:XR→PS→Option R):Option R :=
 bif decide ((20:Int)≤s.o) then (ff s).bind fun s=>Kf s else body (s.open 1) fun x s=>K x (s.shut 1)
def withinK {R:Type}(fs:PS→Nat→List PV→Option (Bool×PS))(ff:PS→Option PS)(ft:PS→Option (TR×PS))(fw:PS→List UInt8→Option PS)(s:PS)(body:PS→(XR→PS→Option R)→Option R)(Kf:PS→Option R)(K:XR→PS→Option R):Option R :=
 (fs s 1 [.str [40]]).bind fun r=>bif !r.1 then (ff r.2).bind fun s=>Kf s else deepK ff r.2 (fun s kk=>(ft s).bind fun t=>body t.2 fun x s=>(fw s [41]).bind fun s=>kk x s) Kf K
section
variable {R:Type}
noncomputable def vDeep (ff:PS→Option PS)(ld:List (FuncId×HFn)):HFn:=evalD [] ((52,tSU ff)::ld) [] [(225,evalH [] [] [] hh0 0 Tryz.f225)] hh0 0 Tryz.f180
theorem neg_raw (fk:PS→List UInt8→Option (Bool×PS))(fc fn:PS→Option (XR×PS))(ff:PS→Option PS)(ft:PS→Option (TR×PS))(fu:Nat)(s:PS)(K:List (List PV)→PV→Option R) :
  prunH (enH [] [(114,tSBw fk),(179,tSX fc),(180,vDeep ff [(181,evalH [] [(102,tST ft),(98,tSX fn)] [] hh0 0 Tryz.f181)])] []) hh0 fu Tryz.f98 [s.box] [.ptr 0 0] K =
  (fk s [78,79,84]).bind fun r=>bif !r.1 then (fc r.2).bind fun q=>K [q.2.box] (.agg q.1.cells) else
   deepK ff r.2 (fun s kk=>(ft s).bind fun t=>(fn t.2).bind fun e=>kk (unX t.1.a [78,79,84] e.1) e.2) (fun s=>K [s.box] (.agg XR.zero.cells)) fun x s=>K [s.box] (.agg x.cells):=by kernel_rfl
theorem fact_raw (fs:PS→Nat→List PV→Option (Bool×PS))(fc fn:PS→Option (XR×PS))(ff:PS→Option PS)(ft:PS→Option (TR×PS))(fu:Nat)(s:PS)(K:List (List PV)→PV→Option R) :
  prunH (enH [] [(128,tSBl fs),(182,tSX fc),(180,vDeep ff [(183,evalH [] [(102,tST ft),(99,tSX fn)] [] hh0 0 Tryz.f183)])] []) hh0 fu Tryz.f99 [s.box] [.ptr 0 0] K =
  (fs s 1 [.str [45]]).bind fun r=>bif !r.1 then (fc r.2).bind fun q=>K [q.2.box] (.agg q.1.cells) else
   deepK ff r.2 (fun s kk=>(ft s).bind fun t=>(fn t.2).bind fun e=>kk (unX t.1.a [45] e.1) e.2) (fun s=>K [s.box] (.agg XR.zero.cells)) fun x s=>K [s.box] (.agg x.cells):=by kernel_rfl
noncomputable def vWith (fs:PS→Nat→List PV→Option (Bool×PS))(ff:PS→Option PS)(ft:PS→Option (TR×PS))(fw:PS→List UInt8→Option PS)(ld:List (FuncId×HFn)):HFn :=
 evalH [] [(128,tSBl fs),(52,tSU ff),(180,vDeep ff [(253,evalH [] ((102,tST ft)::(126,tSUw fw)::ld) [] hh0 0 Tryz.f253)])] [] hh0 0 Tryz.f226
theorem pcast_raw (fs:PS→Nat→List PV→Option (Bool×PS))(ff:PS→Option PS)(ft:PS→Option (TR×PS))(fw:PS→List UInt8→Option PS)(fe:PS→Option (XR×PS))(fwa:PS→List UInt8→Option PS)(fy:PS→Option ((Int×Int)×PS))(fu:Nat)(s:PS)(K:List (List PV)→PV→Option R) :
  prunH (enH [] [(102,tST ft),(226,vWith fs ff ft fw [(254,evalH [] [(22,tSX fe),(118,tSUw fwa),(120,tSY fy)] [] hh0 0 Tryz.f254)])] []) hh0 fu Tryz.f227 [s.box] [.ptr 0 0] K =
  (ft s).bind fun t=>withinK fs ff ft fw t.2 (fun s kk=>(fe s).bind fun e=>(fwa e.2 [65,83]).bind fun s=>(fy s).bind fun y=>kk (castX t.1.a y.1.1 y.1.2 e.1) y.2) (fun s=>K [s.box] (.agg XR.zero.cells)) fun x s=>K [s.box] (.agg x.cells):=by kernel_rfl
theorem call_raw (fs:PS→Nat→List PV→Option (Bool×PS))(ff:PS→Option PS)(ft:PS→Option (TR×PS))(fw:PS→List UInt8→Option PS)(fe:PS→Option (XR×PS))(fu:Nat)(s:PS)(K:List (List PV)→PV→Option R) :
  prunH (enH [] [(102,tST ft),(226,vWith fs ff ft fw [(255,evalH [] [(128,tSBl fs),(102,tST ft),(22,tSX fe)] [] hh0 0 Tryz.f255)])] []) hh0 fu Tryz.f228 [s.box] [.ptr 0 0] K =
  (ft s).bind fun t=>withinK fs ff ft fw t.2 (fun s kk=>bif t.1.t==[67,79,85,78,84] then (fs s 1 [.str [42]]).bind fun r=>(bif r.1 then (ft r.2).bind fun q=>kk (call0 t.1.a t.1.t) q.2 else (fe r.2).bind fun e=>kk (callX t.1.a t.1.t e.1) e.2) else (fe s).bind fun e=>kk (callX t.1.a t.1.t e.1) e.2)
   (fun s=>K [s.box] (.agg (call0 t.1.a t.1.t).cells)) fun x s=>K [s.box] (.agg x.cells):=by kernel_rfl
theorem atom_raw (fa:PS→Option (Int×PS))(fs:PS→Nat→List PV→Option (Bool×PS))(ff:PS→Option PS)(ft:PS→Option (TR×PS))(fw:PS→List UInt8→Option PS)(fe:PS→Option (XR×PS))(fk:PS→List UInt8→Option (Bool×PS))(fi:PS→Int→Nat→List PV→Option (Bool×PS))(fca fcl:PS→Option (XR×PS))(fl:PS→Option (VR×PS))(fnm:PS→Option (List UInt8×PS))(fu:Nat)(s:PS)(K:List (List PV)→PV→Option R) :
  prunH (enH [] [(96,tSI fa),(128,tSBl fs),(226,vWith fs ff ft fw [(22,tSX fe)]),(114,tSBw fk),(101,tSBk fi),(227,tSX fca),(228,tSX fcl),(229,tSL fl),(115,tSS fnm),(102,tST ft)] []) hh0 fu Tryz.f182 [s.box] [.ptr 0 0] K =
  (fa s).bind fun a=>(fs a.2 1 [.str [40]]).bind fun r=>bif r.1 then withinK fs ff ft fw r.2 (fun s kk=>(fe s).bind fun e=>kk e.1 e.2) (fun s=>K [s.box] (.agg XR.zero.cells)) (fun x s=>K [s.box] (.agg x.cells)) else
   (fk r.2 [67,65,83,84]).bind fun r=>bif r.1 then (fca r.2).bind fun e=>K [e.2.box] (.agg e.1.cells) else
   (fi r.2 1 4 [.str [67,79,85,78,84],.str [83,85,77],.str [77,73,78],.str [77,65,88]]).bind fun r=>bif r.1 then (fcl r.2).bind fun e=>K [e.2.box] (.agg e.1.cells) else
   (fl r.2).bind fun v=>bif v.1.ok then K [v.2.box] (.agg (litX a.1 v.1.vk v.1.vn v.1.vc v.1.vs).cells) else
   (fnm v.2).bind fun n=>(fs n.2 1 [.str [46]]).bind fun r=>bif r.1 then (ft r.2).bind fun t=>(fnm t.2).bind fun m=>K [m.2.box] (.agg (colX a.1 n.1 m.1).cells) else K [r.2.box] (.agg (colX a.1 [] n.1).cells):=by kernel_rfl
def cmpW:List PV:=[.str [61],.str [60,62],.str [60],.str [60,61],.str [62],.str [62,61]]
theorem pcomp_raw (fs:PS→Nat→List PV→Option (Bool×PS))(ft:PS→Option (TR×PS))(fsu:PS→Option (XR×PS))(fk fsk:PS→List UInt8→Option (Bool×PS))(fwa:PS→List UInt8→Option PS)(fu:Nat)(s:PS)(K:List (List PV)→PV→Option R) :
  prunH (enH [] [(224,tSX fsu),(128,tSBl fs),(102,tST ft),(114,tSBw fk),(64,tSBw fsk),(118,tSUw fwa)] []) hh0 fu Tryz.f179 [s.box] [.ptr 0 0] K =
  (fsu s).bind fun e=>(fs e.2 6 cmpW).bind fun r=>bif r.1 then (ft r.2).bind fun t=>(fsu t.2).bind fun y=>K [y.2.box] (.agg (binX t.1.a t.1.t e.1 y.1).cells) else
   (fk r.2 [73,83]).bind fun r=>bif !r.1 then K [r.2.box] (.agg e.1.cells) else (ft r.2).bind fun t=>(fsk t.2 [78,79,84]).bind fun n=>(fwa n.2 [78,85,76,76]).bind fun s=>K [s.box] (.agg (nullX t.1.a n.1 e.1).cells):=by kernel_rfl
theorem sum_raw (fc:PS→Int→Option (XR×PS))(fu:Nat)(s:PS)(K:List (List PV)→PV→Option R):prunH (enH [] [(53,tSXi fc)] []) hh0 fu Tryz.f224 [s.box] [.ptr 0 0] K=(fc s 2).bind fun e=>K [e.2.box] (.agg e.1.cells):=by kernel_rfl
theorem expr_raw (fc:PS→Int→Option (XR×PS))(fu:Nat)(s:PS)(K:List (List PV)→PV→Option R):prunH (enH [] [(53,tSXi fc)] []) hh0 fu Tryz.f22 [s.box] [.ptr 0 0] K=(fc s 0).bind fun e=>K [e.2.box] (.agg e.1.cells):=by kernel_rfl
end
def frameB (n m:Nat)(l:List (Nat×TV))(b:List (Nat×List TV)):St:=⟨(List.range n).map fun t=>(l.lookup t).getD (.undef,0),(List.range m).map fun t=>b.lookup t,.nil⟩
noncomputable def fCh:Func:=Tryz.f53
def hCh:Hints:=⟨[],[(1,⟨[(2,false),(3,false),(4,false),(5,false),(6,false),(7,false)],[2,3,4,6,7,43]⟩)]⟩
noncomputable def vLev:PFn:=evalFn [] hh0 0 Tryz.f100
noncomputable def lhCh (fc:PS→Int→Option (XR×PS))(fn ff:PS→Option (XR×PS))(fi:PS→Int→Nat→List PV→Option (Bool×PS))(ft:PS→Option (TR×PS)):List (FuncId×HFn) :=
 [(97,evalH [] [(53,tSXi fc)] [] hh0 0 Tryz.f97),(98,tSX fn),(99,tSX ff),(101,tSBk fi),(102,tST ft)]
noncomputable def enCh (fc:PS→Int→Option (XR×PS))(fn ff:PS→Option (XR×PS))(fi:PS→Int→Nat→List PV→Option (Bool×PS))(ft:PS→Option (TR×PS)):Env:=enH [(100,vLev)] (lhCh fc fn ff fi ft) []
def chClo (n:Nat):PV:=match n with
 |1=>.clo (1000000+98) [.ptr 43 0]
 |3=>.clo (1000000+99) [.ptr 43 0]
 |_=>.clo 97 [.ptr 2 0,.ptr 3 0]
def levK (n:Nat):Int:=match n with|0=>1|1=>1|_=>3
def levW (n:Nat):List PV:=match n with|0=>[.str [79,82]]|1=>[.str [65,78,68]]|2=>[.str [43],.str [45]]|_=>[.str [42],.str [47],.str [37]]
def frCh (n:Nat)(e:XR)(s:PS):St:=frameB 43 44 [(2,(.ptr 2 0,0)),(3,(.ptr 3 0,0)),(4,(.ptr 4 0,0)),(5,(chClo n,0)),(6,(.ptr 6 0,0)),(7,(.ptr 7 0,0))]
 [(2,[(.ptr 43 0,0)]),(3,[(.int .i64 n,0)]),(4,XR.zero.cells.map fun x=>(x,0)),(6,[(.int .i64 (levK n),0),(.sl (some false) 1 (levW n).length (levW n),0)]),(7,e.cells.map fun x=>(x,0)),(43,s.box.map fun x=>(x,0))]
section
variable {R:Type}
noncomputable def chKr (fc:PS→Int→Option (XR×PS))(fn ff:PS→Option (XR×PS))(fi:PS→Int→Nat→List PV→Option (Bool×PS))(ft:PS→Option (TR×PS))(K:List (List PV)→PV→Option R)(st:St):Option R:=pfinH (enCh fc fn ff fi ft) 1 fCh st fun bs _ v=>K bs v
noncomputable def chL (fc:PS→Int→Option (XR×PS))(fn ff:PS→Option (XR×PS))(fi:PS→Int→Nat→List PV→Option (Bool×PS))(ft:PS→Option (TR×PS))(fu:Nat)(K:List (List PV)→PV→Option R)(m:Nat)(st:St):Option R :=
 loopK (enCh fc fn ff fi ft) hCh fu (chKr fc fn ff fi ft K) fCh (fun _=>none) [1,1,1,1,1,0,0] 1 m st
theorem ch_raw0 (fc:PS→Int→Option (XR×PS))(fn ff:PS→Option (XR×PS))(fi:PS→Int→Nat→List PV→Option (Bool×PS))(ft:PS→Option (TR×PS))(fu:Nat)(s:PS)(K:List (List PV)→PV→Option R) :
  prunH (enCh fc fn ff fi ft) hCh fu fCh [s.box] [.ptr 0 0,.int .i64 0] K=(fc s (IntKind.i64.wrap (0+1))).bind fun e=>chL fc fn ff fi ft fu K fu (frCh 0 e.1 e.2):=prunHN_eq.trans (by kernel_rfl)
theorem ch_raw1 (fc:PS→Int→Option (XR×PS))(fn ff:PS→Option (XR×PS))(fi:PS→Int→Nat→List PV→Option (Bool×PS))(ft:PS→Option (TR×PS))(fu:Nat)(s:PS)(K:List (List PV)→PV→Option R) :
  prunH (enCh fc fn ff fi ft) hCh fu fCh [s.box] [.ptr 0 0,.int .i64 1] K=(fn s).bind fun e=>chL fc fn ff fi ft fu K fu (frCh 1 e.1 e.2):=prunHN_eq.trans (by kernel_rfl)
theorem ch_raw2 (fc:PS→Int→Option (XR×PS))(fn ff:PS→Option (XR×PS))(fi:PS→Int→Nat→List PV→Option (Bool×PS))(ft:PS→Option (TR×PS))(fu:Nat)(s:PS)(K:List (List PV)→PV→Option R) :
  prunH (enCh fc fn ff fi ft) hCh fu fCh [s.box] [.ptr 0 0,.int .i64 2] K=(fc s (IntKind.i64.wrap (2+1))).bind fun e=>chL fc fn ff fi ft fu K fu (frCh 2 e.1 e.2):=prunHN_eq.trans (by kernel_rfl)
theorem ch_raw3 (fc:PS→Int→Option (XR×PS))(fn ff:PS→Option (XR×PS))(fi:PS→Int→Nat→List PV→Option (Bool×PS))(ft:PS→Option (TR×PS))(fu:Nat)(s:PS)(K:List (List PV)→PV→Option R) :
  prunH (enCh fc fn ff fi ft) hCh fu fCh [s.box] [.ptr 0 0,.int .i64 3] K=(ff s).bind fun e=>chL fc fn ff fi ft fu K fu (frCh 3 e.1 e.2):=prunHN_eq.trans (by kernel_rfl)
theorem ch_step0 (fc:PS→Int→Option (XR×PS))(fn ff:PS→Option (XR×PS))(fi:PS→Int→Nat→List PV→Option (Bool×PS))(ft:PS→Option (TR×PS))(fu:Nat)(e:XR)(s:PS)(K:List (List PV)→PV→Option R)(G:St→Option R) :
  stepK (enCh fc fn ff fi ft) hCh fu (chKr fc fn ff fi ft K) fCh [1,1,1,1,1,0,0] (fun _=>none) (frCh 0 e s) (fun st=>pnorm (hCh.loop.lookup 1) st G) =
   (fi s (levK 0) (levW 0).length (levW 0)).bind fun r=>bif r.1 then (ft r.2).bind fun t=>(fc t.2 (IntKind.i64.wrap (0+1))).bind fun y=>G (frCh 0 (binX t.1.a t.1.t e y.1) y.2) else K [r.2.box] (.agg e.cells):=by kernel_rfl
theorem ch_step1 (fc:PS→Int→Option (XR×PS))(fn ff:PS→Option (XR×PS))(fi:PS→Int→Nat→List PV→Option (Bool×PS))(ft:PS→Option (TR×PS))(fu:Nat)(e:XR)(s:PS)(K:List (List PV)→PV→Option R)(G:St→Option R) :
  stepK (enCh fc fn ff fi ft) hCh fu (chKr fc fn ff fi ft K) fCh [1,1,1,1,1,0,0] (fun _=>none) (frCh 1 e s) (fun st=>pnorm (hCh.loop.lookup 1) st G) =
   (fi s (levK 1) (levW 1).length (levW 1)).bind fun r=>bif r.1 then (ft r.2).bind fun t=>(fn t.2).bind fun y=>G (frCh 1 (binX t.1.a t.1.t e y.1) y.2) else K [r.2.box] (.agg e.cells):=by kernel_rfl
theorem ch_step2 (fc:PS→Int→Option (XR×PS))(fn ff:PS→Option (XR×PS))(fi:PS→Int→Nat→List PV→Option (Bool×PS))(ft:PS→Option (TR×PS))(fu:Nat)(e:XR)(s:PS)(K:List (List PV)→PV→Option R)(G:St→Option R) :
  stepK (enCh fc fn ff fi ft) hCh fu (chKr fc fn ff fi ft K) fCh [1,1,1,1,1,0,0] (fun _=>none) (frCh 2 e s) (fun st=>pnorm (hCh.loop.lookup 1) st G) =
   (fi s (levK 2) (levW 2).length (levW 2)).bind fun r=>bif r.1 then (ft r.2).bind fun t=>(fc t.2 (IntKind.i64.wrap (2+1))).bind fun y=>G (frCh 2 (binX t.1.a t.1.t e y.1) y.2) else K [r.2.box] (.agg e.cells):=by kernel_rfl
theorem ch_step3 (fc:PS→Int→Option (XR×PS))(fn ff:PS→Option (XR×PS))(fi:PS→Int→Nat→List PV→Option (Bool×PS))(ft:PS→Option (TR×PS))(fu:Nat)(e:XR)(s:PS)(K:List (List PV)→PV→Option R)(G:St→Option R) :
  stepK (enCh fc fn ff fi ft) hCh fu (chKr fc fn ff fi ft K) fCh [1,1,1,1,1,0,0] (fun _=>none) (frCh 3 e s) (fun st=>pnorm (hCh.loop.lookup 1) st G) =
   (fi s (levK 3) (levW 3).length (levW 3)).bind fun r=>bif r.1 then (ft r.2).bind fun t=>(ff t.2).bind fun y=>G (frCh 3 (binX t.1.a t.1.t e y.1) y.2) else K [r.2.box] (.agg e.cells):=by kernel_rfl
end
noncomputable def fWa:Func:=Tryz.f118
def hWa:Hints:=⟨[],[(0,⟨[(0,false),(7,false),(8,false),(9,false)],[20]⟩)]⟩
noncomputable def enWa (ff:List UInt8→Option (Option Bool×Nat×List PV))(fs:PS→List UInt8→Option (Bool×PS))(fa:PS→Option PS):Env:=enH [(198,tWs ff)] [(64,tSBw fs),(52,tSU fa)] []
def frWa (nl:Option Bool)(n:Nat)(ws:List PV)(L i:Int)(s:PS):St:=frameB 20 21 [(0,(.ptr 20 0,0)),(7,(.sl nl 1 n ws,0)),(8,(.int .i64 L,0)),(9,(.int .i64 i,0))] [(20,s.box.map fun x=>(x,0))]
section
variable {R:Type}
noncomputable def waKr (ff:List UInt8→Option (Option Bool×Nat×List PV))(fs:PS→List UInt8→Option (Bool×PS))(fa:PS→Option PS)(K:List (List PV)→PV→Option R)(st:St):Option R:=pfinH (enWa ff fs fa) 1 fWa st fun bs _ v=>K bs v
noncomputable def waL (ff:List UInt8→Option (Option Bool×Nat×List PV))(fs:PS→List UInt8→Option (Bool×PS))(fa:PS→Option PS)(fu:Nat)(K:List (List PV)→PV→Option R)(m:Nat)(st:St):Option R :=
 loopK (enWa ff fs fa) hWa fu (waKr ff fs fa K) fWa (fun _=>none) [1,0] 0 m st
theorem wa_raw (ff:List UInt8→Option (Option Bool×Nat×List PV))(fs:PS→List UInt8→Option (Bool×PS))(fa:PS→Option PS)(fu:Nat)(s:PS)(w:List UInt8)(K:List (List PV)→PV→Option R) :
  prunH (enWa ff fs fa) hWa fu fWa [s.box] [.ptr 0 0,.str w] K=(ff w).bind fun r=>waL ff fs fa fu K fu (frWa r.1 r.2.1 r.2.2 (r.2.1:Int) 0 s):=prunHN_eq.trans (by kernel_rfl)
theorem wa_step (ff:List UInt8→Option (Option Bool×Nat×List PV))(fs:PS→List UInt8→Option (Bool×PS))(fa:PS→Option PS)(fu:Nat)(nl:Option Bool)(n:Nat)(ws:List PV)(L i:Int)(s:PS)(K:List (List PV)→PV→Option R)(G:St→Option R) :
  stepK (enWa ff fs fa) hWa fu (waKr ff fs fa K) fWa [1,0] (fun _=>none) (frWa nl n ws L i s) (fun st=>pnorm (hWa.loop.lookup 0) st G) =
   bif decide (i<L) then chk (decide (0≤i)&&decide (i<(n:Int))) (((ws.drop (i.toNat * 1)).take 1).head?.bind fun x=>x.asStr.bind fun w=>(fs s w).bind fun r=>bif !r.1 then (fa r.2).bind fun s=>G (frWa nl n ws L (IntKind.i64.wrap (i+1)) s) else G (frWa nl n ws L (IntKind.i64.wrap (i+1)) r.2)) else K [s.box] (.tuple []):=by kernel_rfl
structure LX where
 nl:Option Bool
 n:Nat
 cs:List PV
 a:Int
 e:Int
def tLx (f:List UInt8→Option LX):PFn:=⟨fun xs k=>match xs with|[.str s]=>(f s).bind fun r=>k (.tuple [.sl r.nl 7 r.n r.cs,.int .i64 r.a,.int .i64 r.e])|_=>none,false⟩
def tXB (f:XR→Option Bool):PFn:=⟨fun xs k=>match xs with|[.agg [.int .i64 k1,.int .i64 a,.str op,.int .i64 vk,.int .i64 vn,.int .i64 vc,.str vs,.str tb,.str nm,.bool nt,.int .i64 tk,.int .i64 ts,.sl knl z kn kc]]=>if z=13 then (f ⟨k1,a,op,vk,vn,vc,vs,tb,nm,nt,tk,ts,knl,kn,kc⟩).bind fun b=>k (.bool b) else none|_=>none,false⟩
def rdEnd (e:XR)(s:PS):Option PV:=bif decide ((0:Int)≤s.b) then some (.tuple [.agg XR.zero.cells,.int .i64 s.b,.int .i64 170]) else some (.tuple [.agg e.cells,.int .i64 0,.int .i64 0])
def rdTail (fr:XR→Option Bool)(e:XR)(s:PS):Option PV:=bif decide (s.b<0) then (fr e).bind fun ok=>bif !ok then rdEnd e ⟨s.nl,s.n,s.cs,s.e,s.o,0⟩ else rdEnd e s else rdEnd e s
theorem read_raw (fl:List UInt8→Option LX)(fe:PS→Option (XR×PS))(ff:PS→Option PS)(fr:XR→Option Bool)(fu:Nat)(w:List UInt8) :
  prun (enH [(51,tLx fl),(23,tXB fr)] [(22,tSX fe),(52,tSU ff)] []) hh0 fu false Tryz.f21 [.str w,.clo 22 [],.clo 23 []] =
   (fl w).bind fun l=>bif l.e != 0 then some (.tuple [.agg XR.zero.cells,.int .i64 l.a,.int .i64 l.e]) else (fe ⟨l.nl,l.n,l.cs,(w.length:Int),0,-1⟩).bind fun e=>bif decide ((0:Int)<(e.2.n:Int)) then (ff e.2).bind fun s=>rdTail fr e.1 s else rdTail fr e.1 e.2:=by kernel_rfl
end
structure RS where
 nl:Option Bool
 n:Nat
 cs:List PV
 i:Int
 e:Int
 o:Int
 b:Int
def RS.box (s:RS):List PV:=[.sl s.nl 7 s.n s.cs,.int .i64 s.i,.int .i64 s.e,.int .i64 s.o,.int .i64 s.b]
def RS.next (s:RS):RS:=⟨s.nl,s.n,s.cs,IntKind.i64.wrap (s.i+1),s.e,s.o,s.b⟩
def RS.open (s:RS):RS:=⟨s.nl,s.n,s.cs,s.i,s.e,IntKind.i64.wrap (s.o+1),s.b⟩
def RS.shut (s:RS):RS:=⟨s.nl,s.n,s.cs,s.i,s.e,IntKind.i64.wrap (s.o-1),s.b⟩
def onRS {R:Type}(bs:List (List PV))(k:RS→Option R):Option R :=
 match bs with
 |[[.sl nl z n cs,.int .i64 i,.int .i64 e,.int .i64 o,.int .i64 b]]=>if z=7 then k ⟨nl,n,cs,i,e,o,b⟩ else none
 |_=>none
def tRI (f:RS→Option (Int×RS)):HFn:=⟨fun bs xs k=>match xs with
 |[.ptr 0 0]=>onRS bs fun s=>(f s).bind fun r=>k [r.2.box] (.int .i64 r.1)
 |_=>none⟩
def tRU (f:RS→Option RS):HFn:=⟨fun bs xs k=>match xs with
 |[.ptr 0 0]=>onRS bs fun s=>(f s).bind fun r=>k [r.box] (.tuple [])
 |_=>none⟩
def tRUi (f:RS→Int→Option RS):HFn:=⟨fun bs xs k=>match xs with
 |[.ptr 0 0,.int .i64 a]=>onRS bs fun s=>(f s a).bind fun r=>k [r.box] (.tuple [])
 |_=>none⟩
def tRUl (f:RS→Nat→List PV→Option RS):HFn:=⟨fun bs xs k=>match xs with
 |[.ptr 0 0,.sl _ z n ws]=>if z=1 then onRS bs fun s=>(f s n ws).bind fun r=>k [r.box] (.tuple []) else none
 |_=>none⟩
def tRB (f:RS→Option (Bool×RS)):HFn:=⟨fun bs xs k=>match xs with
 |[.ptr 0 0]=>onRS bs fun s=>(f s).bind fun r=>k [r.2.box] (.bool r.1)
 |_=>none⟩
def tRBw (f:RS→List UInt8→Option (Bool×RS)):HFn:=⟨fun bs xs k=>match xs with
 |[.ptr 0 0,.str w]=>onRS bs fun s=>(f s w).bind fun r=>k [r.2.box] (.bool r.1)
 |_=>none⟩
def tRS (f:RS→Option (List UInt8×RS)):HFn:=⟨fun bs xs k=>match xs with
 |[.ptr 0 0]=>onRS bs fun s=>(f s).bind fun r=>k [r.2.box] (.str r.1)
 |_=>none⟩
def tRIi (f:RS→Int→Option (Int×RS)):HFn:=⟨fun bs xs k=>match xs with
 |[.ptr 0 0,.int .i64 a]=>onRS bs fun s=>(f s a).bind fun r=>k [r.2.box] (.int .i64 r.1)
 |_=>none⟩
def tRY (f:RS→Option ((Int×Int)×RS)):HFn:=⟨fun bs xs k=>match xs with
 |[.ptr 0 0]=>onRS bs fun s=>(f s).bind fun r=>k [r.2.box] (.agg [.int .i64 r.1.1,.int .i64 r.1.2])
 |_=>none⟩
def tRL (f:RS→Option (VR×RS)):HFn:=⟨fun bs xs k=>match xs with
 |[.ptr 0 0]=>onRS bs fun s=>(f s).bind fun r=>k [r.2.box] (.tuple [.agg [.int .i64 r.1.vk,.int .i64 r.1.vn,.int .i64 r.1.vc,.str r.1.vs],.bool r.1.ok])
 |_=>none⟩
def tRX (f:RS→Option (XR×RS)):HFn:=⟨fun bs xs k=>match xs with
 |[.ptr 0 0]=>onRS bs fun s=>(f s).bind fun r=>k [r.2.box] (.agg r.1.cells)
 |_=>none⟩
def tRXi (f:RS→Int→Option (XR×RS)):HFn:=⟨fun bs xs k=>match xs with
 |[.ptr 0 0,.int .i64 a]=>onRS bs fun s=>(f s a).bind fun r=>k [r.2.box] (.agg r.1.cells)
 |_=>none⟩
def onXR {R:Type}(x:PV)(k:XR→Option R):Option R:=match x with
 | .agg [.int .i64 k1,.int .i64 a,.str op,.int .i64 vk,.int .i64 vn,.int .i64 vc,.str vs,.str tb,.str nm,.bool nt,.int .i64 tk,.int .i64 ts,.sl knl z kn kc]=>if z=13 then k ⟨k1,a,op,vk,vn,vc,vs,tb,nm,nt,tk,ts,knl,kn,kc⟩ else none
 |_=>none
def tRXr (f:RS→XR→Int→Int→Option (XR×RS)):HFn:=⟨fun bs xs k=>match xs with
 |[.ptr 0 0,x,.int .i64 l,.int .i64 h]=>onRS bs fun s=>onXR x fun e=>(f s e l h).bind fun r=>k [r.2.box] (.agg r.1.cells)
 |_=>none⟩
def tkI {S:Type}(cs:List PV)(i:Int)(k:Nat)(kk:Int→Option S):Option S:=(((cs.drop (i.toNat * 7)).take 7).drop k).head?.bind fun x=>(x.asInt .i64).bind kk
def tkS {S:Type}(cs:List PV)(i:Int)(k:Nat)(kk:List UInt8→Option S):Option S:=(((cs.drop (i.toNat * 7)).take 7).drop k).head?.bind fun x=>x.asStr.bind kk
def tkJ {S:Type}(cs:List PV)(i:Int)(k:Nat)(kk:Int→Option S):Option S:=((((cs.drop (i.toNat * 7)).take 7).drop 3).drop k).head?.bind fun x=>(x.asInt .i64).bind kk
def tkV {S:Type}(cs:List PV)(i:Int)(kk:Int→Int→Int→List UInt8→Option S):Option S :=
 (((cs.drop (i.toNat * 7)).take 7).drop 3).head?.bind fun x=>(x.asInt .i64).bind fun vk=>(((cs.drop (i.toNat * 7)).take 7).drop 3).tail.head?.bind fun x=>(x.asInt .i64).bind fun vn=>(((cs.drop (i.toNat * 7)).take 7).drop 3).tail.tail.head?.bind fun x=>(x.asInt .i64).bind fun vc=>(((cs.drop (i.toNat * 7)).take 7).drop 3).tail.tail.tail.head?.bind fun x=>x.asStr.bind fun vs=>kk vk vn vc vs
def RS.inB (s:RS):Bool:=decide (0≤s.i)&&decide (s.i<(s.n:Int))
def liveK {S:Type}(s:RS)(x a:Option S):Option S:=bif decide (s.b<0) then (bif decide (s.i<(s.n:Int)) then x else a) else a
section
variable {R:Type}
theorem rat_raw (fu:Nat)(s:RS)(K:List (List PV)→PV→Option R):prunH (enH [] [] []) hh0 fu Tryz.f26 [s.box] [.ptr 0 0] K =
  bif decide (s.i<(s.n:Int)) then chk s.inB (tkI s.cs s.i 1 fun a=>K [s.box] (.int .i64 a)) else K [s.box] (.int .i64 s.e):=by kernel_rfl
theorem rfault_raw (fu:Nat)(s:RS)(a:Int)(K:List (List PV)→PV→Option R):prunH (enH [] [] []) hh0 fu Tryz.f109 [s.box] [.ptr 0 0,.int .i64 a] K =
  bif decide (s.b<0) then K [(⟨s.nl,s.n,s.cs,s.i,s.e,s.o,a⟩:RS).box] (.tuple []) else K [s.box] (.tuple []):=by kernel_rfl
theorem rsees_raw (fu:Nat)(s:RS)(w:List UInt8)(K:List (List PV)→PV→Option R):prunH (enH [] [] []) hh0 fu Tryz.f59 [s.box] [.ptr 0 0,.str w] K =
  liveK s (chk s.inB (tkI s.cs s.i 0 fun k=>bif !(k==1) then chk s.inB (tkI s.cs s.i 0 fun k=>bif k==3 then chk s.inB (tkS s.cs s.i 2 fun t=>K [s.box] (.bool (t==w))) else K [s.box] (.bool false)) else chk s.inB (tkS s.cs s.i 2 fun t=>K [s.box] (.bool (t==w))))) (K [s.box] (.bool false)):=by kernel_rfl
theorem reats_raw (fs:RS→List UInt8→Option (Bool×RS))(fu:Nat)(s:RS)(w:List UInt8)(K:List (List PV)→PV→Option R):prunH (enH [] [(59,tRBw fs)] []) hh0 fu Tryz.f110 [s.box] [.ptr 0 0,.str w] K =
  (fs s w).bind fun r=>bif r.1 then K [r.2.next.box] (.bool true) else K [r.2.box] (.bool false):=by kernel_rfl
theorem rname_raw (fa:RS→Option (Int×RS))(ff:RS→Int→Option RS)(fu:Nat)(s:RS)(K:List (List PV)→PV→Option R):prunH (enH [] [(26,tRI fa),(109,tRUi ff)] []) hh0 fu Tryz.f195 [s.box] [.ptr 0 0] K =
  liveK s (chk s.inB (tkI s.cs s.i 0 fun k=>bif k==0 then chk (decide (0≤IntKind.i64.wrap (IntKind.i64.wrap (s.i+1)-1))&&decide (IntKind.i64.wrap (IntKind.i64.wrap (s.i+1)-1)<(s.n:Int))) (tkS s.cs (IntKind.i64.wrap (IntKind.i64.wrap (s.i+1)-1)) 2 fun t=>K [s.next.box] (.str t)) else (fa s).bind fun a=>(ff a.2 a.1).bind fun s=>K [s.box] (.str []))) ((fa s).bind fun a=>(ff a.2 a.1).bind fun s=>K [s.box] (.str [])):=by kernel_rfl
theorem rnum_raw (fa:RS→Option (Int×RS))(ff:RS→Int→Option RS)(fu:Nat)(s:RS)(m:Int)(K:List (List PV)→PV→Option R):prunH (enH [] [(26,tRI fa),(109,tRUi ff)] []) hh0 fu Tryz.f232 [s.box] [.ptr 0 0,.int .i64 m] K =
  liveK s (chk s.inB (tkI s.cs s.i 0 fun k=>bif k==2 then chk s.inB (tkI s.cs s.i 3 fun vk=>bif vk==2 then chk s.inB (tkJ s.cs s.i 1 fun vn=>bif decide (vn≤m) then chk (decide (0≤IntKind.i64.wrap (IntKind.i64.wrap (s.i+1)-1))&&decide (IntKind.i64.wrap (IntKind.i64.wrap (s.i+1)-1)<(s.n:Int))) (tkJ s.cs (IntKind.i64.wrap (IntKind.i64.wrap (s.i+1)-1)) 1 fun t=>K [s.next.box] (.int .i64 t)) else (fa s).bind fun a=>(ff a.2 a.1).bind fun s=>K [s.box] (.int .i64 0)) else (fa s).bind fun a=>(ff a.2 a.1).bind fun s=>K [s.box] (.int .i64 0)) else (fa s).bind fun a=>(ff a.2 a.1).bind fun s=>K [s.box] (.int .i64 0))) ((fa s).bind fun a=>(ff a.2 a.1).bind fun s=>K [s.box] (.int .i64 0)):=by kernel_rfl
theorem rdeep_raw (fa:RS→Option (Int×RS))(ff:RS→Int→Option RS)(fu:Nat)(s:RS)(K:List (List PV)→PV→Option R):prunH (enH [] [(26,tRI fa),(109,tRUi ff)] []) hh0 fu Tryz.f60 [s.box] [.ptr 0 0] K =
  bif s.o==20 then (fa s).bind fun a=>(ff a.2 a.1).bind fun s=>K [s.box] (.bool false) else K [s.open.box] (.bool (decide (s.b<0))):=by kernel_rfl
def orK {S:Type}(w:List UInt8)(a b:S):List (List UInt8)→S
 |[]=>b
 |[x]=>bif w==x then a else b
 |x::xs=>bif w==x then (bif w==x then a else b) else orK w a b xs
theorem power_raw (fu:Nat)(w:List UInt8):prun (en []) hh0 fu false Tryz.f112 [.str w] =
  bif w==[79,82] then some (.int .i64 0) else bif w==[65,78,68] then some (.int .i64 1) else orK w (some (.int .i64 3)) (orK w (some (.int .i64 4)) (orK w (some (.int .i64 5)) (some (.int .i64 (-1))) [[42],[47],[37]]) [[43],[45]]) [[61],[60,62],[60],[60,61],[62],[62,61]]:=by kernel_rfl
end
def atFault {S:Type}(fa:RS→Option (Int×RS))(ff:RS→Int→Option RS)(s:RS)(K:RS→Option S):Option S:=(fa s).bind fun a=>(ff a.2 a.1).bind K
noncomputable def fMu:Func:=Tryz.f111
def hMu:Hints:=⟨[],[(0,⟨[(0,false),(6,false),(7,false),(8,false)],[21]⟩)]⟩
noncomputable def enMu (fe:RS→List UInt8→Option (Bool×RS))(fa:RS→Option (Int×RS))(ff:RS→Int→Option RS):Env:=enH [] [(110,tRBw fe),(26,tRI fa),(109,tRUi ff)] []
def frMu (nl:Option Bool)(n:Nat)(ws:List PV)(L i:Int)(s:RS):St:=frameB 21 22 [(0,(.ptr 21 0,0)),(6,(.sl nl 1 n ws,0)),(7,(.int .i64 L,0)),(8,(.int .i64 i,0))] [(21,s.box.map fun x=>(x,0))]
section
variable {R:Type}
noncomputable def muKr (fe:RS→List UInt8→Option (Bool×RS))(fa:RS→Option (Int×RS))(ff:RS→Int→Option RS)(K:List (List PV)→PV→Option R)(st:St):Option R:=pfinH (enMu fe fa ff) 1 fMu st fun bs _ v=>K bs v
noncomputable def muL (fe:RS→List UInt8→Option (Bool×RS))(fa:RS→Option (Int×RS))(ff:RS→Int→Option RS)(fu:Nat)(K:List (List PV)→PV→Option R)(m:Nat)(st:St):Option R :=
 loopK (enMu fe fa ff) hMu fu (muKr fe fa ff K) fMu (fun _=>none) [1,0] 0 m st
theorem mu_raw (fe:RS→List UInt8→Option (Bool×RS))(fa:RS→Option (Int×RS))(ff:RS→Int→Option RS)(fu:Nat)(s:RS)(nl:Option Bool)(n:Nat)(ws:List PV)(K:List (List PV)→PV→Option R) :
  prunH (enMu fe fa ff) hMu fu fMu [s.box] [.ptr 0 0,.sl nl 1 n ws] K=muL fe fa ff fu K fu (frMu nl n ws (n:Int) 0 s):=prunHN_eq.trans (by kernel_rfl)
theorem mu_step (fe:RS→List UInt8→Option (Bool×RS))(fa:RS→Option (Int×RS))(ff:RS→Int→Option RS)(fu:Nat)(nl:Option Bool)(n:Nat)(ws:List PV)(L i:Int)(s:RS)(K:List (List PV)→PV→Option R)(G:St→Option R) :
  stepK (enMu fe fa ff) hMu fu (muKr fe fa ff K) fMu [1,0] (fun _=>none) (frMu nl n ws L i s) (fun st=>pnorm (hMu.loop.lookup 0) st G) =
   bif decide (i<L) then chk (decide (0≤i)&&decide (i<(n:Int))) (((ws.drop (i.toNat * 1)).take 1).head?.bind fun x=>x.asStr.bind fun w=>(fe s w).bind fun r=>bif !r.1 then atFault fa ff r.2 fun s=>G (frMu nl n ws L (IntKind.i64.wrap (i+1)) s) else G (frMu nl n ws L (IntKind.i64.wrap (i+1)) r.2)) else K [s.box] (.tuple []):=by kernel_rfl
theorem rlit_raw (fa:RS→Option (Int×RS))(fe:RS→List UInt8→Option (Bool×RS))(fu:Nat)(s:RS)(K:List (List PV)→PV→Option R):prunH (enH [] [(110,tRBw fe)] []) hh0 fu Tryz.f194 [s.box] [.ptr 0 0] K =
  (let A:Option R:=(fe s [78,85,76,76]).bind fun r=>bif r.1 then K [r.2.box] (.tuple [.agg [.int .i64 0,.int .i64 0,.int .i64 0,.str []],.bool true]) else (fe r.2 [84,82,85,69]).bind fun r=>bif r.1 then K [r.2.box] (.tuple [.agg [.int .i64 1,.int .i64 1,.int .i64 0,.str []],.bool true]) else (fe r.2 [70,65,76,83,69]).bind fun r=>bif r.1 then K [r.2.box] (.tuple [.agg [.int .i64 1,.int .i64 0,.int .i64 0,.str []],.bool true]) else K [r.2.box] (.tuple [.agg [.int .i64 0,.int .i64 0,.int .i64 0,.str []],.bool false])
  liveK s (chk s.inB (tkI s.cs s.i 0 fun k=>bif k==2 then chk (decide (0≤IntKind.i64.wrap (IntKind.i64.wrap (s.i+1)-1))&&decide (IntKind.i64.wrap (IntKind.i64.wrap (s.i+1)-1)<(s.n:Int))) (tkV s.cs (IntKind.i64.wrap (IntKind.i64.wrap (s.i+1)-1)) fun vk vn vc vs=>K [s.next.box] (.tuple [.agg [.int .i64 vk,.int .i64 vn,.int .i64 vc,.str vs],.bool true])) else A)) A):=by kernel_rfl
theorem ropen_raw (fs:RS→List UInt8→Option (Bool×RS))(fa:RS→Option (Int×RS))(ff:RS→Int→Option RS)(fd:RS→Option (Bool×RS))(fu:Nat)(s:RS)(K:List (List PV)→PV→Option R):prunH (enH [] [(59,tRBw fs),(26,tRI fa),(109,tRUi ff),(60,tRB fd)] []) hh0 fu Tryz.f191 [s.box] [.ptr 0 0] K =
  (fs s [40]).bind fun r=>bif !r.1 then atFault fa ff r.2 fun s=>K [s.box] (.bool false) else (fd r.2).bind fun d=>bif !d.1 then K [d.2.box] (.bool false) else K [d.2.next.box] (.bool true):=by kernel_rfl
theorem rshut_raw (fm:RS→Nat→List PV→Option RS)(fu:Nat)(s:RS)(K:List (List PV)→PV→Option R):prunH (enH [] [(111,tRUl fm)] []) hh0 fu Tryz.f192 [s.box] [.ptr 0 0] K =
  (fm s 1 [.str [41]]).bind fun s=>K [s.shut.box] (.tuple []):=by kernel_rfl
def tyK {S:Type}(fm:RS→Nat→List PV→Option RS)(fn:RS→Int→Option (Int×RS))(k:Int)(s:RS)(K:RS→Int→Int→Option S):Option S :=
 bif k==2 then (fm s 1 [.str [40]]).bind fun s=>(fn s 6).bind fun m=>(fm m.2 1 [.str [41]]).bind fun s=>K s (IntKind.i64.wrap (k+1)) m.1 else K s (IntKind.i64.wrap (k+1)) 0
theorem rtyped_raw (fe:RS→List UInt8→Option (Bool×RS))(fa:RS→Option (Int×RS))(ff:RS→Int→Option RS)(fm:RS→Nat→List PV→Option RS)(fn:RS→Int→Option (Int×RS))(fu:Nat)(s:RS)(K:List (List PV)→PV→Option R) :
  prunH (enH [] [(110,tRBw fe),(26,tRI fa),(109,tRUi ff),(111,tRUl fm),(232,tRIi fn)] []) hh0 (fu+7) Tryz.f193 [s.box] [.ptr 0 0] K =
  (fe s [66,79,79,76]).bind fun r=>bif !r.1 then (fe r.2 [73,78,84]).bind fun r=>bif !r.1 then (fe r.2 [68,69,67,73,77,65,76]).bind fun r=>bif !r.1 then (fe r.2 [84,69,88,84]).bind fun r=>bif !r.1 then (fe r.2 [66,89,84,69,83]).bind fun r=>bif !r.1 then atFault fa ff r.2 fun s=>K [s.box] (.agg [.int .i64 0,.int .i64 0])
   else tyK fm fn 4 r.2 fun s a b=>K [s.box] (.agg [.int .i64 a,.int .i64 b]) else tyK fm fn 3 r.2 fun s a b=>K [s.box] (.agg [.int .i64 a,.int .i64 b]) else tyK fm fn 2 r.2 fun s a b=>K [s.box] (.agg [.int .i64 a,.int .i64 b]) else tyK fm fn 1 r.2 fun s a b=>K [s.box] (.agg [.int .i64 a,.int .i64 b]) else tyK fm fn 0 r.2 fun s a b=>K [s.box] (.agg [.int .i64 a,.int .i64 b]):=by kernel_rfl
theorem rfact_raw (fa:RS→Option (Int×RS))(fs:RS→List UInt8→Option (Bool×RS))(fat fn:RS→Option (XR×RS))(fd:RS→Option (Bool×RS))(fu:Nat)(s:RS)(K:List (List PV)→PV→Option R) :
  prunH (enH [] [(26,tRI fa),(59,tRBw fs),(113,tRX fat),(60,tRB fd),(62,tRX fn)] []) hh0 fu Tryz.f62 [s.box] [.ptr 0 0] K =
  (fa s).bind fun a=>(fs a.2 [45]).bind fun r=>bif !r.1 then (fat r.2).bind fun e=>K [e.2.box] (.agg e.1.cells) else (fd r.2).bind fun d=>bif !d.1 then K [d.2.box] (.agg XR.zero.cells) else (fn d.2.next).bind fun e=>K [e.2.shut.box] (.agg (unX a.1 [45] e.1).cells):=by kernel_rfl
theorem rexpr_raw (fa:RS→Option (Int×RS))(fs:RS→List UInt8→Option (Bool×RS))(fd:RS→Option (Bool×RS))(fe:RS→Int→Option (XR×RS))(fr:RS→XR→Int→Int→Option (XR×RS))(ff:RS→Option (XR×RS))(fu:Nat)(s:RS)(l:Int)(K:List (List PV)→PV→Option R) :
  prunH (enH [] [(26,tRI fa),(59,tRBw fs),(60,tRB fd),(25,tRXi fe),(61,tRXr fr),(62,tRX ff)] []) hh0 fu Tryz.f25 [s.box] [.ptr 0 0,.int .i64 l] K =
  (fa s).bind fun a=>(let B:RS→Option R:=fun s=>(ff s).bind fun e=>(fr e.2 e.1 l 6).bind fun e=>K [e.2.box] (.agg e.1.cells)
   bif decide (l≤2) then (fs a.2 [78,79,84]).bind fun r=>bif r.1 then (fd r.2).bind fun d=>bif !d.1 then K [d.2.box] (.agg XR.zero.cells) else (fe d.2.next 2).bind fun e=>(fr e.2.shut (unX a.1 [78,79,84] e.1) l 2).bind fun e=>K [e.2.box] (.agg e.1.cells) else B r.2 else B a.2):=by kernel_rfl
end
noncomputable def fRe:Func:=Tryz.f61
def hRe:Hints:=⟨[],[(0,⟨[(0,false),(2,false),(3,false),(5,false),(8,false)],[5,8,119]⟩)]⟩
structure FRe where
 fa:RS→Option (Int×RS)
 fs:RS→List UInt8→Option (Bool×RS)
 fe:RS→List UInt8→Option (Bool×RS)
 fm:RS→Nat→List PV→Option RS
 fp:List UInt8→Option Int
 fx:RS→Int→Option (XR×RS)
noncomputable def enRe (F:FRe):Env:=enH [(112,tWi F.fp)] [(26,tRI F.fa),(59,tRBw F.fs),(110,tRBw F.fe),(111,tRUl F.fm),(25,tRXi F.fx)] []
def frRe (e:XR)(l h:Int)(s:RS):St:=frameB 119 120 [(0,(.ptr 119 0,0)),(2,(.int .i64 l,0)),(3,(.int .i64 h,0)),(5,(.ptr 5 0,0)),(8,(.ptr 8 0,0))] [(5,e.cells.map fun x=>(x,0)),(8,XR.zero.cells.map fun x=>(x,0)),(119,s.box.map fun x=>(x,0))]
def tkT {S:Type}(cs:List PV)(i:Int)(kk:TR→Option S):Option S:=((cs.drop (i.toNat * 7)).take 7).head?.bind fun x=>(x.asInt .i64).bind fun k=>((cs.drop (i.toNat * 7)).take 7).tail.head?.bind fun x=>(x.asInt .i64).bind fun a=>((cs.drop (i.toNat * 7)).take 7).tail.tail.head?.bind fun x=>x.asStr.bind fun t=>((cs.drop (i.toNat * 7)).take 7).tail.tail.tail.head?.bind fun x=>(x.asInt .i64).bind fun vk=>((cs.drop (i.toNat * 7)).take 7).tail.tail.tail.tail.head?.bind fun x=>(x.asInt .i64).bind fun vn=>((cs.drop (i.toNat * 7)).take 7).tail.tail.tail.tail.tail.head?.bind fun x=>(x.asInt .i64).bind fun vc=>((cs.drop (i.toNat * 7)).take 7).tail.tail.tail.tail.tail.tail.head?.bind fun x=>x.asStr.bind fun vs=>kk ⟨k,a,t,vk,vn,vc,vs⟩
section
variable {R:Type}
noncomputable def reKr (F:FRe)(K:List (List PV)→PV→Option R)(st:St):Option R:=pfinH (enRe F) 1 fRe st fun bs _ v=>K bs v
noncomputable def reL (F:FRe)(fu:Nat)(K:List (List PV)→PV→Option R)(m:Nat)(st:St):Option R:=loopK (enRe F) hRe fu (reKr F K) fRe (fun _=>none) [1,0,0] 0 m st
theorem re_raw (F:FRe)(fu:Nat)(s:RS)(e:XR)(l h:Int)(K:List (List PV)→PV→Option R) :
  prunH (enRe F) hRe fu fRe [s.box] [.ptr 0 0,.agg e.cells,.int .i64 l,.int .i64 h] K=reL F fu K fu (frRe e l h s):=prunHN_eq.trans (by kernel_rfl)
theorem re_step (F:FRe)(fu:Nat)(s:RS)(e:XR)(l h:Int)(K:List (List PV)→PV→Option R)(G:St→Option R) :
  stepK (enRe F) hRe fu (reKr F K) fRe [1,0,0] (fun _=>none) (frRe e l h s) (fun st=>pnorm (hRe.loop.lookup 0) st G) =
   liveK s ((F.fa s).bind fun a=>(let N:RS→Option R:=fun s=>chk s.inB (tkT s.cs s.i fun t=>(F.fp t.t).bind fun p =>
    bif (bif (bif (bif (bif t.k != 1 then t.k != 3 else false) then true else decide (p<l)) then true else decide (h<p)) then true else (bif p==3 then h==3 else false)) then K [s.box] (.agg e.cells)
    else (F.fx s.next (IntKind.i64.wrap (p+1))).bind fun y=>G (frRe (binX a.1 t.t e y.1) l p y.2))
    bif (bif decide (l≤3) then decide (3<h) else false) then (F.fs a.2 [73,83]).bind fun r=>bif r.1 then (F.fe r.2.next [78,79,84]).bind fun n=>(F.fm n.2 1 [.str [78,85,76,76]]).bind fun s=>G (frRe (nullX a.1 n.1 e) l 3 s) else N r.2 else N a.2))
   (K [s.box] (.agg e.cells)):=by kernel_rfl
structure FAt where
 fa:RS→Option (Int×RS)
 fs:RS→List UInt8→Option (Bool×RS)
 fe:RS→List UInt8→Option (Bool×RS)
 fo:RS→Option (Bool×RS)
 fx:RS→Int→Option (XR×RS)
 fh:RS→Option RS
 fm:RS→Nat→List PV→Option RS
 fy:RS→Option ((Int×Int)×RS)
 fl:RS→Option (VR×RS)
 fn:RS→Option (List UInt8×RS)
noncomputable def enAt (F:FAt):Env:=enH [] [(26,tRI F.fa),(59,tRBw F.fs),(110,tRBw F.fe),(191,tRB F.fo),(25,tRXi F.fx),(192,tRU F.fh),(111,tRUl F.fm),(193,tRY F.fy),(194,tRL F.fl),(195,tRS F.fn)] []
def raCall {S:Type}(F:FAt)(a:Int)(w:List UInt8)(star:Bool)(s:RS)(K:XR→RS→Option S):Option S :=
  (F.fo s).bind fun o=>bif !o.1 then K (call0 a w) o.2 else
    (let B:RS→Option S:=fun s=>(F.fx s 0).bind fun e=>(F.fh e.2).bind fun s=>K (callX a w e.1) s
     bif star then (F.fe o.2 [42]).bind fun q=>bif !q.1 then B q.2 else (F.fh q.2).bind fun s=>K (call0 a w) s else B o.2)
theorem ratom_raw (F:FAt)(fu:Nat)(s:RS)(K:List (List PV)→PV→Option R) :
  prunH (enAt F) hh0 (fu+6) Tryz.f113 [s.box] [.ptr 0 0] K =
  (let KX:XR→RS→Option R:=fun e s=>K [s.box] (.agg e.cells)
  (F.fa s).bind fun a=>(F.fs a.2 [40]).bind fun r=>bif r.1 then (F.fo r.2).bind fun o=>bif !o.1 then KX XR.zero o.2 else (F.fx o.2 0).bind fun e=>(F.fh e.2).bind fun s=>KX e.1 s else
  (F.fe r.2 [67,65,83,84]).bind fun r=>bif r.1 then (F.fo r.2).bind fun o=>bif !o.1 then KX XR.zero o.2 else (F.fx o.2 0).bind fun e=>(F.fm e.2 1 [.str [65,83]]).bind fun s=>(F.fy s).bind fun y=>(F.fh y.2).bind fun s=>KX (castX a.1 y.1.1 y.1.2 e.1) s else
  (F.fe r.2 [67,79,85,78,84]).bind fun r=>bif !r.1 then (F.fe r.2 [83,85,77]).bind fun r=>bif !r.1 then (F.fe r.2 [77,73,78]).bind fun r=>bif !r.1 then (F.fe r.2 [77,65,88]).bind fun r=>bif !r.1 then
   (F.fl r.2).bind fun v=>bif v.1.ok then KX (litX a.1 v.1.vk v.1.vn v.1.vc v.1.vs) v.2 else (F.fn v.2).bind fun n=>(F.fe n.2 [46]).bind fun r=>bif r.1 then (F.fn r.2).bind fun m=>KX (colX a.1 n.1 m.1) m.2 else KX (colX a.1 [] n.1) r.2
   else raCall F a.1 [77,65,88] false r.2 KX else raCall F a.1 [77,73,78] false r.2 KX else raCall F a.1 [83,85,77] false r.2 KX else raCall F a.1 [67,79,85,78,84] true r.2 KX):=by kernel_rfl
structure LR where
 nl:Option Bool
 n:Nat
 cs:List PV
 a:Int
 ok:Bool
def tLr (f:List UInt8→Option LR):PFn:=⟨fun xs k=>match xs with|[.str s]=>(f s).bind fun r=>k (.tuple [.sl r.nl 7 r.n r.cs,.int .i64 r.a,.bool r.ok])|_=>none,false⟩
def tXiB (f:XR→Int→Option Bool):PFn:=⟨fun xs k=>match xs with|[x,.int .i64 d]=>onXR x fun e=>(f e d).bind fun b=>k (.bool b)|_=>none,false⟩
def rxEnd (e:XR)(b:Int):Option PV:=bif decide ((0:Int)≤b) then some (.tuple [.agg XR.zero.cells,.int .i64 b,.bool false]) else some (.tuple [.agg e.cells,.int .i64 0,.bool true])
def rxTail (fr:XR→Int→Option Bool)(e:XR)(b:Int):Option PV:=bif decide (b<0) then (fr e 0).bind fun ok=>bif !ok then rxEnd e 0 else rxEnd e b else rxEnd e b
theorem rexprT_raw (fl:List UInt8→Option LR)(fx:RS→Int→Option (XR×RS))(fa:RS→Option (Int×RS))(fr:XR→Int→Option Bool)(fu:Nat)(w:List UInt8) :
  prun (enH [(24,tLr fl),(20,tXiB fr)] [(25,tRXi fx),(26,tRI fa)] []) hh0 fu false Tryz.f10 [.str w] =
   (fl w).bind fun l=>bif !l.ok then some (.tuple [.agg XR.zero.cells,.int .i64 l.a,.bool false]) else (fx ⟨l.nl,l.n,l.cs,0,(w.length:Int),0,-1⟩ 0).bind fun e =>
    bif decide (e.2.b<0) then (bif decide (e.2.i<(l.n:Int)) then (fa e.2).bind fun a=>rxTail fr e.1 a.1 else rxTail fr e.1 e.2.b) else rxTail fr e.1 e.2.b:=by kernel_rfl
end
theorem onPS_bind {R S:Type}{bs:List (List PV)}{k:PS→Option R}{g:R→Option S}:(onPS bs k).bind g=onPS bs (fun s=>(k s).bind g):=by
 unfold onPS
 split
 ·split<;>rfl
 ·rfl
theorem onRS_bind {R S:Type}{bs:List (List PV)}{k:RS→Option R}{g:R→Option S}:(onRS bs k).bind g=onRS bs (fun s=>(k s).bind g):=by
 unfold onRS
 split
 ·split<;>rfl
 ·rfl
theorem onPS_inv {R:Type}{bs:List (List PV)}{k:PS→Option R}{r:R}(h:onPS bs k=some r):∃ s:PS,bs=[s.box]∧k s=some r:=by
 unfold onPS at h
 split at h
 ·obtain⟨rfl,h⟩:=ite_inv h
  exact⟨_,rfl,h⟩
 ·cases h
theorem onRS_inv {R:Type}{bs:List (List PV)}{k:RS→Option R}{r:R}(h:onRS bs k=some r):∃ s:RS,bs=[s.box]∧k s=some r:=by
 unfold onRS at h
 split at h
 ·obtain⟨rfl,h⟩:=ite_inv h
  exact⟨_,rfl,h⟩
 ·cases h
theorem onXR_inv {R:Type}{x:PV}{k:XR→Option R}{r:R}(h:onXR x k=some r):∃ e:XR,x=.agg e.cells∧k e=some r:=by
 unfold onXR at h
 split at h
 ·obtain⟨rfl,h⟩:=ite_inv h
  exact⟨_,rfl,h⟩
 ·cases h
theorem onXR_bind {R S:Type}{x:PV}{k:XR→Option R}{g:R→Option S}:(onXR x k).bind g=onXR x (fun s=>(k s).bind g):=by
 unfold onXR
 split
 ·split<;>rfl
 ·rfl
abbrev KR:Type:=List (List PV)→PV→Option (List (List PV)×PV)
section
variable {NG:Nat} {W:World→Prop}
theorem tSI_nat (f:PS→Option (Int×PS)):(tSI f).nat:=by
 intro R bs xs k
 simp only[tSI]
 split
 ·rw[onPS_bind]
  congr 1
  funext s
  rw[Option.bind_assoc]
  rfl
 ·rfl
theorem hok_tSI (hW:WOK NG W){l:List (FuncId×PFn)}(hl:AllOK NG W l){lh:List (FuncId×HFn)}(hh:AllH NG W lh){h:Hints}{f:FuncId}{fn:Func}(hf:Tryz.prog.funcs[f]? = some fn)(hb:fn.body.isSome=true)(hname:fn.name ≠ "runtime.NumGoroutine"){g:PS→Option (Int×PS)}(hr:∀ (s:PS),∃ fu,∀ K:KR,prunH (enH l lh []) h fu fn [s.box] [.ptr 0 0] K=(g s).bind fun r=>K [r.2.box] (.int .i64 r.1)):HOK NG W f (tSI g) :=
 hok hW hl hh allI_nil (h:=h) hf hb hname (tSI_nat g) fun bs xs r h=>by
  simp only[tSI] at h
  split at h
  ·obtain⟨s,rfl,h⟩:=onPS_inv h
   obtain⟨fu,hr⟩:=hr s
   exact⟨fu,(hr _).trans h⟩
  ·cases h
theorem tSU_nat (f:PS→Option PS):(tSU f).nat:=by
 intro R bs xs k
 simp only[tSU]
 split
 ·rw[onPS_bind]
  congr 1
  funext s
  rw[Option.bind_assoc]
  rfl
 ·rfl
theorem hok_tSU (hW:WOK NG W){l:List (FuncId×PFn)}(hl:AllOK NG W l){lh:List (FuncId×HFn)}(hh:AllH NG W lh){h:Hints}{f:FuncId}{fn:Func}(hf:Tryz.prog.funcs[f]? = some fn)(hb:fn.body.isSome=true)(hname:fn.name ≠ "runtime.NumGoroutine"){g:PS→Option PS}(hr:∀ (s:PS),∃ fu,∀ K:KR,prunH (enH l lh []) h fu fn [s.box] [.ptr 0 0] K=(g s).bind fun r=>K [r.box] (.tuple [])):HOK NG W f (tSU g) :=
 hok hW hl hh allI_nil (h:=h) hf hb hname (tSU_nat g) fun bs xs r h=>by
  simp only[tSU] at h
  split at h
  ·obtain⟨s,rfl,h⟩:=onPS_inv h
   obtain⟨fu,hr⟩:=hr s
   exact⟨fu,(hr _).trans h⟩
  ·cases h
theorem tSUi_nat (f:PS→Int→Option PS):(tSUi f).nat:=by
 intro R bs xs k
 simp only[tSUi]
 split
 ·rw[onPS_bind]
  congr 1
  funext s
  rw[Option.bind_assoc]
  rfl
 ·rfl
theorem hok_tSUi (hW:WOK NG W){l:List (FuncId×PFn)}(hl:AllOK NG W l){lh:List (FuncId×HFn)}(hh:AllH NG W lh){h:Hints}{f:FuncId}{fn:Func}(hf:Tryz.prog.funcs[f]? = some fn)(hb:fn.body.isSome=true)(hname:fn.name ≠ "runtime.NumGoroutine"){g:PS→Int→Option PS}(hr:∀ (s:PS) (a:Int),∃ fu,∀ K:KR,prunH (enH l lh []) h fu fn [s.box] [.ptr 0 0,.int .i64 a] K=(g s a).bind fun r=>K [r.box] (.tuple [])):HOK NG W f (tSUi g) :=
 hok hW hl hh allI_nil (h:=h) hf hb hname (tSUi_nat g) fun bs xs r h=>by
  simp only[tSUi] at h
  split at h
  ·obtain⟨s,rfl,h⟩:=onPS_inv h
   obtain⟨fu,hr⟩:=hr s _
   exact⟨fu,(hr _).trans h⟩
  ·cases h
theorem tSUw_nat (f:PS→List UInt8→Option PS):(tSUw f).nat:=by
 intro R bs xs k
 simp only[tSUw]
 split
 ·rw[onPS_bind]
  congr 1
  funext s
  rw[Option.bind_assoc]
  rfl
 ·rfl
theorem hok_tSUw (hW:WOK NG W){l:List (FuncId×PFn)}(hl:AllOK NG W l){lh:List (FuncId×HFn)}(hh:AllH NG W lh){h:Hints}{f:FuncId}{fn:Func}(hf:Tryz.prog.funcs[f]? = some fn)(hb:fn.body.isSome=true)(hname:fn.name ≠ "runtime.NumGoroutine"){g:PS→List UInt8→Option PS}(hr:∀ (s:PS) (w:List UInt8),∃ fu,∀ K:KR,prunH (enH l lh []) h fu fn [s.box] [.ptr 0 0,.str w] K=(g s w).bind fun r=>K [r.box] (.tuple [])):HOK NG W f (tSUw g) :=
 hok hW hl hh allI_nil (h:=h) hf hb hname (tSUw_nat g) fun bs xs r h=>by
  simp only[tSUw] at h
  split at h
  ·obtain⟨s,rfl,h⟩:=onPS_inv h
   obtain⟨fu,hr⟩:=hr s _
   exact⟨fu,(hr _).trans h⟩
  ·cases h
theorem tSBw_nat (f:PS→List UInt8→Option (Bool×PS)):(tSBw f).nat:=by
 intro R bs xs k
 simp only[tSBw]
 split
 ·rw[onPS_bind]
  congr 1
  funext s
  rw[Option.bind_assoc]
  rfl
 ·rfl
theorem hok_tSBw (hW:WOK NG W){l:List (FuncId×PFn)}(hl:AllOK NG W l){lh:List (FuncId×HFn)}(hh:AllH NG W lh){h:Hints}{f:FuncId}{fn:Func}(hf:Tryz.prog.funcs[f]? = some fn)(hb:fn.body.isSome=true)(hname:fn.name ≠ "runtime.NumGoroutine"){g:PS→List UInt8→Option (Bool×PS)}(hr:∀ (s:PS) (w:List UInt8),∃ fu,∀ K:KR,prunH (enH l lh []) h fu fn [s.box] [.ptr 0 0,.str w] K=(g s w).bind fun r=>K [r.2.box] (.bool r.1)):HOK NG W f (tSBw g) :=
 hok hW hl hh allI_nil (h:=h) hf hb hname (tSBw_nat g) fun bs xs r h=>by
  simp only[tSBw] at h
  split at h
  ·obtain⟨s,rfl,h⟩:=onPS_inv h
   obtain⟨fu,hr⟩:=hr s _
   exact⟨fu,(hr _).trans h⟩
  ·cases h
theorem tSBl_nat (f:PS→Nat→List PV→Option (Bool×PS)):(tSBl f).nat:=by
 intro R bs xs k
 simp only[tSBl]
 split
 ·split
  ·rw[onPS_bind]
   congr 1
   funext s
   rw[Option.bind_assoc]
   rfl
  ·rfl
 ·rfl
theorem hok_tSBl (hW:WOK NG W){l:List (FuncId×PFn)}(hl:AllOK NG W l){lh:List (FuncId×HFn)}(hh:AllH NG W lh){h:Hints}{f:FuncId}{fn:Func}(hf:Tryz.prog.funcs[f]? = some fn)(hb:fn.body.isSome=true)(hname:fn.name ≠ "runtime.NumGoroutine"){g:PS→Nat→List PV→Option (Bool×PS)}(hr:∀ (s:PS) (nl:Option Bool) (n:Nat) (ws:List PV),∃ fu,∀ K:KR,prunH (enH l lh []) h fu fn [s.box] [.ptr 0 0,.sl nl 1 n ws] K=(g s n ws).bind fun r=>K [r.2.box] (.bool r.1)):HOK NG W f (tSBl g) :=
 hok hW hl hh allI_nil (h:=h) hf hb hname (tSBl_nat g) fun bs xs r h=>by
  simp only[tSBl] at h
  split at h
  ·obtain⟨hz,h2⟩:=ite_inv h
   subst hz
   obtain⟨s,rfl,h⟩:=onPS_inv h2
   obtain⟨fu,hr⟩:=hr s _ _ _
   exact⟨fu,(hr _).trans h⟩
  ·cases h
theorem tSBk_nat (f:PS→Int→Nat→List PV→Option (Bool×PS)):(tSBk f).nat:=by
 intro R bs xs k
 simp only[tSBk]
 split
 ·split
  ·rw[onPS_bind]
   congr 1
   funext s
   rw[Option.bind_assoc]
   rfl
  ·rfl
 ·rfl
theorem hok_tSBk (hW:WOK NG W){l:List (FuncId×PFn)}(hl:AllOK NG W l){lh:List (FuncId×HFn)}(hh:AllH NG W lh){h:Hints}{f:FuncId}{fn:Func}(hf:Tryz.prog.funcs[f]? = some fn)(hb:fn.body.isSome=true)(hname:fn.name ≠ "runtime.NumGoroutine"){g:PS→Int→Nat→List PV→Option (Bool×PS)}(hr:∀ (s:PS) (a:Int) (nl:Option Bool) (n:Nat) (ws:List PV),∃ fu,∀ K:KR,prunH (enH l lh []) h fu fn [s.box] [.ptr 0 0,.int .i64 a,.sl nl 1 n ws] K=(g s a n ws).bind fun r=>K [r.2.box] (.bool r.1)):HOK NG W f (tSBk g) :=
 hok hW hl hh allI_nil (h:=h) hf hb hname (tSBk_nat g) fun bs xs r h=>by
  simp only[tSBk] at h
  split at h
  ·obtain⟨hz,h2⟩:=ite_inv h
   subst hz
   obtain⟨s,rfl,h⟩:=onPS_inv h2
   obtain⟨fu,hr⟩:=hr s _ _ _ _
   exact⟨fu,(hr _).trans h⟩
  ·cases h
theorem tST_nat (f:PS→Option (TR×PS)):(tST f).nat:=by
 intro R bs xs k
 simp only[tST]
 split
 ·rw[onPS_bind]
  congr 1
  funext s
  rw[Option.bind_assoc]
  rfl
 ·rfl
theorem hok_tST (hW:WOK NG W){l:List (FuncId×PFn)}(hl:AllOK NG W l){lh:List (FuncId×HFn)}(hh:AllH NG W lh){h:Hints}{f:FuncId}{fn:Func}(hf:Tryz.prog.funcs[f]? = some fn)(hb:fn.body.isSome=true)(hname:fn.name ≠ "runtime.NumGoroutine"){g:PS→Option (TR×PS)}(hr:∀ (s:PS),∃ fu,∀ K:KR,prunH (enH l lh []) h fu fn [s.box] [.ptr 0 0] K=(g s).bind fun r=>K [r.2.box] (.agg r.1.cells)):HOK NG W f (tST g) :=
 hok hW hl hh allI_nil (h:=h) hf hb hname (tST_nat g) fun bs xs r h=>by
  simp only[tST] at h
  split at h
  ·obtain⟨s,rfl,h⟩:=onPS_inv h
   obtain⟨fu,hr⟩:=hr s
   exact⟨fu,(hr _).trans h⟩
  ·cases h
theorem tSS_nat (f:PS→Option (List UInt8×PS)):(tSS f).nat:=by
 intro R bs xs k
 simp only[tSS]
 split
 ·rw[onPS_bind]
  congr 1
  funext s
  rw[Option.bind_assoc]
  rfl
 ·rfl
theorem hok_tSS (hW:WOK NG W){l:List (FuncId×PFn)}(hl:AllOK NG W l){lh:List (FuncId×HFn)}(hh:AllH NG W lh){h:Hints}{f:FuncId}{fn:Func}(hf:Tryz.prog.funcs[f]? = some fn)(hb:fn.body.isSome=true)(hname:fn.name ≠ "runtime.NumGoroutine"){g:PS→Option (List UInt8×PS)}(hr:∀ (s:PS),∃ fu,∀ K:KR,prunH (enH l lh []) h fu fn [s.box] [.ptr 0 0] K=(g s).bind fun r=>K [r.2.box] (.str r.1)):HOK NG W f (tSS g) :=
 hok hW hl hh allI_nil (h:=h) hf hb hname (tSS_nat g) fun bs xs r h=>by
  simp only[tSS] at h
  split at h
  ·obtain⟨s,rfl,h⟩:=onPS_inv h
   obtain⟨fu,hr⟩:=hr s
   exact⟨fu,(hr _).trans h⟩
  ·cases h
theorem tSIi_nat (f:PS→Int→Option (Int×PS)):(tSIi f).nat:=by
 intro R bs xs k
 simp only[tSIi]
 split
 ·rw[onPS_bind]
  congr 1
  funext s
  rw[Option.bind_assoc]
  rfl
 ·rfl
theorem hok_tSIi (hW:WOK NG W){l:List (FuncId×PFn)}(hl:AllOK NG W l){lh:List (FuncId×HFn)}(hh:AllH NG W lh){h:Hints}{f:FuncId}{fn:Func}(hf:Tryz.prog.funcs[f]? = some fn)(hb:fn.body.isSome=true)(hname:fn.name ≠ "runtime.NumGoroutine"){g:PS→Int→Option (Int×PS)}(hr:∀ (s:PS) (a:Int),∃ fu,∀ K:KR,prunH (enH l lh []) h fu fn [s.box] [.ptr 0 0,.int .i64 a] K=(g s a).bind fun r=>K [r.2.box] (.int .i64 r.1)):HOK NG W f (tSIi g) :=
 hok hW hl hh allI_nil (h:=h) hf hb hname (tSIi_nat g) fun bs xs r h=>by
  simp only[tSIi] at h
  split at h
  ·obtain⟨s,rfl,h⟩:=onPS_inv h
   obtain⟨fu,hr⟩:=hr s _
   exact⟨fu,(hr _).trans h⟩
  ·cases h
theorem tSY_nat (f:PS→Option ((Int×Int)×PS)):(tSY f).nat:=by
 intro R bs xs k
 simp only[tSY]
 split
 ·rw[onPS_bind]
  congr 1
  funext s
  rw[Option.bind_assoc]
  rfl
 ·rfl
theorem hok_tSY (hW:WOK NG W){l:List (FuncId×PFn)}(hl:AllOK NG W l){lh:List (FuncId×HFn)}(hh:AllH NG W lh){h:Hints}{f:FuncId}{fn:Func}(hf:Tryz.prog.funcs[f]? = some fn)(hb:fn.body.isSome=true)(hname:fn.name ≠ "runtime.NumGoroutine"){g:PS→Option ((Int×Int)×PS)}(hr:∀ (s:PS),∃ fu,∀ K:KR,prunH (enH l lh []) h fu fn [s.box] [.ptr 0 0] K=(g s).bind fun r=>K [r.2.box] (.agg [.int .i64 r.1.1,.int .i64 r.1.2])):HOK NG W f (tSY g) :=
 hok hW hl hh allI_nil (h:=h) hf hb hname (tSY_nat g) fun bs xs r h=>by
  simp only[tSY] at h
  split at h
  ·obtain⟨s,rfl,h⟩:=onPS_inv h
   obtain⟨fu,hr⟩:=hr s
   exact⟨fu,(hr _).trans h⟩
  ·cases h
theorem tSL_nat (f:PS→Option (VR×PS)):(tSL f).nat:=by
 intro R bs xs k
 simp only[tSL]
 split
 ·rw[onPS_bind]
  congr 1
  funext s
  rw[Option.bind_assoc]
  rfl
 ·rfl
theorem hok_tSL (hW:WOK NG W){l:List (FuncId×PFn)}(hl:AllOK NG W l){lh:List (FuncId×HFn)}(hh:AllH NG W lh){h:Hints}{f:FuncId}{fn:Func}(hf:Tryz.prog.funcs[f]? = some fn)(hb:fn.body.isSome=true)(hname:fn.name ≠ "runtime.NumGoroutine"){g:PS→Option (VR×PS)}(hr:∀ (s:PS),∃ fu,∀ K:KR,prunH (enH l lh []) h fu fn [s.box] [.ptr 0 0] K=(g s).bind fun r=>K [r.2.box] (.tuple [.agg [.int .i64 r.1.vk,.int .i64 r.1.vn,.int .i64 r.1.vc,.str r.1.vs],.bool r.1.ok])):HOK NG W f (tSL g) :=
 hok hW hl hh allI_nil (h:=h) hf hb hname (tSL_nat g) fun bs xs r h=>by
  simp only[tSL] at h
  split at h
  ·obtain⟨s,rfl,h⟩:=onPS_inv h
   obtain⟨fu,hr⟩:=hr s
   exact⟨fu,(hr _).trans h⟩
  ·cases h
theorem tSX_nat (f:PS→Option (XR×PS)):(tSX f).nat:=by
 intro R bs xs k
 simp only[tSX]
 split
 ·rw[onPS_bind]
  congr 1
  funext s
  rw[Option.bind_assoc]
  rfl
 ·rfl
theorem hok_tSX (hW:WOK NG W){l:List (FuncId×PFn)}(hl:AllOK NG W l){lh:List (FuncId×HFn)}(hh:AllH NG W lh){h:Hints}{f:FuncId}{fn:Func}(hf:Tryz.prog.funcs[f]? = some fn)(hb:fn.body.isSome=true)(hname:fn.name ≠ "runtime.NumGoroutine"){g:PS→Option (XR×PS)}(hr:∀ (s:PS),∃ fu,∀ K:KR,prunH (enH l lh []) h fu fn [s.box] [.ptr 0 0] K=(g s).bind fun r=>K [r.2.box] (.agg r.1.cells)):HOK NG W f (tSX g) :=
 hok hW hl hh allI_nil (h:=h) hf hb hname (tSX_nat g) fun bs xs r h=>by
  simp only[tSX] at h
  split at h
  ·obtain⟨s,rfl,h⟩:=onPS_inv h
   obtain⟨fu,hr⟩:=hr s
   exact⟨fu,(hr _).trans h⟩
  ·cases h
theorem none_tSX {f:FuncId}:HOK NG W f (tSX fun _=>none) where
 nat:=tSX_nat _
 call:=by
  intro M β bs xs vs bs' r _ _ _ _ _ h
  simp only[tSX] at h
  split at h
  ·obtain⟨s,_,h⟩:=onPS_inv h
   cases h
  ·cases h
theorem tSXi_nat (f:PS→Int→Option (XR×PS)):(tSXi f).nat:=by
 intro R bs xs k
 simp only[tSXi]
 split
 ·rw[onPS_bind]
  congr 1
  funext s
  rw[Option.bind_assoc]
  rfl
 ·rfl
theorem none_tSXi {f:FuncId}:HOK NG W f (tSXi fun _ _=>none) where
 nat:=tSXi_nat _
 call:=by
  intro M β bs xs vs bs' r _ _ _ _ _ h
  simp only[tSXi] at h
  split at h
  ·obtain⟨s,_,h⟩:=onPS_inv h
   cases h
  ·cases h
theorem tRI_nat (f:RS→Option (Int×RS)):(tRI f).nat:=by
 intro R bs xs k
 simp only[tRI]
 split
 ·rw[onRS_bind]
  congr 1
  funext s
  rw[Option.bind_assoc]
  rfl
 ·rfl
theorem hok_tRI (hW:WOK NG W){l:List (FuncId×PFn)}(hl:AllOK NG W l){lh:List (FuncId×HFn)}(hh:AllH NG W lh){h:Hints}{f:FuncId}{fn:Func}(hf:Tryz.prog.funcs[f]? = some fn)(hb:fn.body.isSome=true)(hname:fn.name ≠ "runtime.NumGoroutine"){g:RS→Option (Int×RS)}(hr:∀ (s:RS),∃ fu,∀ K:KR,prunH (enH l lh []) h fu fn [s.box] [.ptr 0 0] K=(g s).bind fun r=>K [r.2.box] (.int .i64 r.1)):HOK NG W f (tRI g) :=
 hok hW hl hh allI_nil (h:=h) hf hb hname (tRI_nat g) fun bs xs r h=>by
  simp only[tRI] at h
  split at h
  ·obtain⟨s,rfl,h⟩:=onRS_inv h
   obtain⟨fu,hr⟩:=hr s
   exact⟨fu,(hr _).trans h⟩
  ·cases h
theorem tRU_nat (f:RS→Option RS):(tRU f).nat:=by
 intro R bs xs k
 simp only[tRU]
 split
 ·rw[onRS_bind]
  congr 1
  funext s
  rw[Option.bind_assoc]
  rfl
 ·rfl
theorem hok_tRU (hW:WOK NG W){l:List (FuncId×PFn)}(hl:AllOK NG W l){lh:List (FuncId×HFn)}(hh:AllH NG W lh){h:Hints}{f:FuncId}{fn:Func}(hf:Tryz.prog.funcs[f]? = some fn)(hb:fn.body.isSome=true)(hname:fn.name ≠ "runtime.NumGoroutine"){g:RS→Option RS}(hr:∀ (s:RS),∃ fu,∀ K:KR,prunH (enH l lh []) h fu fn [s.box] [.ptr 0 0] K=(g s).bind fun r=>K [r.box] (.tuple [])):HOK NG W f (tRU g) :=
 hok hW hl hh allI_nil (h:=h) hf hb hname (tRU_nat g) fun bs xs r h=>by
  simp only[tRU] at h
  split at h
  ·obtain⟨s,rfl,h⟩:=onRS_inv h
   obtain⟨fu,hr⟩:=hr s
   exact⟨fu,(hr _).trans h⟩
  ·cases h
theorem tRUi_nat (f:RS→Int→Option RS):(tRUi f).nat:=by
 intro R bs xs k
 simp only[tRUi]
 split
 ·rw[onRS_bind]
  congr 1
  funext s
  rw[Option.bind_assoc]
  rfl
 ·rfl
theorem hok_tRUi (hW:WOK NG W){l:List (FuncId×PFn)}(hl:AllOK NG W l){lh:List (FuncId×HFn)}(hh:AllH NG W lh){h:Hints}{f:FuncId}{fn:Func}(hf:Tryz.prog.funcs[f]? = some fn)(hb:fn.body.isSome=true)(hname:fn.name ≠ "runtime.NumGoroutine"){g:RS→Int→Option RS}(hr:∀ (s:RS) (a:Int),∃ fu,∀ K:KR,prunH (enH l lh []) h fu fn [s.box] [.ptr 0 0,.int .i64 a] K=(g s a).bind fun r=>K [r.box] (.tuple [])):HOK NG W f (tRUi g) :=
 hok hW hl hh allI_nil (h:=h) hf hb hname (tRUi_nat g) fun bs xs r h=>by
  simp only[tRUi] at h
  split at h
  ·obtain⟨s,rfl,h⟩:=onRS_inv h
   obtain⟨fu,hr⟩:=hr s _
   exact⟨fu,(hr _).trans h⟩
  ·cases h
theorem tRUl_nat (f:RS→Nat→List PV→Option RS):(tRUl f).nat:=by
 intro R bs xs k
 simp only[tRUl]
 split
 ·split
  ·rw[onRS_bind]
   congr 1
   funext s
   rw[Option.bind_assoc]
   rfl
  ·rfl
 ·rfl
theorem tRB_nat (f:RS→Option (Bool×RS)):(tRB f).nat:=by
 intro R bs xs k
 simp only[tRB]
 split
 ·rw[onRS_bind]
  congr 1
  funext s
  rw[Option.bind_assoc]
  rfl
 ·rfl
theorem hok_tRB (hW:WOK NG W){l:List (FuncId×PFn)}(hl:AllOK NG W l){lh:List (FuncId×HFn)}(hh:AllH NG W lh){h:Hints}{f:FuncId}{fn:Func}(hf:Tryz.prog.funcs[f]? = some fn)(hb:fn.body.isSome=true)(hname:fn.name ≠ "runtime.NumGoroutine"){g:RS→Option (Bool×RS)}(hr:∀ (s:RS),∃ fu,∀ K:KR,prunH (enH l lh []) h fu fn [s.box] [.ptr 0 0] K=(g s).bind fun r=>K [r.2.box] (.bool r.1)):HOK NG W f (tRB g) :=
 hok hW hl hh allI_nil (h:=h) hf hb hname (tRB_nat g) fun bs xs r h=>by
  simp only[tRB] at h
  split at h
  ·obtain⟨s,rfl,h⟩:=onRS_inv h
   obtain⟨fu,hr⟩:=hr s
   exact⟨fu,(hr _).trans h⟩
  ·cases h
theorem tRBw_nat (f:RS→List UInt8→Option (Bool×RS)):(tRBw f).nat:=by
 intro R bs xs k
 simp only[tRBw]
 split
 ·rw[onRS_bind]
  congr 1
  funext s
  rw[Option.bind_assoc]
  rfl
 ·rfl
theorem hok_tRBw (hW:WOK NG W){l:List (FuncId×PFn)}(hl:AllOK NG W l){lh:List (FuncId×HFn)}(hh:AllH NG W lh){h:Hints}{f:FuncId}{fn:Func}(hf:Tryz.prog.funcs[f]? = some fn)(hb:fn.body.isSome=true)(hname:fn.name ≠ "runtime.NumGoroutine"){g:RS→List UInt8→Option (Bool×RS)}(hr:∀ (s:RS) (w:List UInt8),∃ fu,∀ K:KR,prunH (enH l lh []) h fu fn [s.box] [.ptr 0 0,.str w] K=(g s w).bind fun r=>K [r.2.box] (.bool r.1)):HOK NG W f (tRBw g) :=
 hok hW hl hh allI_nil (h:=h) hf hb hname (tRBw_nat g) fun bs xs r h=>by
  simp only[tRBw] at h
  split at h
  ·obtain⟨s,rfl,h⟩:=onRS_inv h
   obtain⟨fu,hr⟩:=hr s _
   exact⟨fu,(hr _).trans h⟩
  ·cases h
theorem tRS_nat (f:RS→Option (List UInt8×RS)):(tRS f).nat:=by
 intro R bs xs k
 simp only[tRS]
 split
 ·rw[onRS_bind]
  congr 1
  funext s
  rw[Option.bind_assoc]
  rfl
 ·rfl
theorem hok_tRS (hW:WOK NG W){l:List (FuncId×PFn)}(hl:AllOK NG W l){lh:List (FuncId×HFn)}(hh:AllH NG W lh){h:Hints}{f:FuncId}{fn:Func}(hf:Tryz.prog.funcs[f]? = some fn)(hb:fn.body.isSome=true)(hname:fn.name ≠ "runtime.NumGoroutine"){g:RS→Option (List UInt8×RS)}(hr:∀ (s:RS),∃ fu,∀ K:KR,prunH (enH l lh []) h fu fn [s.box] [.ptr 0 0] K=(g s).bind fun r=>K [r.2.box] (.str r.1)):HOK NG W f (tRS g) :=
 hok hW hl hh allI_nil (h:=h) hf hb hname (tRS_nat g) fun bs xs r h=>by
  simp only[tRS] at h
  split at h
  ·obtain⟨s,rfl,h⟩:=onRS_inv h
   obtain⟨fu,hr⟩:=hr s
   exact⟨fu,(hr _).trans h⟩
  ·cases h
theorem tRIi_nat (f:RS→Int→Option (Int×RS)):(tRIi f).nat:=by
 intro R bs xs k
 simp only[tRIi]
 split
 ·rw[onRS_bind]
  congr 1
  funext s
  rw[Option.bind_assoc]
  rfl
 ·rfl
theorem hok_tRIi (hW:WOK NG W){l:List (FuncId×PFn)}(hl:AllOK NG W l){lh:List (FuncId×HFn)}(hh:AllH NG W lh){h:Hints}{f:FuncId}{fn:Func}(hf:Tryz.prog.funcs[f]? = some fn)(hb:fn.body.isSome=true)(hname:fn.name ≠ "runtime.NumGoroutine"){g:RS→Int→Option (Int×RS)}(hr:∀ (s:RS) (a:Int),∃ fu,∀ K:KR,prunH (enH l lh []) h fu fn [s.box] [.ptr 0 0,.int .i64 a] K=(g s a).bind fun r=>K [r.2.box] (.int .i64 r.1)):HOK NG W f (tRIi g) :=
 hok hW hl hh allI_nil (h:=h) hf hb hname (tRIi_nat g) fun bs xs r h=>by
  simp only[tRIi] at h
  split at h
  ·obtain⟨s,rfl,h⟩:=onRS_inv h
   obtain⟨fu,hr⟩:=hr s _
   exact⟨fu,(hr _).trans h⟩
  ·cases h
theorem tRY_nat (f:RS→Option ((Int×Int)×RS)):(tRY f).nat:=by
 intro R bs xs k
 simp only[tRY]
 split
 ·rw[onRS_bind]
  congr 1
  funext s
  rw[Option.bind_assoc]
  rfl
 ·rfl
theorem hok_tRY (hW:WOK NG W){l:List (FuncId×PFn)}(hl:AllOK NG W l){lh:List (FuncId×HFn)}(hh:AllH NG W lh){h:Hints}{f:FuncId}{fn:Func}(hf:Tryz.prog.funcs[f]? = some fn)(hb:fn.body.isSome=true)(hname:fn.name ≠ "runtime.NumGoroutine"){g:RS→Option ((Int×Int)×RS)}(hr:∀ (s:RS),∃ fu,∀ K:KR,prunH (enH l lh []) h fu fn [s.box] [.ptr 0 0] K=(g s).bind fun r=>K [r.2.box] (.agg [.int .i64 r.1.1,.int .i64 r.1.2])):HOK NG W f (tRY g) :=
 hok hW hl hh allI_nil (h:=h) hf hb hname (tRY_nat g) fun bs xs r h=>by
  simp only[tRY] at h
  split at h
  ·obtain⟨s,rfl,h⟩:=onRS_inv h
   obtain⟨fu,hr⟩:=hr s
   exact⟨fu,(hr _).trans h⟩
  ·cases h
theorem tRL_nat (f:RS→Option (VR×RS)):(tRL f).nat:=by
 intro R bs xs k
 simp only[tRL]
 split
 ·rw[onRS_bind]
  congr 1
  funext s
  rw[Option.bind_assoc]
  rfl
 ·rfl
theorem hok_tRL (hW:WOK NG W){l:List (FuncId×PFn)}(hl:AllOK NG W l){lh:List (FuncId×HFn)}(hh:AllH NG W lh){h:Hints}{f:FuncId}{fn:Func}(hf:Tryz.prog.funcs[f]? = some fn)(hb:fn.body.isSome=true)(hname:fn.name ≠ "runtime.NumGoroutine"){g:RS→Option (VR×RS)}(hr:∀ (s:RS),∃ fu,∀ K:KR,prunH (enH l lh []) h fu fn [s.box] [.ptr 0 0] K=(g s).bind fun r=>K [r.2.box] (.tuple [.agg [.int .i64 r.1.vk,.int .i64 r.1.vn,.int .i64 r.1.vc,.str r.1.vs],.bool r.1.ok])):HOK NG W f (tRL g) :=
 hok hW hl hh allI_nil (h:=h) hf hb hname (tRL_nat g) fun bs xs r h=>by
  simp only[tRL] at h
  split at h
  ·obtain⟨s,rfl,h⟩:=onRS_inv h
   obtain⟨fu,hr⟩:=hr s
   exact⟨fu,(hr _).trans h⟩
  ·cases h
theorem tRX_nat (f:RS→Option (XR×RS)):(tRX f).nat:=by
 intro R bs xs k
 simp only[tRX]
 split
 ·rw[onRS_bind]
  congr 1
  funext s
  rw[Option.bind_assoc]
  rfl
 ·rfl
theorem hok_tRX (hW:WOK NG W){l:List (FuncId×PFn)}(hl:AllOK NG W l){lh:List (FuncId×HFn)}(hh:AllH NG W lh){h:Hints}{f:FuncId}{fn:Func}(hf:Tryz.prog.funcs[f]? = some fn)(hb:fn.body.isSome=true)(hname:fn.name ≠ "runtime.NumGoroutine"){g:RS→Option (XR×RS)}(hr:∀ (s:RS),∃ fu,∀ K:KR,prunH (enH l lh []) h fu fn [s.box] [.ptr 0 0] K=(g s).bind fun r=>K [r.2.box] (.agg r.1.cells)):HOK NG W f (tRX g) :=
 hok hW hl hh allI_nil (h:=h) hf hb hname (tRX_nat g) fun bs xs r h=>by
  simp only[tRX] at h
  split at h
  ·obtain⟨s,rfl,h⟩:=onRS_inv h
   obtain⟨fu,hr⟩:=hr s
   exact⟨fu,(hr _).trans h⟩
  ·cases h
theorem none_tRX {f:FuncId}:HOK NG W f (tRX fun _=>none) where
 nat:=tRX_nat _
 call:=by
  intro M β bs xs vs bs' r _ _ _ _ _ h
  simp only[tRX] at h
  split at h
  ·obtain⟨s,_,h⟩:=onRS_inv h
   cases h
  ·cases h
theorem tRXi_nat (f:RS→Int→Option (XR×RS)):(tRXi f).nat:=by
 intro R bs xs k
 simp only[tRXi]
 split
 ·rw[onRS_bind]
  congr 1
  funext s
  rw[Option.bind_assoc]
  rfl
 ·rfl
theorem hok_tRXi (hW:WOK NG W){l:List (FuncId×PFn)}(hl:AllOK NG W l){lh:List (FuncId×HFn)}(hh:AllH NG W lh){h:Hints}{f:FuncId}{fn:Func}(hf:Tryz.prog.funcs[f]? = some fn)(hb:fn.body.isSome=true)(hname:fn.name ≠ "runtime.NumGoroutine"){g:RS→Int→Option (XR×RS)}(hr:∀ (s:RS) (a:Int),∃ fu,∀ K:KR,prunH (enH l lh []) h fu fn [s.box] [.ptr 0 0,.int .i64 a] K=(g s a).bind fun r=>K [r.2.box] (.agg r.1.cells)):HOK NG W f (tRXi g) :=
 hok hW hl hh allI_nil (h:=h) hf hb hname (tRXi_nat g) fun bs xs r h=>by
  simp only[tRXi] at h
  split at h
  ·obtain⟨s,rfl,h⟩:=onRS_inv h
   obtain⟨fu,hr⟩:=hr s _
   exact⟨fu,(hr _).trans h⟩
  ·cases h
theorem none_tRXi {f:FuncId}:HOK NG W f (tRXi fun _ _=>none) where
 nat:=tRXi_nat _
 call:=by
  intro M β bs xs vs bs' r _ _ _ _ _ h
  simp only[tRXi] at h
  split at h
  ·obtain⟨s,_,h⟩:=onRS_inv h
   cases h
  ·cases h
theorem tRXr_nat (f:RS→XR→Int→Int→Option (XR×RS)):(tRXr f).nat:=by
 intro R bs xs k
 simp only[tRXr]
 split
 ·rw[onRS_bind]
  congr 1
  funext s
  rw[onXR_bind]
  congr 1
  funext e
  rw[Option.bind_assoc]
  rfl
 ·rfl
theorem none_tRXr {f:FuncId}:HOK NG W f (tRXr fun _ _ _ _=>none) where
 nat:=tRXr_nat _
 call:=by
  intro M β bs xs vs bs' r _ _ _ _ _ h
  simp only[tRXr] at h
  split at h
  ·obtain⟨s,_,h⟩:=onRS_inv h
   obtain⟨e,_,h⟩:=onXR_inv h
   cases h
  ·cases h
theorem tWi_nat (f:List UInt8→Option Int):(tWi f).nat:=by
 intro R xs k
 simp only[tWi]
 split
 ·rw[Option.bind_assoc]
  rfl
 ·rfl
theorem fok_tWi (hW:WOK NG W){l:List (FuncId×PFn)}(hl:AllOK NG W l){lh:List (FuncId×HFn)}(hh:AllH NG W lh){h:Hints}{f:FuncId}{fn:Func}(hf:Tryz.prog.funcs[f]? = some fn)(hb:fn.body.isSome=true)(hname:fn.name ≠ "runtime.NumGoroutine"){g:List UInt8→Option Int}(hr:∀ (s:List UInt8),∃ fu,prun (enH l lh []) h fu false fn [.str s]=(g s).bind fun b=>some (.int .i64 b)):FOK NG W f (tWi g) :=
 fokH hW hl hh allI_nil (h:=h) hf hb hname (tWi_nat g) fun xs r h=>by
  simp only[tWi] at h
  split at h
  ·obtain⟨fu,hr⟩:=hr _
   exact⟨fu,hr.trans h⟩
  ·cases h
theorem tWV_nat (f:List UInt8→Option VR):(tWV f).nat:=by
 intro R xs k
 simp only[tWV]
 split
 ·rw[Option.bind_assoc]
  rfl
 ·rfl
theorem fok_tWV (hW:WOK NG W){l:List (FuncId×PFn)}(hl:AllOK NG W l){lh:List (FuncId×HFn)}(hh:AllH NG W lh){h:Hints}{f:FuncId}{fn:Func}(hf:Tryz.prog.funcs[f]? = some fn)(hb:fn.body.isSome=true)(hname:fn.name ≠ "runtime.NumGoroutine"){g:List UInt8→Option VR}(hr:∀ (s:List UInt8),∃ fu,prun (enH l lh []) h fu false fn [.str s]=(g s).bind fun b=>some (.tuple [.agg [.int .i64 b.vk,.int .i64 b.vn,.int .i64 b.vc,.str b.vs],.bool b.ok])):FOK NG W f (tWV g) :=
 fokH hW hl hh allI_nil (h:=h) hf hb hname (tWV_nat g) fun xs r h=>by
  simp only[tWV] at h
  split at h
  ·obtain⟨fu,hr⟩:=hr _
   exact⟨fu,hr.trans h⟩
  ·cases h
theorem tLx_nat (f:List UInt8→Option LX):(tLx f).nat:=by
 intro R xs k
 simp only[tLx]
 split
 ·rw[Option.bind_assoc]
  rfl
 ·rfl
theorem tLr_nat (f:List UInt8→Option LR):(tLr f).nat:=by
 intro R xs k
 simp only[tLr]
 split
 ·rw[Option.bind_assoc]
  rfl
 ·rfl
end
end Go.Proofs.YtkpfigikffphdaaGreatDoor
end
section
namespace Go.Proofs.YtkpfigikffphdaaGreatDoor
open Go.RowKit
theorem flat_at {α:Type}{f:α→List PV}{sz:Nat}(hf:∀ x,(f x).length=sz):∀ {l:List α} {i:Nat} {x:α},l[i]? = some x→((l.flatMap f).drop (i * sz)).take sz=f x
 |y::l,0,x,h=>by
  simp only[List.getElem?_cons_zero,Option.some.injEq] at h
  subst h
  rw[Nat.zero_mul,List.drop_zero,List.flatMap_cons,← hf y,List.take_left]
 |y::l,i+1,x,h=>by
  simp only[List.getElem?_cons_succ] at h
  rw[List.flatMap_cons,Nat.add_mul,Nat.one_mul,Nat.add_comm,← List.drop_drop,← hf y,List.drop_left,hf y]
  exact flat_at hf h
def decG {α:Type}(sz:Nat)(g:List PV→Option α):Nat→List PV→Option (List α)
 |0,[]=>some []
 |0,_::_=>none
 |n+1,c=>(g (c.take sz)).bind fun x=>(decG sz g n (c.drop sz)).map (x :: ·)
theorem decG_of {α:Type}{sz:Nat}{g:List PV→Option α}{f:α→List PV}(hf:∀ x,(f x).length=sz)(hg:∀ x,g (f x)=some x):∀ (l:List α),decG sz g l.length (l.flatMap f)=some l
 |[]=>rfl
 |x::l=>by
  rw[List.length_cons,List.flatMap_cons,decG,← hf x,List.take_left,List.drop_left,hg x,hf x,Option.bind_some,decG_of hf hg l]
  rfl
theorem decG_inv {α:Type}{sz:Nat}{g:List PV→Option α}{f:α→List PV}(hg:∀ c x,g c=some x→c=f x):∀ {n:Nat} {c:List PV} {l:List α},decG sz g n c=some l→n=l.length∧c=l.flatMap f
 |0,[],l,h=>by injection h with h;subst h;exact⟨rfl,rfl⟩
 |0,_::_,l,h=>by cases h
 |n+1,c,l,h=>by
  rw[decG] at h
  obtain⟨x,h1,h2⟩:=Option.bind_eq_some_iff.1 h
  obtain⟨t,h3,rfl⟩:=Option.map_eq_some_iff.1 h2
  obtain⟨rfl,h4⟩:=decG_inv hg h3
  refine⟨rfl,?_⟩
  rw[List.flatMap_cons,← hg _ _ h1,← h4,List.take_append_drop]
end Go.Proofs.YtkpfigikffphdaaGreatDoor
end
section
set_option maxRecDepth 100000
namespace Go.Proofs.YtkpfigikffphdaaGreatDoor
open Go.RowKit
theorem cond_bindo {α β:Type}{b:Bool}{x y:Option α}{k:α→Option β}:(bif b then x else y).bind k=bif b then x.bind k else y.bind k:=by cases b<;>rfl
theorem chk_bind {α β:Type}{b:Bool}{x:Option α}{k:α→Option β}:(chk b x).bind k=chk b (x.bind k):=by cases b<;>rfl
theorem hdI_bind {α β:Type}{cs:List PV}{j:Nat}{kk:Int→Option α}{k:α→Option β}:(hdI cs j kk).bind k=hdI cs j fun a=>(kk a).bind k:=by simp only[hdI,Option.bind_assoc]
theorem hdS_bind {α β:Type}{cs:List PV}{j:Nat}{kk:List UInt8→Option α}{k:α→Option β}:(hdS cs j kk).bind k=hdS cs j fun a=>(kk a).bind k:=by simp only[hdS,Option.bind_assoc]
theorem hdJ_bind {α β:Type}{cs:List PV}{j:Nat}{kk:Int→Option α}{k:α→Option β}:(hdJ cs j kk).bind k=hdJ cs j fun a=>(kk a).bind k:=by simp only[hdJ,Option.bind_assoc]
theorem hdT_bind {α β:Type}{cs:List PV}{kk:TR→Option α}{k:α→Option β}:(hdT cs kk).bind k=hdT cs fun a=>(kk a).bind k:=by simp only[hdT,hdI,Option.bind_assoc]
def stC (a:List UInt8):List PV:=[.str a]
def stG:List PV→Option (List UInt8)
 |[.str a]=>some a
 |_=>none
def isI:List (List UInt8)→List UInt8→Int→Int
 |[],_,_=>-1
 |a::l,s,i=>bif s==a then i else isI l s (i+1)
def conA (l:List (List UInt8))(s:List UInt8):Bool:=l.any fun a=>s==a
def conN (n:Nat)(c:List PV)(s:List UInt8):Option Bool:=(decG 1 stG n c).bind fun l=>bif decide (l.length≤1000000) then some (conA l s) else none
def idxN (n:Nat)(c:List PV)(s:List UInt8):Option Int:=(decG 1 stG n c).bind fun l=>bif decide (l.length≤1000000) then some (isI l s 0) else none
def atP (s:PS):Option (Int×PS):=bif ((s.n:Int)==0) then some (s.e,s) else chk (decide ((0:Int)≤0)&&decide ((0:Int)<s.n)) (hdI s.cs 1 fun a=>some (a,s))
def failAtP (s:PS)(a:Int):Option PS:=bif decide (s.b<0) then some ⟨some true,0,[],s.e,s.o,a⟩ else some s
def flP (s:PS):Option PS:=(atP s).bind fun r=>(failAtP r.2 r.1).bind fun s=>some s
def isP (s:PS)(a:Int)(n:Nat)(ws:List PV):Option (Bool×PS) :=
 bif decide ((0:Int)<s.n) then chk (decide ((0:Int)≤0)&&decide ((0:Int)<s.n)) (hdI s.cs 0 fun k=>bif k==a then chk (decide ((0:Int)≤0)&&decide ((0:Int)<s.n)) (hdS s.cs 2 fun w=>(conN n ws w).bind fun r=>some (r,s)) else some (false,s)) else some (false,s)
def keyP (s:PS)(w:List UInt8):Option (Bool×PS):=(isP s 1 1 [.str w]).bind fun r=>some (r.1,r.2)
def signP (s:PS)(n:Nat)(ws:List PV):Option (Bool×PS):=(isP s 3 n ws).bind fun r=>some (r.1,r.2)
def takeP (s:PS):Option (TR×PS) :=
 bif ((s.n:Int)==0) then (flP s).bind fun s=>some (TR.zero,s) else chk (decide ((0:Int)≤0)&&decide ((0:Int)<s.n)) (hdT s.cs fun t=>chk (decide ((0:Int)≤1)&&decide ((1:Int)≤s.n)) (some (t,⟨s.nl,s.n-1,(s.cs.take (s.n * 7)).drop (1 * 7),s.e,s.o,s.b⟩)))
def skipP (s:PS)(w:List UInt8):Option (Bool×PS):=(keyP s w).bind fun r=>bif !r.1 then some (false,r.2) else (takeP r.2).bind fun q=>some (true,q.2)
def wantSignP (s:PS)(w:List UInt8):Option PS:=(signP s 1 [.str w]).bind fun r=>bif !r.1 then (flP r.2).bind fun s=>some s else (takeP r.2).bind fun q=>some q.2
def nameP (s:PS):Option (List UInt8×PS) :=
 bif !((s.n:Int)==0) then chk (decide ((0:Int)≤0)&&decide ((0:Int)<s.n)) (hdI s.cs 0 fun k=>bif k != 0 then (flP s).bind fun s=>some ([],s) else (takeP s).bind fun q=>some (q.1.t,q.2)) else (flP s).bind fun s=>some ([],s)
def numberP (s:PS)(m:Int):Option (Int×PS) :=
 bif !((s.n:Int)==0) then chk (decide ((0:Int)≤0)&&decide ((0:Int)<s.n)) (hdI s.cs 0 fun k=>bif !(k != 2) then
   chk (decide ((0:Int)≤0)&&decide ((0:Int)<s.n)) (hdI s.cs 3 fun vk=>bif !(vk != 2) then
   chk (decide ((0:Int)≤0)&&decide ((0:Int)<s.n)) (hdJ s.cs 1 fun vn=>bif decide (m<vn) then (flP s).bind fun s=>some (0,s) else (takeP s).bind fun q=>some (q.1.vn,q.2))
   else (flP s).bind fun s=>some (0,s)) else (flP s).bind fun s=>some (0,s)) else (flP s).bind fun s=>some (0,s)
def tyWs:List PV:=[.str [],.str [66,79,79,76],.str [73,78,84],.str [68,69,67,73,77,65,76],.str [84,69,88,84],.str [66,89,84,69,83]]
def kindP (w:List UInt8):Option Int:=(idxN 6 tyWs w).bind fun i=>some (if 0>i then 0 else i)
def wordV (w:List UInt8):Option VR :=
 bif w==[84,82,85,69] then (bif w==[84,82,85,69] then (bif w==[84,82,85,69] then some ⟨1,1,0,[],true⟩ else some ⟨1,0,0,[],true⟩) else some ⟨0,0,0,[],w==[78,85,76,76]⟩) else bif w==[70,65,76,83,69] then (bif w==[84,82,85,69] then some ⟨1,1,0,[],true⟩ else some ⟨1,0,0,[],true⟩) else some ⟨0,0,0,[],w==[78,85,76,76]⟩
def literalP (s:PS):Option (VR×PS) :=
 bif ((s.n:Int)==0) then some (⟨0,0,0,[],false⟩,s) else chk (decide ((0:Int)≤0)&&decide ((0:Int)<s.n)) (hdT s.cs fun t =>
   bif t.k==2 then (takeP s).bind fun q=>some (⟨t.vk,t.vn,t.vc,t.vs,true⟩,q.2) else
   (wordV t.t).bind fun v=>bif (bif t.k != 1 then true else !v.ok) then some (⟨0,0,0,[],false⟩,s) else (takeP s).bind fun q=>some (⟨v.vk,v.vn,v.vc,v.vs,true⟩,q.2))
def typedP (s:PS):Option ((Int×Int)×PS) :=
 bif !((s.n:Int)==0) then chk (decide ((0:Int)≤0)&&decide ((0:Int)<s.n)) (hdI s.cs 0 fun k=>bif !(k != 1) then
   chk (decide ((0:Int)≤0)&&decide ((0:Int)<s.n)) (hdS s.cs 2 fun w=>(kindP w).bind fun j=>bif j==0 then (flP s).bind fun s=>some ((0,0),s) else
   (takeP s).bind fun q=>(kindP q.1.t).bind fun j=>bif j==3 then (wantSignP q.2 [40]).bind fun s=>(numberP s 6).bind fun m=>(wantSignP m.2 [41]).bind fun s=>some ((j,m.1),s) else some ((j,0),q.2))
   else (flP s).bind fun s=>some ((0,0),s)) else (flP s).bind fun s=>some ((0,0),s)
def wantL:List (List UInt8)→PS→Option PS
 |[],s=>some s
 |w::ws,s=>(skipP s w).bind fun r=>bif !r.1 then (flP r.2).bind fun s=>wantL ws s else wantL ws r.2
structure PDeps (NG:Nat)(W:World→Prop)(fF:List UInt8→Option (Option Bool×Nat×List PV)):Prop where
 w:WOK NG W
 idx:FOK NG W 230 (tCi idxN)
 con:FOK NG W 184 (tCn conN)
 fields:FOK NG W 198 (tWs fF)
 bool:FOK NG W 277 (evalFn [] hh0 0 Tryz.f277)
section
variable {NG:Nat} {W:World→Prop} {fF:List UInt8→Option (Option Bool × Nat × List PV)} (D:PDeps NG W fF)
include D
theorem ok_at:HOK NG W 96 (tSI atP):=hok_tSI D.w allOK_nil allH_nil Tryz.func96 rfl (by decide) fun s=>⟨0,fun K=>(at_raw 0 s K).trans (by simp only[atP,cond_bindo,chk_bind,hdI_bind,Option.bind_some])⟩
theorem ok_failAt:HOK NG W 95 (tSUi failAtP):=hok_tSUi D.w allOK_nil allH_nil Tryz.func95 rfl (by decide) fun s a=>⟨0,fun K=>(failAt_raw 0 s a K).trans (by simp only[failAtP,cond_bindo,Option.bind_some])⟩
theorem ok_fail:HOK NG W 52 (tSU flP):=hok_tSU D.w allOK_nil (allH_cons (ok_at D) (allH_cons (ok_failAt D) allH_nil)) Tryz.func52 rfl (by decide) fun s=>⟨0,fun K=>(fail_raw _ _ 0 s K).trans (by simp only[flP,Option.bind_assoc,Option.bind_some])⟩
theorem ok_is:HOK NG W 101 (tSBk isP):=hok_tSBk D.w (allOK_cons D.con allOK_nil) allH_nil Tryz.func101 rfl (by decide) fun s a nl n ws=>⟨0,fun K=>(is_raw _ 0 s a nl n ws K).trans (by simp only[isP,cond_bindo,chk_bind,hdI_bind,hdS_bind,Option.bind_assoc,Option.bind_some])⟩
theorem ok_key:HOK NG W 114 (tSBw keyP):=hok_tSBw D.w allOK_nil (allH_cons (ok_is D) allH_nil) Tryz.func114 rfl (by decide) fun s w=>⟨0,fun K=>(key_raw _ 0 s w K).trans (by simp only[keyP,Option.bind_assoc,Option.bind_some])⟩
theorem ok_sign:HOK NG W 128 (tSBl signP):=hok_tSBl D.w allOK_nil (allH_cons (ok_is D) allH_nil) Tryz.func128 rfl (by decide) fun s nl n ws=>⟨0,fun K=>(sign_raw _ 0 s nl n ws K).trans (by simp only[signP,Option.bind_assoc,Option.bind_some])⟩
theorem ok_take:HOK NG W 102 (tST takeP):=hok_tST D.w allOK_nil (allH_cons (ok_fail D) allH_nil) Tryz.func102 rfl (by decide) fun s=>⟨0,fun K=>(take_raw _ 0 s K).trans (by simp only[takeP,cond_bindo,chk_bind,hdT_bind,Option.bind_assoc,Option.bind_some])⟩
theorem ok_skip:HOK NG W 64 (tSBw skipP):=hok_tSBw D.w allOK_nil (allH_cons (ok_key D) (allH_cons (ok_take D) allH_nil)) Tryz.func64 rfl (by decide) fun s w=>⟨0,fun K=>(skip_raw _ _ 0 s w K).trans (by simp only[skipP,cond_bindo,Option.bind_assoc,Option.bind_some])⟩
theorem ok_wantSign:HOK NG W 126 (tSUw wantSignP):=hok_tSUw D.w allOK_nil (allH_cons (ok_sign D) (allH_cons (ok_fail D) (allH_cons (ok_take D) allH_nil))) Tryz.func126 rfl (by decide) fun s w=>⟨0,fun K=>(wantSign_raw _ _ _ 0 s w K).trans (by simp only[wantSignP,cond_bindo,Option.bind_assoc,Option.bind_some])⟩
theorem ok_name:HOK NG W 115 (tSS nameP):=hok_tSS D.w allOK_nil (allH_cons (ok_fail D) (allH_cons (ok_take D) allH_nil)) Tryz.func115 rfl (by decide) fun s=>⟨0,fun K=>(name_raw _ _ 0 s K).trans (by simp only[nameP,cond_bindo,chk_bind,hdI_bind,Option.bind_assoc,Option.bind_some])⟩
theorem ok_pnumber:HOK NG W 135 (tSIi numberP):=hok_tSIi D.w allOK_nil (allH_cons (ok_fail D) (allH_cons (ok_take D) allH_nil)) Tryz.func135 rfl (by decide) fun s a=>⟨0,fun K=>(number_raw _ _ 0 s a K).trans (by simp only[numberP,cond_bindo,chk_bind,hdI_bind,hdJ_bind,Option.bind_assoc,Option.bind_some])⟩
theorem ok_kind:FOK NG W 200 (tWi kindP):=fok_tWi D.w (allOK_cons D.idx allOK_nil) allH_nil Tryz.func200 rfl (by decide) fun s=>⟨0,(kind_raw _ 0 s).trans (by simp only[kindP,tyWs,Option.bind_assoc,Option.bind_some])⟩
theorem ok_word:FOK NG W 256 (tWV wordV):=fok_tWV D.w (allOK_cons D.bool allOK_nil) allH_nil Tryz.func256 rfl (by decide) fun s=>⟨0,(word_raw 0 s).trans (by simp only[wordV,wordA,wordZ,cond_bindo,Option.bind_some])⟩
theorem ok_literal:HOK NG W 229 (tSL literalP):=hok_tSL D.w (allOK_cons (ok_word D) allOK_nil) (allH_cons (ok_take D) allH_nil) Tryz.func229 rfl (by decide) fun s=>⟨0,fun K=>(literal_raw _ _ 0 s K).trans (by simp only[literalP,cond_bindo,chk_bind,hdT_bind,Option.bind_assoc,Option.bind_some])⟩
theorem ok_typed:HOK NG W 120 (tSY typedP):=hok_tSY D.w (allOK_cons (ok_kind D) allOK_nil) (allH_cons (ok_fail D) (allH_cons (ok_take D) (allH_cons (ok_wantSign D) (allH_cons (ok_pnumber D) allH_nil)))) Tryz.func120 rfl (by decide) fun s=>⟨0,fun K=>(typed_raw _ _ _ _ _ 0 s K).trans (by simp only[typedP,cond_bindo,chk_bind,hdI_bind,hdS_bind,Option.bind_assoc,Option.bind_some])⟩
end
def wantP (fF:List UInt8→Option (Option Bool×Nat×List PV))(s:PS)(w:List UInt8):Option PS:=(fF w).bind fun r=>(decG 1 stG r.2.1 r.2.2).bind fun l=>bif decide (l.length≤1000000) then wantL l s else none
theorem stC_len (a:List UInt8):(stC a).length=1:=rfl
theorem stG_inv (l:List PV)(a:List UInt8)(h:stG l=some a):l=stC a:=by
 unfold stG at h
 split at h
 ·injection h with h;subst h;rfl
 ·cases h
theorem wa_loop (ff:List UInt8→Option (Option Bool×Nat×List PV))(fu:Nat)(nl:Option Bool)(l:List (List UInt8))(hl:l.length≤1000000)(K:KR):∀ (k i n:Nat) (s:PS),i+k=l.length→k<n →
  waL ff skipP flP fu K n (frWa nl l.length (l.flatMap stC) (l.length:Int) (i:Int) s)=(wantL (l.drop i) s).bind fun s=>K [s.box] (.tuple [])
 |k,i,0,s,_,h=>by omega
 |0,i,n+1,s,hi,hn=>by
  unfold waL
  rw[loopK_succ,wa_step,cond_f (decide_eq_false (by omega)),List.drop_of_length_le (by omega)]
  rfl
 |k+1,i,n+1,s,hi,hn=>by
  have hc:=List.getElem?_eq_getElem (l:=l) (i:=i) (by omega)
  rw[List.drop_eq_getElem_cons (show i<l.length by omega)]
  generalize l[i]=a at hc
  have ih:=fun s=>wa_loop ff fu nl l hl K k (i+1) n s (by omega) (by omega)
  unfold waL at ih ⊢
  rw[loopK_succ,wa_step,cond_t (decide_eq_true (by omega)),chk,cond_t (by rw[decide_eq_true (by omega),decide_eq_true (by omega)];rfl),Int.toNat_natCast,flat_at stC_len hc,wrapI_of (by omega) (by omega)]
  simp only[stC,List.head?_cons,Option.bind_some,PV.asStr,wantL]
  rw[Option.bind_assoc]
  congr 1
  funext r
  rw[cond_bindo,Option.bind_assoc]
  have e:((i:Int)+1)=((i+1:Nat):Int):=by omega
  rw[e]
  congr 1
  ·congr 1
   funext s
   exact ih s
  ·exact ih r.2
structure PF where
 chain:PS→Int→Option (XR×PS)
 neg:PS→Option (XR×PS)
 comp:PS→Option (XR×PS)
 sum:PS→Option (XR×PS)
 fact:PS→Option (XR×PS)
 atom:PS→Option (XR×PS)
 cast:PS→Option (XR×PS)
 call:PS→Option (XR×PS)
 expr:PS→Option (XR×PS)
def chLP (part:PS→Option (XR×PS))(n:Nat):Nat→XR→PS→Option (XR×PS)
 |0,_,_=>none
 |m+1,e,s=>(isP s (levK n) (levW n).length (levW n)).bind fun r=>bif r.1 then (takeP r.2).bind fun t=>(part t.2).bind fun y=>chLP part n m (binX t.1.a t.1.t e y.1) y.2 else some (e,r.2)
def chainQ (P:PF)(n:Nat):PS→Option (XR×PS):=match n with
 |0=>fun s=>P.chain s 1
 |1=>P.neg
 |2=>fun s=>P.chain s 3
 |_=>P.fact
def chainP (P:PF)(s:PS)(a:Int):Option (XR×PS):=if a=0∨a=1∨a=2∨a=3 then (chainQ P a.toNat s).bind fun e=>chLP (chainQ P a.toNat) a.toNat (s.n+2) e.1 e.2 else none
def xs0 (e:XR)(s:PS):Option (XR×PS):=some (e,s)
def pfStep (fF:List UInt8→Option (Option Bool×Nat×List PV))(P:PF):PF where
 chain:=chainP P
 neg := fun s=>(keyP s [78,79,84]).bind fun r=>bif !r.1 then (P.comp r.2).bind fun q=>some (q.1,q.2) else
   deepK flP r.2 (fun s kk=>(takeP s).bind fun t=>(P.neg t.2).bind fun e=>kk (unX t.1.a [78,79,84] e.1) e.2) (fun s=>some (XR.zero,s)) fun x s=>some (x,s)
 fact:=fun s=>(signP s 1 [.str [45]]).bind fun r=>bif !r.1 then (P.atom r.2).bind fun q=>some (q.1,q.2) else
   deepK flP r.2 (fun s kk=>(takeP s).bind fun t=>(P.fact t.2).bind fun e=>kk (unX t.1.a [45] e.1) e.2) (fun s=>some (XR.zero,s)) fun x s=>some (x,s)
 cast:=fun s=>(takeP s).bind fun t=>withinK signP flP takeP wantSignP t.2 (fun s kk=>(P.expr s).bind fun e=>(wantP fF e.2 [65,83]).bind fun s=>(typedP s).bind fun y=>kk (castX t.1.a y.1.1 y.1.2 e.1) y.2) (fun s=>some (XR.zero,s)) fun x s=>some (x,s)
 call:=fun s=>(takeP s).bind fun t=>withinK signP flP takeP wantSignP t.2 (fun s kk=>bif t.1.t==[67,79,85,78,84] then (signP s 1 [.str [42]]).bind fun r=>(bif r.1 then (takeP r.2).bind fun q=>kk (call0 t.1.a t.1.t) q.2 else (P.expr r.2).bind fun e=>kk (callX t.1.a t.1.t e.1) e.2) else (P.expr s).bind fun e=>kk (callX t.1.a t.1.t e.1) e.2)
   (fun s=>some (call0 t.1.a t.1.t,s)) fun x s=>some (x,s)
 atom:=fun s=>(atP s).bind fun a=>(signP a.2 1 [.str [40]]).bind fun r=>bif r.1 then withinK signP flP takeP wantSignP r.2 (fun s kk=>(P.expr s).bind fun e=>kk e.1 e.2) (fun s=>some (XR.zero,s)) (fun x s=>some (x,s)) else
   (keyP r.2 [67,65,83,84]).bind fun r=>bif r.1 then (P.cast r.2).bind fun e=>some (e.1,e.2) else
   (isP r.2 1 4 [.str [67,79,85,78,84],.str [83,85,77],.str [77,73,78],.str [77,65,88]]).bind fun r=>bif r.1 then (P.call r.2).bind fun e=>some (e.1,e.2) else
   (literalP r.2).bind fun v=>bif v.1.ok then some (litX a.1 v.1.vk v.1.vn v.1.vc v.1.vs,v.2) else
   (nameP v.2).bind fun n=>(signP n.2 1 [.str [46]]).bind fun r=>bif r.1 then (takeP r.2).bind fun t=>(nameP t.2).bind fun m=>some (colX a.1 n.1 m.1,m.2) else some (colX a.1 [] n.1,r.2)
 comp:=fun s=>(P.sum s).bind fun e=>(signP e.2 6 cmpW).bind fun r=>bif r.1 then (takeP r.2).bind fun t=>(P.sum t.2).bind fun y=>some (binX t.1.a t.1.t e.1 y.1,y.2) else
   (keyP r.2 [73,83]).bind fun r=>bif !r.1 then some (e.1,r.2) else (takeP r.2).bind fun t=>(skipP t.2 [78,79,84]).bind fun n=>(wantP fF n.2 [78,85,76,76]).bind fun s=>some (nullX t.1.a n.1 e.1,s)
 sum:=fun s=>(P.chain s 2).bind fun e=>some (e.1,e.2)
 expr:=fun s=>(P.chain s 0).bind fun e=>some (e.1,e.2)
def pf0:PF:=⟨fun _ _=>none,fun _=>none,fun _=>none,fun _=>none,fun _=>none,fun _=>none,fun _=>none,fun _=>none,fun _=>none⟩
def pfs (fF:List UInt8→Option (Option Bool×Nat×List PV)):Nat→PF
 |0=>pf0
 |d+1=>pfStep fF (pfs fF d)
theorem ch_eq (P:PF)(n:Nat)(fu:Nat)(K:KR)(hs:∀ (e:XR) (s:PS) (G:St→Option (List (List PV)×PV)),stepK (enCh P.chain P.neg P.fact isP takeP) hCh fu (chKr P.chain P.neg P.fact isP takeP K) fCh [1,1,1,1,1,0,0] (fun _=>none) (frCh n e s) (fun st=>pnorm (hCh.loop.lookup 1) st G) =
   (isP s (levK n) (levW n).length (levW n)).bind fun r=>bif r.1 then (takeP r.2).bind fun t=>(chainQ P n t.2).bind fun y=>G (frCh n (binX t.1.a t.1.t e y.1) y.2) else K [r.2.box] (.agg e.cells)) :
  ∀ (m:Nat) (e:XR) (s:PS) (q:XR×PS),chLP (chainQ P n) n m e s=some q→chL P.chain P.neg P.fact isP takeP fu K m (frCh n e s)=K [q.2.box] (.agg q.1.cells)
 |0,e,s,q,h=>by cases h
 |m+1,e,s,q,h=>by
  unfold chL
  rw[loopK_succ,hs]
  rw[chLP] at h
  obtain⟨r,h1,h⟩:=Option.bind_eq_some_iff.1 h
  rw[h1,Option.bind_some]
  cases hr:r.1 with
  |false =>
   rw[hr,cond_false] at h
   injection h with h
   subst h
   rfl
  |true =>
   rw[hr,cond_true] at h
   obtain⟨t,h2,h⟩:=Option.bind_eq_some_iff.1 h
   obtain⟨y,h3,h⟩:=Option.bind_eq_some_iff.1 h
   rw[cond_true,h2,Option.bind_some,h3,Option.bind_some]
   exact ch_eq P n fu K hs m _ _ q h
theorem hok_chain {NG:Nat}{W:World→Prop}(hW:WOK NG W){P:PF}(hh:AllH NG W (lhCh P.chain P.neg P.fact isP takeP))(hl:FOK NG W 100 vLev):HOK NG W 53 (tSXi (chainP P)) :=
 hok hW (allOK_cons hl allOK_nil) hh allI_nil (h:=hCh) Tryz.func53 rfl (by decide) (tSXi_nat _) fun bs xs r h=>by
  simp only[tSXi] at h
  split at h
  ·rename_i a
   obtain⟨s,hbs,h2⟩:=onPS_inv h
   subst hbs
   obtain⟨q,hq,h3⟩:=Option.bind_eq_some_iff.1 h2
   unfold chainP at hq
   obtain⟨ha,hq⟩:=ite_inv hq
   obtain⟨e,he,hq⟩:=Option.bind_eq_some_iff.1 hq
   refine⟨s.n+2,Eq.trans ?_ h3⟩
   rcases ha with rfl|rfl|rfl|rfl
   ·exact (ch_raw0 P.chain P.neg P.fact isP takeP _ s _).trans (by rw[show P.chain s (IntKind.i64.wrap (0+1))=some e from he,Option.bind_some];exact ch_eq P 0 _ _ (fun e s G=>ch_step0 _ _ _ _ _ _ e s _ G) _ _ _ q hq)
   ·exact (ch_raw1 P.chain P.neg P.fact isP takeP _ s _).trans (by rw[show P.neg s=some e from he,Option.bind_some];exact ch_eq P 1 _ _ (fun e s G=>ch_step1 _ _ _ _ _ _ e s _ G) _ _ _ q hq)
   ·exact (ch_raw2 P.chain P.neg P.fact isP takeP _ s _).trans (by rw[show P.chain s (IntKind.i64.wrap (2+1))=some e from he,Option.bind_some];exact ch_eq P 2 _ _ (fun e s G=>ch_step2 _ _ _ _ _ _ e s _ G) _ _ _ q hq)
   ·exact (ch_raw3 P.chain P.neg P.fact isP takeP _ s _).trans (by rw[show P.fact s=some e from he,Option.bind_some];exact ch_eq P 3 _ _ (fun e s G=>ch_step3 _ _ _ _ _ _ e s _ G) _ _ _ q hq)
  ·cases h
structure POK (NG:Nat)(W:World→Prop)(P:PF):Prop where
 chain:HOK NG W 53 (tSXi P.chain)
 neg:HOK NG W 98 (tSX P.neg)
 comp:HOK NG W 179 (tSX P.comp)
 sum:HOK NG W 224 (tSX P.sum)
 fact:HOK NG W 99 (tSX P.fact)
 atom:HOK NG W 182 (tSX P.atom)
 cast:HOK NG W 227 (tSX P.cast)
 call:HOK NG W 228 (tSX P.call)
 expr:HOK NG W 22 (tSX P.expr)
theorem pok0 {NG:Nat}{W:World→Prop}:POK NG W pf0:=⟨none_tSXi,none_tSX,none_tSX,none_tSX,none_tSX,none_tSX,none_tSX,none_tSX,none_tSX⟩
section
variable {NG:Nat} {W:World→Prop} {fF:List UInt8→Option (Option Bool × Nat × List PV)} (D:PDeps NG W fF)
include D
theorem ok_want:HOK NG W 118 (tSUw (wantP fF)) :=
 hok D.w (allOK_cons D.fields allOK_nil) (allH_cons (ok_skip D) (allH_cons (ok_fail D) allH_nil)) allI_nil (h:=hWa) Tryz.func118 rfl (by decide) (tSUw_nat _) fun bs xs r h=>by
  simp only[tSUw] at h
  split at h
  ·rename_i w
   obtain⟨s,hbs,h2⟩:=onPS_inv h
   subst hbs
   obtain⟨q,hq,h3⟩:=Option.bind_eq_some_iff.1 h2
   unfold wantP at hq
   obtain⟨l0,hl0,hq⟩:=Option.bind_eq_some_iff.1 hq
   obtain⟨l,hl,hq⟩:=Option.bind_eq_some_iff.1 hq
   obtain⟨hle,hq⟩:=bif_inv hq
   obtain⟨e1,e2⟩:=decG_inv stG_inv hl
   refine⟨l.length+1,Eq.trans ?_ h3⟩
   refine (wa_raw fF skipP flP _ s w _).trans ?_
   rw[hl0,Option.bind_some,e1,e2]
   refine (wa_loop fF _ _ l (of_decide_eq_true hle) _ l.length 0 _ s (by omega) (by omega)).trans ?_
   rw[List.drop_zero,hq]
   rfl
  ·cases h
theorem ok_lev:FOK NG W 100 vLev:=evalFn_ok D.w allOK_nil Tryz.func100 rfl (by decide)
theorem ok_deep {ld:List (FuncId×HFn)}(hd:AllH NG W ld):HOK NG W 180 (vDeep flP ld) :=
 evalD_ok D.w allOK_nil (allH_cons (ok_fail D) hd) allI_nil (allD_cons (evalH_dok D.w allOK_nil allH_nil allI_nil Tryz.func225 rfl (by decide)) allD_nil) Tryz.func180 rfl (by decide)
theorem ok_with {ld:List (FuncId×HFn)}(hd:AllH NG W ld):HOK NG W 226 (vWith signP flP takeP wantSignP ld) :=
 evalH_ok D.w allOK_nil (allH_cons (ok_sign D) (allH_cons (ok_fail D) (allH_cons (ok_deep D (allH_cons (evalH_ok D.w allOK_nil (allH_cons (ok_take D) (allH_cons (ok_wantSign D) hd)) allI_nil Tryz.func253 rfl (by decide)) allH_nil)) allH_nil))) allI_nil Tryz.func226 rfl (by decide)
theorem pokS {P:PF}(h:POK NG W P):POK NG W (pfStep fF P) where
 chain:=hok_chain D.w (allH_cons (evalH_ok D.w allOK_nil (allH_cons h.chain allH_nil) allI_nil Tryz.func97 rfl (by decide)) (allH_cons h.neg (allH_cons h.fact (allH_cons (ok_is D) (allH_cons (ok_take D) allH_nil))))) (ok_lev D)
 neg:=hok_tSX D.w allOK_nil (allH_cons (ok_key D) (allH_cons h.comp (allH_cons (ok_deep D (allH_cons (evalH_ok D.w allOK_nil (allH_cons (ok_take D) (allH_cons h.neg allH_nil)) allI_nil Tryz.func181 rfl (by decide)) allH_nil)) allH_nil))) Tryz.func98 rfl (by decide)
  fun s=>⟨0,fun K=>(neg_raw _ _ _ _ _ 0 s K).trans (by simp only[pfStep,deepK,cond_bindo,Option.bind_assoc,Option.bind_some])⟩
 fact:=hok_tSX D.w allOK_nil (allH_cons (ok_sign D) (allH_cons h.atom (allH_cons (ok_deep D (allH_cons (evalH_ok D.w allOK_nil (allH_cons (ok_take D) (allH_cons h.fact allH_nil)) allI_nil Tryz.func183 rfl (by decide)) allH_nil)) allH_nil))) Tryz.func99 rfl (by decide)
  fun s=>⟨0,fun K=>(fact_raw _ _ _ _ _ 0 s K).trans (by simp only[pfStep,deepK,cond_bindo,Option.bind_assoc,Option.bind_some])⟩
 cast:=hok_tSX D.w allOK_nil (allH_cons (ok_take D) (allH_cons (ok_with D (allH_cons (evalH_ok D.w allOK_nil (allH_cons h.expr (allH_cons (ok_want D) (allH_cons (ok_typed D) allH_nil))) allI_nil Tryz.func254 rfl (by decide)) allH_nil)) allH_nil)) Tryz.func227 rfl (by decide)
  fun s=>⟨0,fun K=>(pcast_raw _ _ _ _ _ _ _ 0 s K).trans (by simp only[pfStep,withinK,deepK,cond_bindo,Option.bind_assoc,Option.bind_some])⟩
 call:=hok_tSX D.w allOK_nil (allH_cons (ok_take D) (allH_cons (ok_with D (allH_cons (evalH_ok D.w allOK_nil (allH_cons (ok_sign D) (allH_cons (ok_take D) (allH_cons h.expr allH_nil))) allI_nil Tryz.func255 rfl (by decide)) allH_nil)) allH_nil)) Tryz.func228 rfl (by decide)
  fun s=>⟨0,fun K=>(call_raw _ _ _ _ _ 0 s K).trans (by simp only[pfStep,withinK,deepK,cond_bindo,Option.bind_assoc,Option.bind_some])⟩
 atom:=hok_tSX D.w allOK_nil (allH_cons (ok_at D) (allH_cons (ok_sign D) (allH_cons (ok_with D (allH_cons h.expr allH_nil)) (allH_cons (ok_key D) (allH_cons (ok_is D) (allH_cons h.cast (allH_cons h.call (allH_cons (ok_literal D) (allH_cons (ok_name D) (allH_cons (ok_take D) allH_nil)))))))))) Tryz.func182 rfl (by decide)
  fun s=>⟨0,fun K=>(atom_raw _ _ _ _ _ _ _ _ _ _ _ _ 0 s K).trans (by simp only[pfStep,withinK,deepK,cond_bindo,Option.bind_assoc,Option.bind_some])⟩
 comp:=hok_tSX D.w allOK_nil (allH_cons h.sum (allH_cons (ok_sign D) (allH_cons (ok_take D) (allH_cons (ok_key D) (allH_cons (ok_skip D) (allH_cons (ok_want D) allH_nil)))))) Tryz.func179 rfl (by decide)
  fun s=>⟨0,fun K=>(pcomp_raw _ _ _ _ _ _ 0 s K).trans (by simp only[pfStep,cond_bindo,Option.bind_assoc,Option.bind_some])⟩
 sum:=hok_tSX D.w allOK_nil (allH_cons h.chain allH_nil) Tryz.func224 rfl (by decide)
  fun s=>⟨0,fun K=>(sum_raw _ 0 s K).trans (by simp only[pfStep,Option.bind_assoc,Option.bind_some])⟩
 expr:=hok_tSX D.w allOK_nil (allH_cons h.chain allH_nil) Tryz.func22 rfl (by decide)
  fun s=>⟨0,fun K=>(expr_raw _ 0 s K).trans (by simp only[pfStep,Option.bind_assoc,Option.bind_some])⟩
theorem pok:∀ d,POK NG W (pfs fF d)
 |0=>pok0
 |d+1=>pokS D (pok d)
end
inductive Res (α:Type) where
 |bad (a:Int)
 |ok (x:α) (R:List TR)
def Res.bind {α β:Type}:Res α→(α→List TR→Res β)→Res β
 | .bad a,_=>.bad a
 | .ok x R,k=>k x R
def nxt (e:Int):List TR→Int
 |[]=>e
 |t::_=>t.a
def hdW:List TR→List UInt8
 |[]=>[]
 |t::_=>t.t
def tokIs (a:Int)(ws:List (List UInt8)):List TR→Bool
 |[]=>false
 |t::_=>t.k==a&&conA ws t.t
abbrev wNULL:List UInt8:=[78,85,76,76]
abbrev wTRUE:List UInt8:=[84,82,85,69]
abbrev wFALSE:List UInt8:=[70,65,76,83,69]
abbrev wNOT:List UInt8:=[78,79,84]
abbrev wIS:List UInt8:=[73,83]
abbrev wAS:List UInt8:=[65,83]
abbrev wCAST:List UInt8:=[67,65,83,84]
abbrev wCOUNT:List UInt8:=[67,79,85,78,84]
abbrev wsCall:List (List UInt8):=[wCOUNT,[83,85,77],[77,73,78],[77,65,88]]
abbrev wsCmp:List (List UInt8):=[[61],[60,62],[60],[60,61],[62],[62,61]]
abbrev wsTy:List (List UInt8):=[[],[66,79,79,76],[73,78,84],[68,69,67,73,77,65,76],[84,69,88,84],[66,89,84,69,83]]
abbrev opW (n:Nat):List (List UInt8):=match n with|0=>[[79,82]]|1=>[[65,78,68]]|2=>[[43],[45]]|_=>[[42],[47],[37]]
abbrev opK (n:Nat):Int:=match n with|0=>1|1=>1|_=>3
section
variable (e:Int)
def wantG (a:Int)(w:List UInt8)(T:List TR):Res Unit:=bif tokIs a [w] T then .ok () T.tail else .bad (nxt e T)
def nameG:List TR→Res (List UInt8)
 |[]=>.bad e
 |t::R=>bif t.k==0 then .ok t.t R else .bad t.a
def numG (m:Int):List TR→Res Int
 |[]=>.bad e
 |t::R=>bif t.k==2 then bif t.vk==2 then bif decide (t.vn≤m) then .ok t.vn R else .bad t.a else .bad t.a else .bad t.a
def tyIx (w:List UInt8):Int:=if 0>isI wsTy w 0 then 0 else isI wsTy w 0
def typedG:List TR→Res (Int×Int)
 |[]=>.bad e
 |t::R=>bif t.k==1 then bif tyIx t.t==0 then .bad t.a else bif tyIx t.t==3 then (wantG e 3 [40] R).bind fun _ R=>(numG e 6 R).bind fun n R=>(wantG e 3 [41] R).bind fun _ R=>.ok (tyIx t.t,n) R else .ok (tyIx t.t,0) R else .bad t.a
def litG:List TR→Option VR
 |[]=>none
 |t::_=>bif t.k==2 then some ⟨t.vk,t.vn,t.vc,t.vs,true⟩ else bif t.k==1 then bif t.t==wTRUE then some ⟨1,1,0,[],true⟩ else bif t.t==wFALSE then some ⟨1,0,0,[],true⟩ else bif t.t==wNULL then some ⟨0,0,0,[],true⟩ else none else none
structure GF where
 expr:List TR→Res XR
 neg:List TR→Res XR
 fact:List TR→Res XR
variable (low:Option GF)
def deepG (T:List TR)(body:GF→Res XR):Res XR:=match low with
 |none=>.bad (nxt e T)
 |some G=>body G
def withinG (T:List TR)(body:GF→List TR→Res XR):Res XR :=
 bif tokIs 3 [[40]] T then deepG e low T fun G=>(body G T.tail).bind fun x R=>(wantG e 3 [41] R).bind fun _ R=>.ok x R else .bad (nxt e T)
def castG (T:List TR):Res XR:=withinG e low T.tail fun G R=>(G.expr R).bind fun x R=>(wantG e 1 wAS R).bind fun _ R=>(typedG e R).bind fun y R=>.ok (castX (nxt e T) y.1 y.2 x) R
def callG (T:List TR):Res XR:=withinG e low T.tail fun G R=>bif hdW T==wCOUNT then bif tokIs 3 [[42]] R then .ok (call0 (nxt e T) (hdW T)) R.tail else (G.expr R).bind fun x R=>.ok (callX (nxt e T) (hdW T) x) R else (G.expr R).bind fun x R=>.ok (callX (nxt e T) (hdW T) x) R
def atomG (T:List TR):Res XR :=
 bif tokIs 3 [[40]] T then withinG e low T fun G R=>G.expr R else bif tokIs 1 [wCAST] T then castG e low T else bif tokIs 1 wsCall T then callG e low T else
 match litG T with
 |some v=>.ok (litX (nxt e T) v.vk v.vn v.vc v.vs) T.tail
 |none=>(nameG e T).bind fun n R=>bif tokIs 3 [[46]] R then (nameG e R.tail).bind fun m R=>.ok (colX (nxt e T) n m) R else .ok (colX (nxt e T) [] n) R
def factG (T:List TR):Res XR:=bif tokIs 3 [[45]] T then deepG e low T fun G=>(G.fact T.tail).bind fun x R=>.ok (unX (nxt e T) [45] x) R else atomG e low T
def loopG (n:Nat)(part:List TR→Res XR):Nat→XR→List TR→Res XR
 |0,x,T=>.ok x T
 |m+1,x,T=>bif tokIs (opK n) (opW n) T then (part T.tail).bind fun y R=>loopG n part m (binX (nxt e T) (hdW T) x y) R else .ok x T
def levG (n:Nat)(part:List TR→Res XR)(T:List TR):Res XR:=(part T).bind (loopG e n part 5000)
def mulG:List TR→Res XR:=levG e 3 (factG e low)
def sumG:List TR→Res XR:=levG e 2 (mulG e low)
def cmpG (x:XR)(T:List TR):Res XR :=
 bif tokIs 3 wsCmp T then (sumG e low T.tail).bind fun y R=>.ok (binX (nxt e T) (hdW T) x y) R else
 bif tokIs 1 [wIS] T then (wantG e 1 wNULL (bif tokIs 1 [wNOT] T.tail then T.tail.tail else T.tail)).bind fun _ R=>.ok (nullX (nxt e T) (tokIs 1 [wNOT] T.tail) x) R else .ok x T
def compG (T:List TR):Res XR:=(sumG e low T).bind fun x R=>cmpG e low x R
def negG (T:List TR):Res XR:=bif tokIs 1 [wNOT] T then deepG e low T fun G=>(G.neg T.tail).bind fun x R=>.ok (unX (nxt e T) wNOT x) R else compG e low T
def andG:List TR→Res XR:=levG e 1 (negG e low)
def exprG:List TR→Res XR:=levG e 0 (andG e low)
end
def gfs (e:Int):Nat→Option GF
 |0=>none
 |k+1=>some ⟨exprG e (gfs e k),negG e (gfs e k),factG e (gfs e k)⟩
def greatB:List UInt8→Bool
 |[]=>false
 |c::_=>decide (65≤c.toNat)&&decide (c.toNat≤90)
structure TOKs (T:List TR):Prop where
 len:T.length≤5000
 at0:∀ t∈T,0≤t.a
 key:∀ t∈T,t.k=1→greatB t.t=true
 sign:∀ t∈T,t.k=3→greatB t.t=false
theorem TOKs.suf {T R:List TR}(h:TOKs T)(hs:R <:+ T):TOKs R:=⟨Nat.le_trans hs.length_le h.len,fun t ht=>h.at0 t (hs.subset ht),fun t ht=>h.key t (hs.subset ht),fun t ht=>h.sign t (hs.subset ht)⟩
theorem TOKs.tail {T:List TR}(h:TOKs T):TOKs T.tail:=h.suf (List.tail_suffix T)
theorem TOKs.nxt0 {e:Int}(he:0≤e){T:List TR}(h:TOKs T):0≤nxt e T:=by
 cases T with
 |nil=>exact he
 |cons t R=>exact h.at0 t (List.mem_cons_self ..)
def PG (e:Int)(nl:Option Bool)(o:Int)(T:List TR):PS:=⟨nl,T.length,T.flatMap TR.cells,e,o,-1⟩
def PB (e o a:Int):PS:=⟨some true,0,[],e,o,a⟩
def BadP {α:Type}(e o a:Int)(r:Option (α×PS)):Prop:=∃ y,r=some (y,PB e o a)
def SpecP {α:Type}(e:Int)(nl:Option Bool)(o:Int)(T:List TR)(g:Res α)(r:Option (α×PS)):Prop:=match g with
 | .bad a=>0≤a∧BadP e o a r
 | .ok x R=>R <:+ T∧r=some (x,PG e nl o R)
structure FSpec {α:Type}(e o:Int)(f:PS→Option (α×PS))(g:List TR→Res α):Prop where
 good:∀ nl T,TOKs T→SpecP e nl o T (g T) (f (PG e nl o T))
 badd:∀ a,0≤a→BadP e o a (f (PB e o a))
theorem BadP.ret {α:Type}{e o a:Int}(x:α):BadP e o a (some (x,PB e o a)):=⟨x,rfl⟩
theorem BadP.bind {α β:Type}{e o o' a:Int}{r:Option (α×PS)}{k:α×PS→Option (β×PS)}(h:BadP e o a r)(hk:∀ x,BadP e o' a (k (x,PB e o a))):BadP e o' a (r.bind k):=by
 obtain⟨y,rfl⟩:=h
 exact hk y
theorem SpecP.bind {α β:Type}{e:Int}{nl:Option Bool}{o o':Int}{T:List TR}{g:Res α}{r:Option (α×PS)}{kg:α→List TR→Res β}{k:α×PS→Option (β×PS)}
  (h:SpecP e nl o T g r) (hk:∀ x R,R <:+ T→SpecP e nl o' R (kg x R) (k (x,PG e nl o R))) (hb:∀ x a,0≤a→BadP e o' a (k (x,PB e o a))):SpecP e nl o' T (g.bind kg) (r.bind k):=by
 cases g with
 |bad a =>
  obtain⟨ha,y,rfl⟩:=h
  exact⟨ha,hb y a ha⟩
 |ok x R =>
  obtain⟨hs,rfl⟩:=h
  have:=hk x R hs
  simp only[Res.bind,Option.bind_some]
  unfold SpecP at this ⊢
  split at this
  ·exact this
  ·exact⟨this.1.trans hs,this.2⟩
theorem SpecP.ret {α:Type}{e:Int}{nl:Option Bool}{o:Int}{T:List TR}(x:α):SpecP e nl o T (.ok x T) (some (x,PG e nl o T)):=⟨List.suffix_rfl,rfl⟩
theorem SpecP.suf {α:Type}{e:Int}{nl:Option Bool}{o:Int}{T R:List TR}{g:Res α}{r:Option (α×PS)}(h:SpecP e nl o R g r)(hs:R <:+ T):SpecP e nl o T g r:=by
 unfold SpecP at h ⊢
 split at h
 ·exact h
 ·exact⟨h.1.trans hs,h.2⟩
theorem map_bind {β:Type}{r:Option PS}{k:PS→Option β}:r.bind k=(r.map fun s=>((),s)).bind fun q=>k q.2:=by cases r<;>rfl
section
variable {e:Int} {nl:Option Bool} {o:Int}
theorem atP_g (T:List TR):atP (PG e nl o T)=some (nxt e T,PG e nl o T):=by
 cases T with
 |nil=>rfl
 |cons t R =>
  unfold atP
  rw[cond_f (by rfl),chk,cond_t (by simp[PG])]
  rfl
theorem atP_b (a:Int):atP (PB e o a)=some (e,PB e o a):=rfl
theorem flP_g (T:List TR):flP (PG e nl o T)=some (PB e o (nxt e T)):=by
 unfold flP
 rw[atP_g]
 rfl
theorem flP_b {a:Int}(ha:0≤a):flP (PB e o a)=some (PB e o a):=by
 unfold flP
 rw[atP_b,Option.bind_some]
 unfold failAtP
 rw[cond_f (by exact decide_eq_false (by show ¬ a<0;omega))]
 rfl
theorem lt_cons (t:TR)(R:List TR):(decide ((0:Int)≤0)&&decide ((0:Int)<(PG e nl o (t::R)).n))=true:=by simp[PG]
theorem isP_g {a:Int}{n:Nat}{ws:List PV}{l:List (List UInt8)}(hd:decG 1 stG n ws=some l)(hl:decide (l.length≤1000000)=true)(T:List TR):isP (PG e nl o T) a n ws=some (tokIs a l T,PG e nl o T):=by
 cases T with
 |nil=>rfl
 |cons t R =>
  unfold isP
  rw[cond_t (by simp[PG]),chk,lt_cons,cond_true,chk,cond_true]
  show (bif t.k==a then (conN n ws t.t).bind fun r=>some (r,PG e nl o (t::R)) else some (false,PG e nl o (t::R)))=_
  unfold conN
  rw[tokIs,hd,Option.bind_some,hl,cond_true,Option.bind_some]
  cases t.k==a<;>rfl
theorem isP_b {a b:Int}{n:Nat}{ws:List PV}:isP (PB e o b) a n ws=some (false,PB e o b):=rfl
theorem keyP_g (w:List UInt8)(T:List TR):keyP (PG e nl o T) w=some (tokIs 1 [w] T,PG e nl o T):=by
 unfold keyP
 rw[isP_g (l:=[w]) rfl rfl]
 rfl
theorem keyP_b {w:List UInt8}{b:Int}:keyP (PB e o b) w=some (false,PB e o b):=rfl
theorem signP_g {n:Nat}{ws:List PV}{l:List (List UInt8)}(hd:decG 1 stG n ws=some l)(hl:decide (l.length≤1000000)=true)(T:List TR):signP (PG e nl o T) n ws=some (tokIs 3 l T,PG e nl o T):=by
 unfold signP
 rw[isP_g hd hl]
 rfl
theorem signP_b {n:Nat}{ws:List PV}{b:Int}:signP (PB e o b) n ws=some (false,PB e o b):=rfl
theorem cells_len (t:TR):t.cells.length=7:=rfl
theorem takeP_g (t:TR)(R:List TR):takeP (PG e nl o (t::R))=some (t,PG e nl o R):=by
 unfold takeP
 rw[cond_f (by rfl),chk,lt_cons,cond_true]
 show chk (decide ((0:Int)≤1)&&decide ((1:Int)≤((t::R).length:Nat))) (some (t,(⟨nl,R.length+1-1,(((t::R).flatMap TR.cells).take ((R.length+1) * 7)).drop (1 * 7),e,o,-1⟩:PS)))=_
 rw[chk,cond_t (by simp;omega),List.take_of_length_le (by
  have:∀ l:List TR,(l.flatMap TR.cells).length=l.length * 7:=fun l=>by
   induction l with
   |nil=>rfl
   |cons a l ih=>rw[List.flatMap_cons,List.length_append,ih,cells_len,List.length_cons];omega
  rw[this,List.length_cons]
  exact Nat.le_refl _),List.flatMap_cons]
 rfl
theorem tok_cons {a:Int}{ws:List (List UInt8)}{T:List TR}(h:tokIs a ws T=true):∃ t R,T=t::R:=by
 cases T with
 |nil=>cases h
 |cons t R=>exact⟨t,R,rfl⟩
theorem takeP_t {a:Int}{ws:List (List UInt8)}{T:List TR}(h:tokIs a ws T=true):∃ t,takeP (PG e nl o T)=some (t,PG e nl o T.tail)∧t.a=nxt e T∧t.t=hdW T:=by
 obtain⟨t,R,rfl⟩:=tok_cons h
 exact⟨t,takeP_g t R,rfl,rfl⟩
theorem skipP_g (w:List UInt8)(T:List TR):skipP (PG e nl o T) w=some (tokIs 1 [w] T,PG e nl o (bif tokIs 1 [w] T then T.tail else T)):=by
 unfold skipP
 rw[keyP_g,Option.bind_some]
 cases h:tokIs 1 [w] T with
 |false=>rfl
 |true =>
  obtain⟨t,ht,-⟩:=takeP_t (e:=e) (nl:=nl) (o:=o) h
  simp only[Bool.not_true,cond_false,ht,Option.bind_some,cond_true]
theorem skipP_b {w:List UInt8}{b:Int}:skipP (PB e o b) w=some (false,PB e o b):=rfl
theorem wantSign_g (he:0≤e)(w:List UInt8){T:List TR}(hT:TOKs T):SpecP e nl o T (wantG e 3 w T) ((wantSignP (PG e nl o T) w).map fun s=>((),s)):=by
 unfold wantSignP wantG
 rw[signP_g (l:=[w]) rfl rfl,Option.bind_some]
 cases h:tokIs 3 [w] T with
 |false =>
  rw[show (bif !(false,PG e nl o T).1 then (flP (false,PG e nl o T).2).bind fun s=>some s else (takeP (false,PG e nl o T).2).bind fun q=>some q.2)=(flP (PG e nl o T)).bind fun s=>some s from rfl,flP_g]
  exact⟨hT.nxt0 he,(),rfl⟩
 |true =>
  obtain⟨t,ht,-⟩:=takeP_t (e:=e) (nl:=nl) (o:=o) h
  simp only[Bool.not_true,cond_false,ht,Option.bind_some,cond_true]
  exact⟨List.tail_suffix T,rfl⟩
theorem wantSign_b {w:List UInt8}{a:Int}(ha:0≤a):wantSignP (PB e o a) w=some (PB e o a):=by
 unfold wantSignP
 rw[signP_b,Option.bind_some]
 simp only[Bool.not_false,cond_true,flP_b ha,Option.bind_some]
def FieldsAs (fF:List UInt8→Option (Option Bool×Nat×List PV))(w:List UInt8):Prop:=∃ nl,fF w=some (nl,1,[.str w])
variable {fF:List UInt8→Option (Option Bool × Nat × List PV)}
theorem want_eq {w:List UInt8}(h:FieldsAs fF w)(s:PS):wantP fF s w=(skipP s w).bind fun r=>bif !r.1 then (flP r.2).bind fun s=>some s else some r.2:=by
 obtain⟨nl,h⟩:=h
 unfold wantP
 rw[h]
 rfl
theorem want_g (he:0≤e){w:List UInt8}(h:FieldsAs fF w){T:List TR}(hT:TOKs T):SpecP e nl o T (wantG e 1 w T) ((wantP fF (PG e nl o T) w).map fun s=>((),s)):=by
 rw[want_eq h,skipP_g,Option.bind_some]
 unfold wantG
 cases h:tokIs 1 [w] T with
 |false =>
  simp only[Bool.not_false,cond_true,cond_false,flP_g,Option.bind_some]
  exact⟨hT.nxt0 he,(),rfl⟩
 |true =>
  simp only[Bool.not_true,cond_true,cond_false]
  exact⟨List.tail_suffix T,rfl⟩
theorem want_b {w:List UInt8}(h:FieldsAs fF w){a:Int}(ha:0≤a):wantP fF (PB e o a) w=some (PB e o a):=by
 rw[want_eq h,skipP_b,Option.bind_some]
 simp only[Bool.not_false,cond_true,flP_b ha,Option.bind_some]
theorem name_spec (he:0≤e):FSpec e o nameP (nameG e) where
 good:=fun nl T hT=>by
  cases T with
  |nil=>exact⟨he,[],rfl⟩
  |cons t R =>
   unfold nameP
   rw[cond_t (by rfl),chk,lt_cons,cond_true,nameG]
   show SpecP e nl o (t::R) _ (bif t.k != 0 then (flP (PG e nl o (t::R))).bind fun s=>some ([],s) else (takeP (PG e nl o (t::R))).bind fun q=>some (q.1.t,q.2))
   rw[flP_g,takeP_g]
   cases h:t.k==0 with
   |true=>rw[bne,h];exact⟨List.suffix_cons t R,rfl⟩
   |false=>rw[bne,h];exact⟨hT.at0 t (List.mem_cons_self ..),[],rfl⟩
 badd:=fun a ha=>⟨[],by unfold nameP;rw[cond_f (by rfl),flP_b ha];rfl⟩
theorem num_spec (he:0≤e)(m:Int):FSpec e o (fun s=>numberP s m) (numG e m) where
 good := fun nl T hT=>by
  cases T with
  |nil=>exact⟨he,0,rfl⟩
  |cons t R =>
   unfold numberP
   rw[cond_t (by rfl),chk,lt_cons,cond_true,numG]
   show SpecP e nl o (t::R) _ (bif !(t.k != 2) then (bif !(t.vk != 2) then (bif decide (m<t.vn) then (flP (PG e nl o (t::R))).bind fun s=>some (0,s) else (takeP (PG e nl o (t::R))).bind fun q=>some (q.1.vn,q.2)) else (flP (PG e nl o (t::R))).bind fun s=>some (0,s)) else (flP (PG e nl o (t::R))).bind fun s=>some (0,s))
   rw[flP_g,takeP_g]
   have hb:SpecP e nl o (t::R) (.bad t.a) (some ((0:Int),PB e o (nxt e (t::R)))):=⟨hT.at0 t (List.mem_cons_self ..),0,rfl⟩
   cases h:t.k==2 with
   |false=>rw[bne,h];exact hb
   |true =>
    cases h1:t.vk==2 with
    |false=>rw[bne,h,bne,h1];exact hb
    |true =>
     rw[bne,h,bne,h1]
     by_cases h2:t.vn≤m
     ·rw[decide_eq_true h2,decide_eq_false (by omega)]
      exact⟨List.suffix_cons t R,rfl⟩
     ·rw[decide_eq_false h2,decide_eq_true (by omega)]
      exact hb
 badd:=fun a ha=>⟨0,by show numberP _ _=_;unfold numberP;rw[cond_f (by rfl),flP_b ha];rfl⟩
theorem kindP_eq (w:List UInt8):kindP w=some (tyIx w):=rfl
theorem typed_spec (he:0≤e):FSpec e o typedP (typedG e) where
 good := fun nl T hT=>by
  cases T with
  |nil=>exact⟨he,(0,0),rfl⟩
  |cons t R =>
   unfold typedP
   rw[cond_t (by rfl),chk,lt_cons,cond_true,typedG]
   show SpecP e nl o (t::R) _ (bif !(t.k != 1) then ((kindP t.t).bind fun j=>bif j==0 then (flP (PG e nl o (t::R))).bind fun s=>some ((0,0),s) else
    (takeP (PG e nl o (t::R))).bind fun q=>(kindP q.1.t).bind fun j=>bif j==3 then (wantSignP q.2 [40]).bind fun s=>(numberP s 6).bind fun m=>(wantSignP m.2 [41]).bind fun s=>some ((j,m.1),s) else some ((j,0),q.2)) else (flP (PG e nl o (t::R))).bind fun s=>some ((0,0),s))
   rw[flP_g,takeP_g]
   simp only[kindP_eq,Option.bind_some]
   have hb:SpecP e nl o (t::R) (.bad t.a) (some (((0:Int),(0:Int)),PB e o (nxt e (t::R)))):=⟨hT.at0 t (List.mem_cons_self ..),_,rfl⟩
   cases h:t.k==1 with
   |false=>rw[bne,h];exact hb
   |true =>
    rw[bne,h]
    cases h1:tyIx t.t==0 with
    |true=>exact hb
    |false =>
     cases h3:tyIx t.t==3 with
     |false=>exact⟨List.suffix_cons t R,rfl⟩
     |true =>
      have hR:=hT.suf (List.suffix_cons t R)
      simp only[Bool.not_true,Bool.not_false,cond_true,cond_false]
      rw[map_bind]
      refine SpecP.suf (SpecP.bind (wantSign_g he [40] hR) (fun _ R1 h1=>?_) (fun _ a ha=>?_)) (List.suffix_cons t R)
      ·refine SpecP.bind ((num_spec he 6).good nl R1 (hR.suf h1)) (fun m R2 h2=>?_) (fun m a ha=>?_)
       ·rw[map_bind]
        refine SpecP.bind (wantSign_g he [41] ((hR.suf h1).suf h2)) (fun _ R3 h3=>SpecP.ret _) (fun _ a ha=>BadP.ret _)
       ·rw[map_bind,wantSign_b ha]
        exact BadP.ret _
      ·refine BadP.bind ((num_spec he 6).badd a ha) fun m=>?_
       rw[map_bind,wantSign_b ha]
       exact BadP.ret _
 badd:=fun a ha=>⟨(0,0),by unfold typedP;rw[cond_f (by rfl),flP_b ha];rfl⟩
theorem wordV_eq (w:List UInt8):wordV w=some (bif w==wTRUE then ⟨1,1,0,[],true⟩ else bif w==wFALSE then ⟨1,0,0,[],true⟩ else ⟨0,0,0,[],w==wNULL⟩):=by
 unfold wordV
 cases w==wTRUE with
 |true=>rfl
 |false=>cases w==wFALSE<;>rfl
theorem literal_g (T:List TR):literalP (PG e nl o T)=some (match litG T with|some v=>(v,PG e nl o T.tail)|none=>(⟨0,0,0,[],false⟩,PG e nl o T)):=by
 cases T with
 |nil=>rfl
 |cons t R =>
  unfold literalP
  rw[cond_f (by rfl),chk,lt_cons,cond_true]
  show (bif t.k==2 then (takeP (PG e nl o (t::R))).bind fun q=>some ((⟨t.vk,t.vn,t.vc,t.vs,true⟩:VR),q.2) else
   (wordV t.t).bind fun v=>bif (bif t.k != 1 then true else !v.ok) then some ((⟨0,0,0,[],false⟩:VR),PG e nl o (t::R)) else (takeP (PG e nl o (t::R))).bind fun q=>some ((⟨v.vk,v.vn,v.vc,v.vs,true⟩:VR),q.2))=_
  rw[takeP_g,wordV_eq,litG]
  cases h2:t.k==2 with
  |true=>rfl
  |false =>
   cases h1:t.k==1 with
   |false=>rw[bne,h1];rfl
   |true =>
    rw[bne,h1]
    cases t.t==wTRUE with
    |true=>rfl
    |false =>
     cases t.t==wFALSE with
     |true=>rfl
     |false=>cases t.t==wNULL<;>rfl
theorem literal_b {a:Int}:literalP (PB e o a)=some (⟨0,0,0,[],false⟩,PB e o a):=rfl
theorem litG_ok {T:List TR}{v:VR}(h:litG T=some v):v.ok=true∧∃ t R,T=t::R:=by
 cases T with
 |nil=>cases h
 |cons t R =>
  refine⟨?_,t,R,rfl⟩
  rw[litG] at h
  cases h2:t.k==2 with
  |true=>rw[h2] at h;injection h with h;subst h;rfl
  |false =>
   rw[h2] at h
   cases h1:t.k==1 with
   |false=>rw[h1] at h;cases h
   |true =>
    rw[h1] at h
    cases h3:t.t==wTRUE with
    |true=>rw[h3] at h;injection h with h;subst h;rfl
    |false =>
     rw[h3] at h
     cases h4:t.t==wFALSE with
     |true=>rw[h4] at h;injection h with h;subst h;rfl
     |false =>
      rw[h4] at h
      cases h5:t.t==wNULL with
      |true=>rw[h5] at h;injection h with h;subst h;rfl
      |false=>rw[h5] at h;cases h
end
inductive TX where
 |mk (k:Int) (op:List UInt8) (vk vn vc:Int) (vs tb nm:List UInt8) (nt:Bool) (tk ts:Int) (kids:List TX)
def xrG (cs:List PV):Option XR:=onXR (.agg cs) some
theorem xrG_of (x:XR):xrG x.cells=some x:=rfl
theorem xrG_inv (c:List PV)(x:XR)(h:xrG c=some x):c=x.cells:=by
 obtain⟨e,h1,h2⟩:=onXR_inv h
 injection h1 with h1
 injection h2 with h2
 subst h2
 exact h1
theorem xr_len (x:XR):x.cells.length=13:=rfl
def smX (x:XR):Bool:=decide (x.vs.length≤1000000)&&(decide (x.tb.length≤1000000)&&(decide (x.nm.length≤1000000)&&decide (x.kn≤1000000)))
def er:Nat→XR→Option TX
 |0,_=>none
 |d+1,x=>bif smX x then (decG 13 xrG x.kn x.kc).bind fun l=>(mapO (er d) l).map fun ks=>.mk x.k x.op x.vk x.vn x.vc x.vs x.tb x.nm x.nt x.tk x.ts ks else none
def Alk (x y:XR):Prop:=∀ d,er d x=er d y
theorem Alk.symm {x y:XR}(h:Alk x y):Alk y x:=fun d=>(h d).symm
theorem Alk.trans {x y z:XR}(h:Alk x y)(k:Alk y z):Alk x z:=fun d=>(h d).trans (k d)
theorem mapO_cons {α β:Type}(f:α→Option β)(x:α)(l:List α):mapO f (x::l)=(f x).bind fun y=>(mapO f l).bind fun ys=>some (y::ys):=by
 rw[mapO]
 cases f x with
 |none=>rfl
 |some y=>cases mapO f l<;>rfl
theorem kid1 (x:XR):decG 13 xrG 1 x.cells=some [x]:=by
 have:=decG_of xr_len xrG_of [x]
 rwa [List.flatMap_cons,List.flatMap_nil,List.append_nil] at this
theorem kid2 (x y:XR):decG 13 xrG 2 (x.cells++y.cells)=some [x,y]:=by
 have:=decG_of xr_len xrG_of [x,y]
 rwa [List.flatMap_cons,List.flatMap_cons,List.flatMap_nil,List.append_nil] at this
theorem Alk.lit {a b vk vn vc:Int}{vs:List UInt8}:Alk (litX a vk vn vc vs) (litX b vk vn vc vs):=fun d=>by cases d<;>rfl
def shT (c:Int)(t:TR):TR:=⟨t.k,t.a+c,t.t,t.vk,t.vn,t.vc,t.vs⟩
structure ZOK (Z:List TR):Prop where
 no1:∀ ws,tokIs 1 ws Z=false
 no3:∀ ws,conA ws [41]=false→tokIs 3 ws Z=false
section
variable (c:Int) (Z:List TR)
def ExtAt {α:Type}(ρ:α→α→Prop)(r r':Res α):Prop:=∀ x R,r=.ok x R→∃ x',r'=.ok x' (R.map (shT c)++Z)∧ρ x x'
def ExtG {α:Type}(ρ:α→α→Prop)(g g':List TR→Res α):Prop:=∀ T,ExtAt c Z ρ (g T) (g' (T.map (shT c)++Z))
def LowE (low low':Option GF):Prop:=∀ G,low=some G→∃ G',low'=some G'∧ExtG c Z Alk G.expr G'.expr∧ExtG c Z Alk G.neg G'.neg∧ExtG c Z Alk G.fact G'.fact
end
section
variable {c:Int} {Z:List TR}
theorem ExtAt.bad {α:Type}{ρ:α→α→Prop}{a:Int}{r':Res α}:ExtAt c Z ρ (.bad a) r':=fun x R h=>by cases h
theorem ExtAt.ok {α:Type}{ρ:α→α→Prop}{x x':α}{R:List TR}(h:ρ x x'):ExtAt c Z ρ (.ok x R) (.ok x' (R.map (shT c)++Z)):=fun y Q hy=>by
 injection hy with h1 h2
 subst h1 h2
 exact⟨x',rfl,h⟩
theorem ExtAt.bind {α β:Type}{ρ:α→α→Prop}{σ:β→β→Prop}{r r':Res α}{k k':α→List TR→Res β}(h:ExtAt c Z ρ r r')(hk:∀ x x' R,ρ x x'→ExtAt c Z σ (k x R) (k' x' (R.map (shT c)++Z))) :
  ExtAt c Z σ (r.bind k) (r'.bind k'):=fun y Q hy=>by
 cases r with
 |bad a=>cases hy
 |ok x R =>
  obtain⟨x',h1,h2⟩:=h x R rfl
  rw[h1]
  exact hk x x' R h2 y Q hy
variable (hZ:ZOK Z) {e e':Int}
variable {low low':Option GF} (hl:LowE c Z low low')
include hZ hl
omit hl in
omit hl in
omit hl in
end
theorem er_mono:∀ {d:Nat} {x:XR} {t:TX},er d x=some t→er (d+1) x=some t
 |0,x,t,h=>by cases h
 |d+1,x,t,h=>by
  rw[er] at h ⊢
  obtain⟨h0,h⟩:=bif_inv h
  obtain⟨l,h1,h⟩:=Option.bind_eq_some_iff.1 h
  obtain⟨ts,h2,h3⟩:=Option.map_eq_some_iff.1 h
  rw[h0,cond_true,h1,Option.bind_some,mapO_le (fun x y hxy=>er_mono hxy) h2,← h3]
  rfl
theorem er_le {d d':Nat}(h:d≤d'){x:XR}{t:TX}(he:er d x=some t):er d' x=some t:=by
 obtain⟨k,rfl⟩:=Nat.le.dest h
 clear h
 induction k with
 |zero=>exact he
 |succ k ih=>exact er_mono ih
def Has (d:Nat)(x:XR):Prop:=∃ t,er d x=some t
theorem Has.le {d d':Nat}(h:d≤d'){x:XR}(hx:Has d x):Has d' x:=let ⟨t,ht⟩:=hx;⟨t,er_le h ht⟩
theorem Has.of1 {d:Nat}{x y:XR}(h:Has d x)(hs:smX y=true)(h1:decG 13 xrG y.kn y.kc=some [x]):Has (d+1) y:=by
 obtain⟨t,ht⟩:=h
 refine⟨.mk y.k y.op y.vk y.vn y.vc y.vs y.tb y.nm y.nt y.tk y.ts [t],?_⟩
 rw[er,hs,cond_true,h1,Option.bind_some,mapO_cons,ht]
 rfl
theorem Has.of2 {d:Nat}{x z y:XR}(h:Has d x)(k:Has d z)(hs:smX y=true)(h1:decG 13 xrG y.kn y.kc=some [x,z]):Has (d+1) y:=by
 obtain⟨t,ht⟩:=h
 obtain⟨u,hu⟩:=k
 refine⟨.mk y.k y.op y.vk y.vn y.vc y.vs y.tb y.nm y.nt y.tk y.ts [t,u],?_⟩
 rw[er,hs,cond_true,h1,Option.bind_some,mapO_cons,ht,Option.bind_some,mapO_cons,hu]
 rfl
theorem Has.un {d:Nat}{a:Int}{op:List UInt8}{x:XR}(h:Has d x):Has (d+1) (unX a op x):=h.of1 (by rfl) (kid1 x)
theorem Has.null {d:Nat}{a:Int}{nt:Bool}{x:XR}(h:Has d x):Has (d+1) (nullX a nt x):=h.of1 (by rfl) (kid1 x)
theorem Has.cast {d:Nat}{a tk ts:Int}{x:XR}(h:Has d x):Has (d+1) (castX a tk ts x):=h.of1 (by rfl) (kid1 x)
theorem Has.call {d:Nat}{a:Int}{op:List UInt8}{x:XR}(h:Has d x):Has (d+1) (callX a op x):=h.of1 (by rfl) (kid1 x)
theorem Has.bin {d:Nat}{a:Int}{op:List UInt8}{x y:XR}(h:Has d x)(k:Has d y):Has (d+1) (binX a op x y):=h.of2 k (by rfl) (kid2 x y)
theorem Has.call0 {a:Int}{op:List UInt8}:Has 1 (call0 a op):=⟨_,rfl⟩
theorem Has.leaf {y:XR}(hs:smX y=true)(h1:decG 13 xrG y.kn y.kc=some []):Has 1 y:=by
 refine⟨.mk y.k y.op y.vk y.vn y.vc y.vs y.tb y.nm y.nt y.tk y.ts [],?_⟩
 rw[er,hs,cond_true,h1]
 rfl
def Sml (T:List TR):Prop:=∀ t∈T,t.t.length≤1000000∧t.vs.length≤1000000
theorem Sml.tail {T:List TR}(h:Sml T):Sml T.tail:=fun t ht=>h t (List.mem_of_mem_tail ht)
def EP (T:List TR)(r:Res XR):Prop:=∀ x R,r=.ok x R→Has (T.length-R.length) x∧R.length<T.length∧Sml R
def EQ {α:Type}(T:List TR)(P:α→Prop)(r:Res α):Prop:=∀ x R,r=.ok x R→P x∧R.length<T.length∧Sml R
theorem EP.bad {T:List TR}{a:Int}:EP T (.bad a):=fun x R h=>by cases h
theorem EQ.bad {α:Type}{T:List TR}{P:α→Prop}{a:Int}:EQ T P (.bad a:Res α):=fun x R h=>by cases h
theorem EP.ok {T R:List TR}{x:XR}(h:Has (T.length-R.length) x)(hl:R.length<T.length)(hs:Sml R):EP T (.ok x R):=fun y Q hy=>by
 injection hy with h1 h2
 subst h1 h2
 exact⟨h,hl,hs⟩
theorem EQ.ok {α:Type}{T R:List TR}{P:α→Prop}{x:α}(h:P x)(hl:R.length<T.length)(hs:Sml R):EQ T P (.ok x R):=fun y Q hy=>by
 injection hy with h1 h2
 subst h1 h2
 exact⟨h,hl,hs⟩
theorem EP.bind {T T':List TR}{r:Res XR}{k:XR→List TR→Res XR}(h:EP T r)(hk:∀ x R,Has (T.length-R.length) x→R.length<T.length→Sml R→EP T' (k x R)):EP T' (r.bind k):=fun y Q hy=>by
 cases r with
 |bad a=>cases hy
 |ok x R =>
  obtain⟨h1,h2,h3⟩:=h x R rfl
  exact hk x R h1 h2 h3 y Q hy
theorem EQ.bindP {α:Type}{T T':List TR}{P:α→Prop}{r:Res α}{k:α→List TR→Res XR}(h:EQ T P r)(hk:∀ x R,P x→R.length<T.length→Sml R→EP T' (k x R)):EP T' (r.bind k):=fun y Q hy=>by
 cases r with
 |bad a=>cases hy
 |ok x R =>
  obtain⟨h1,h2,h3⟩:=h x R rfl
  exact hk x R h1 h2 h3 y Q hy
theorem EQ.bind {α β:Type}{T T':List TR}{P:α→Prop}{S:β→Prop}{r:Res α}{k:α→List TR→Res β}(h:EQ T P r)(hk:∀ x R,P x→R.length<T.length→Sml R→EQ T' S (k x R)):EQ T' S (r.bind k):=fun y Q hy=>by
 cases r with
 |bad a=>cases hy
 |ok x R =>
  obtain⟨h1,h2,h3⟩:=h x R rfl
  exact hk x R h1 h2 h3 y Q hy
theorem EP.bif {T:List TR}{b:Bool}{r s:Res XR}(h1:b=true→EP T r)(h2:b=false→EP T s):EP T (bif b then r else s):=by
 cases b with
 |true=>exact h1 rfl
 |false=>exact h2 rfl
theorem EQ.bif {α:Type}{T:List TR}{P:α→Prop}{b:Bool}{r s:Res α}(h1:b=true→EQ T P r)(h2:b=false→EQ T P s):EQ T P (bif b then r else s):=by
 cases b with
 |true=>exact h1 rfl
 |false=>exact h2 rfl
theorem tok_tl {a:Int}{ws:List (List UInt8)}{T:List TR}(h:tokIs a ws T=true):T.tail.length+1=T.length:=by
 obtain⟨t,R,rfl⟩:=tok_cons h
 rfl
section
variable {e:Int}
theorem want_p (a:Int)(w:List UInt8){T:List TR}(hs:Sml T):EQ T (fun _=>True) (wantG e a w T):=by
 unfold wantG
 refine EQ.bif (fun h=>EQ.ok trivial ?_ hs.tail) (fun _=>EQ.bad)
 have:=tok_tl h
 omega
theorem name_p {T:List TR}(hs:Sml T):EQ T (fun n=>n.length≤1000000) (nameG e T):=by
 cases T with
 |nil=>exact EQ.bad
 |cons t R=>exact EQ.bif (fun _=>EQ.ok (hs t (List.mem_cons_self ..)).1 (Nat.lt_succ_self _) hs.tail) (fun _=>EQ.bad)
theorem num_p (m:Int){T:List TR}(hs:Sml T):EQ T (fun _=>True) (numG e m T):=by
 cases T with
 |nil=>exact EQ.bad
 |cons t R=>exact EQ.bif (fun _=>EQ.bif (fun _=>EQ.bif (fun _=>EQ.ok trivial (Nat.lt_succ_self _) hs.tail) (fun _=>EQ.bad)) (fun _=>EQ.bad)) (fun _=>EQ.bad)
theorem typed_p {T:List TR}(hs:Sml T):EQ T (fun _=>True) (typedG e T):=by
 cases T with
 |nil=>exact EQ.bad
 |cons t R =>
  refine EQ.bif (fun _=>EQ.bif (fun _=>EQ.bad) (fun _=>EQ.bif (fun _=>?_) (fun _=>EQ.ok trivial (Nat.lt_succ_self _) hs.tail))) (fun _=>EQ.bad)
  refine EQ.bind (want_p 3 [40] hs.tail) fun _ R1 _ h1 s1=>EQ.bind (num_p 6 s1) fun n R2 _ h2 s2=>EQ.bind (want_p 3 [41] s2) fun _ R3 _ h3 s3=>EQ.ok trivial ?_ s3
  simp only[List.tail_cons,List.length_cons] at h1 ⊢
  omega
variable {low:Option GF} (hl:∀ G,low=some G→∀ T,Sml T→EP T (G.expr T)∧EP T (G.neg T)∧EP T (G.fact T))
include hl
theorem deep_p {T T':List TR}{b:GF→Res XR}(hb:∀ G,(∀ T,Sml T→EP T (G.expr T)∧EP T (G.neg T)∧EP T (G.fact T))→EP T' (b G)):EP T' (deepG e low T b):=by
 unfold deepG
 cases low with
 |none=>exact EP.bad
 |some G=>exact hb G (hl G rfl)
theorem within_p {T:List TR}(hs:Sml T){b:GF→List TR→Res XR}{m:Nat}(hb:∀ G,(∀ T,Sml T→EP T (G.expr T)∧EP T (G.neg T)∧EP T (G.fact T))→∀ R,Sml R→∀ x Q,b G R=.ok x Q→Has (R.length-Q.length+m) x∧Q.length<R.length∧Sml Q)(hm:m≤2):EP T (withinG e low T b):=by
 unfold withinG
 refine EP.bif (fun h=>?_) (fun _=>EP.bad)
 have ht:=tok_tl h
 refine deep_p hl fun G hG=>?_
 intro y Q hy
 cases hr:b G T.tail with
 |bad a=>rw[hr] at hy;cases hy
 |ok x R1 =>
  rw[hr] at hy
  obtain⟨h1,h2,h3⟩:=hb G hG T.tail hs.tail x R1 hr
  have hw:=want_p (e:=e) 3 [41] h3
  simp only[Res.bind] at hy
  cases hq:wantG e 3 [41] R1 with
  |bad a=>rw[hq] at hy;cases hy
  |ok u R2 =>
   rw[hq] at hy
   obtain⟨-,h4,h5⟩:=hw u R2 hq
   injection hy with e1 e2
   subst e1 e2
   exact⟨h1.le (by omega),by omega,h5⟩
theorem cast_p {T:List TR}(hs:Sml T):EP T (castG e low T):=by
 unfold castG
 have key:EP T.tail (withinG e low T.tail fun G R=>(G.expr R).bind fun x R=>(wantG e 1 wAS R).bind fun _ R=>(typedG e R).bind fun y R=>.ok (castX (nxt e T) y.1 y.2 x) R):=by
  refine within_p hl hs.tail (m:=1) (fun G hG R hR x Q hx=>?_) (by omega)
  have:EP R ((G.expr R).bind fun x R=>(wantG e 1 wAS R).bind fun _ R=>(typedG e R).bind fun y R=>.ok (castX (nxt e T) y.1 y.2 x) R):=by
   refine EP.bind (hG R hR).1 fun x R1 h1 l1 s1=>EQ.bindP (want_p 1 wAS s1) fun _ R2 _ l2 s2=>EQ.bindP (typed_p s2) fun y R3 _ l3 s3=>EP.ok ?_ (by omega) s3
   exact h1.cast.le (by omega)
  obtain⟨a,b,c⟩:=this x Q hx
  exact⟨a.le (by omega),b,c⟩
 intro x R hx
 obtain⟨a,b,c⟩:=key x R hx
 have:T.tail.length≤T.length:=by simp
 exact⟨a.le (by omega),by omega,c⟩
theorem call_p {T:List TR}(hs:Sml T):EP T (callG e low T):=by
 unfold callG
 have key:EP T.tail (withinG e low T.tail fun G R=>bif hdW T==wCOUNT then bif tokIs 3 [[42]] R then .ok (call0 (nxt e T) (hdW T)) R.tail else (G.expr R).bind fun x R=>.ok (callX (nxt e T) (hdW T) x) R else (G.expr R).bind fun x R=>.ok (callX (nxt e T) (hdW T) x) R):=by
  refine within_p hl hs.tail (m:=1) (fun G hG R hR x Q hx=>?_) (by omega)
  have hc:∀ x Q,((G.expr R).bind fun x R=>.ok (callX (nxt e T) (hdW T) x) R:Res XR)=.ok x Q→Has (R.length-Q.length+1) x∧Q.length<R.length∧Sml Q:=fun x Q hx=>by
   cases hr:G.expr R with
   |bad a=>rw[hr] at hx;cases hx
   |ok y R1 =>
    rw[hr] at hx
    obtain⟨h1,h2,h3⟩:=(hG R hR).1 y R1 hr
    injection hx with e1 e2
    subst e1 e2
    exact⟨h1.call,h2,h3⟩
  cases h1:hdW T==wCOUNT with
  |false=>rw[h1,cond_false] at hx;exact hc x Q hx
  |true =>
   rw[h1,cond_true] at hx
   cases h2:tokIs 3 [[42]] R with
   |false=>rw[h2,cond_false] at hx;exact hc x Q hx
   |true =>
    rw[h2,cond_true] at hx
    injection hx with e1 e2
    subst e1 e2
    have:=tok_tl h2
    exact⟨Has.call0.le (by omega),by omega,hR.tail⟩
 intro x R hx
 obtain⟨a,b,c⟩:=key x R hx
 have:T.tail.length≤T.length:=by simp
 exact⟨a.le (by omega),by omega,c⟩
theorem atom_p {T:List TR} (hs:Sml T):EP T (atomG e low T):=by
  unfold atomG
  refine EP.bif (fun _=>within_p hl hs (m:=0) (fun G hG R hR x Q hx=>(hG R hR).1 x Q hx) (by omega)) (fun _=>EP.bif (fun _=>cast_p hl hs) (fun _=>EP.bif (fun _=>call_p hl hs) (fun _=>?_)))
  cases T with
  | nil=>exact EP.bad
  | cons t R =>
    cases hlit:litG (t :: R) with
    | some v =>
      refine EP.ok ?_ (Nat.lt_succ_self _) hs.tail
      have hv : v.vs.length≤1000000:=by
        rw [litG] at hlit
        cases h2:t.k == 2 with
        | true=>rw [h2] at hlit;injection hlit with hlit;subst hlit;exact (hs t (List.mem_cons_self ..)).2
        | false =>
          rw [h2] at hlit
          cases h1:t.k == 1 with
          | false=>rw [h1] at hlit;cases hlit
          | true =>
            rw [h1] at hlit
            cases h3:t.t == wTRUE with
            | true=>rw [h3] at hlit;injection hlit with hlit;subst hlit;exact Nat.zero_le _
            | false =>
              rw [h3] at hlit
              cases h4:t.t == wFALSE with
              | true=>rw [h4] at hlit;injection hlit with hlit;subst hlit;exact Nat.zero_le _
              | false =>
                rw [h4] at hlit
                cases h5:t.t == wNULL with
                | true=>rw [h5] at hlit;injection hlit with hlit;subst hlit;exact Nat.zero_le _
                | false=>rw [h5] at hlit;cases hlit
      refine (Has.leaf ?_ rfl).le (by simp)
      unfold smX litX
      simp only [Bool.and_eq_true,decide_eq_true_eq]
      exact ⟨hv,Nat.zero_le _,Nat.zero_le _,Nat.zero_le _⟩
    | none =>
      have hcol:∀ (tb nm:List UInt8),tb.length≤1000000→nm.length≤1000000→Has 1 (colX (nxt e (t :: R)) tb nm):=fun tb nm h1 h2=>by
        refine Has.leaf ?_ rfl
        unfold smX colX
        simp only [Bool.and_eq_true,decide_eq_true_eq]
        exact ⟨Nat.zero_le _,h1,h2,Nat.zero_le _⟩
      refine EQ.bindP (name_p hs) fun n R1 h1 l1 s1=>EP.bif (fun h=>?_) (fun _=>EP.ok ((hcol [] n (Nat.zero_le _) h1).le (by omega)) l1 s1)
      have:=tok_tl h
      refine EQ.bindP (name_p s1.tail) fun m R2 h2 l2 s2=>EP.ok ((hcol n m h1 h2).le (by omega)) (by omega) s2
theorem fact_p {T:List TR}(hs:Sml T):EP T (factG e low T):=by
 unfold factG
 refine EP.bif (fun h=>deep_p hl fun G hG=>?_) (fun _=>atom_p hl hs)
 have:=tok_tl h
 exact EP.bind (hG _ hs.tail).2.2 fun x R h1 l1 s1=>EP.ok (h1.un.le (by omega)) (by omega) s1
omit hl in
theorem loop_p {n:Nat}{p:List TR→Res XR}(hp:∀ T,Sml T→EP T (p T))(T:List TR):∀ (m:Nat) (x:XR) (R:List TR),Has (T.length-R.length) x→R.length<T.length→Sml R→EP T (loopG e n p m x R)
 |0,x,R,h,l,s=>EP.ok h l s
 |m+1,x,R,h,l,s=>by
  unfold loopG
  refine EP.bif (fun ht=>?_) (fun _=>EP.ok h l s)
  have:=tok_tl ht
  refine EP.bind (hp _ s.tail) fun y R1 h1 l1 s1=>loop_p hp T m _ R1 ?_ (by omega) s1
  exact ((h.le (d':=T.length-R1.length-1) (by omega)).bin (h1.le (by omega))).le (by omega)
omit hl in
theorem lev_p {n:Nat}{p:List TR→Res XR}(hp:∀ T,Sml T→EP T (p T)){T:List TR}(hs:Sml T):EP T (levG e n p T):=by
 unfold levG
 exact EP.bind (hp T hs) fun x R h l s=>loop_p hp T _ x R h l s
theorem mul_p {T:List TR}(hs:Sml T):EP T (mulG e low T):=lev_p (fun T hs=>fact_p hl hs) hs
theorem sum_p {T:List TR}(hs:Sml T):EP T (sumG e low T):=lev_p (fun T hs=>mul_p hl hs) hs
theorem comp_p {T:List TR}(hs:Sml T):EP T (compG e low T):=by
 unfold compG
 refine EP.bind (sum_p hl hs) fun x R h l s=>?_
 unfold cmpG
 refine EP.bif (fun ht=>?_) (fun _=>EP.bif (fun ht=>?_) (fun _=>EP.ok h l s))
 ·have:=tok_tl ht
  refine EP.bind (sum_p hl s.tail) fun y R1 h1 l1 s1=>EP.ok ?_ (by omega) s1
  exact ((h.le (d':=T.length-R1.length-1) (by omega)).bin (h1.le (by omega))).le (by omega)
 ·have:=tok_tl ht
  have key:∀ Q:List TR,Sml Q→Q.length<R.length→EP T ((wantG e 1 wNULL Q).bind fun _ R1=>.ok (nullX (nxt e R) (tokIs 1 [wNOT] R.tail) x) R1):=fun Q hQ lQ =>
   EQ.bindP (want_p 1 wNULL hQ) fun _ R1 _ l1 s1=>EP.ok (h.null.le (by omega)) (by omega) s1
  cases h2:tokIs 1 [wNOT] R.tail with
  |true =>
   rw[h2] at key
   rw[cond_true]
   exact key _ s.tail.tail (by have:=tok_tl h2;omega)
  |false =>
   rw[h2] at key
   rw[cond_false]
   exact key _ s.tail (by omega)
theorem neg_p {T:List TR}(hs:Sml T):EP T (negG e low T):=by
 unfold negG
 refine EP.bif (fun h=>deep_p hl fun G hG=>?_) (fun _=>comp_p hl hs)
 have:=tok_tl h
 exact EP.bind (hG _ hs.tail).2.1 fun x R h1 l1 s1=>EP.ok (h1.un.le (by omega)) (by omega) s1
theorem and_p {T:List TR}(hs:Sml T):EP T (andG e low T):=lev_p (fun T hs=>neg_p hl hs) hs
theorem expr_p {T:List TR}(hs:Sml T):EP T (exprG e low T):=lev_p (fun T hs=>and_p hl hs) hs
end
theorem gfs_p (e:Int):∀ (k:Nat) (G:GF),gfs e k=some G→∀ T,Sml T→EP T (G.expr T)∧EP T (G.neg T)∧EP T (G.fact T)
 |0,G,h=>by cases h
 |k+1,G,h=>fun T hs=>by
  rw[gfs] at h
  injection h with h
  subst h
  have ih:=gfs_p e k
  exact⟨expr_p ih hs,neg_p ih hs,fact_p ih hs⟩
end Go.Proofs.YtkpfigikffphdaaGreatDoor
end
section
set_option maxRecDepth 1000000
namespace Go.Proofs.YtkpfigikffphdaaGreatDoor
open Go.RowKit Go.Lib
set_option maxHeartbeats 1000000 in
theorem cmp_isNaN_s (x:ByteArray) (w:World):Calls Tryz.prog 251 #[.string x] w fun e w'=>e=.returned (.bool false)∧w'=w:=by
 go_enter Tryz.func251,Tryz.ntmps251
 go_wp2
 go_ret
 exact⟨by simp,rfl⟩
set_option maxHeartbeats 1000000 in
theorem sl_isNaN_s (x:ByteArray) (w:World):Calls Tryz.prog 222 #[.string x] w fun e w'=>e=.returned (.bool false)∧w'=w:=by
 go_enter Tryz.func222,Tryz.ntmps222
 go_wp2
 go_ret
 exact⟨by simp,rfl⟩
set_option maxHeartbeats 1000000 in
theorem cmp_Less_s (x y:ByteArray) (w:World):Calls Tryz.prog 221 #[.string x,.string y] w fun e w'=>e=.returned (.bool (Op.bytesLess x.toList y.toList))∧w'=w:=by
 go_enter Tryz.func221,Tryz.ntmps221
 go_wp2_with (go_at_call 251;refine (cmp_isNaN_s _ _).mono ?_;rintro e w' ⟨rfl,rfl⟩)
 go_ret
 exact⟨rfl,rfl⟩
set_option maxHeartbeats 4000000 in
set_option maxRecDepth 1000000 in
theorem bsearch_s (b off n c:Nat) (Sx:Nat→ByteArray) (x:ByteArray) (w:World) (hbig:n<4611686018427387904) (hc:∀ j,j<n→w.cell? ⟨b,off+j,none⟩=some (.string (Sx j))) :
    Calls Tryz.prog 175 #[.slice (some ⟨b,off,none⟩) n c,.string x] w fun e w' =>
      e=.returned (.tuple #[.int .i64 (Lib.bsGo (fun t=>Op.bytesLess (Sx t).toList x.toList) n 0 n:Nat),.bool (decide (Lib.bsGo (fun t=>Op.bytesLess (Sx t).toList x.toList) n 0 n<n∧Sx (Lib.bsGo (fun t=>Op.bytesLess (Sx t).toList x.toList) n 0 n)=x))])∧∃ q,w'=w.drewN q:=by
  have mixed:=Go.Proofs.YtkpfigikffphdaaGreatDoor.mixed
  obtain⟨I,hI⟩:∃ I,Lib.bsGo (fun t=>Op.bytesLess (Sx t).toList x.toList) n 0 n=I:=⟨_,rfl⟩
  rw[hI]
  go_enter Tryz.func175,Tryz.ntmps175
  go_wp2
  go_loopg [7,8] n (fun g s7 s8 wr=>∃ lo hi q:Nat,s7=.int .i64 lo∧s8=.int .i64 hi∧lo≤hi∧hi≤n∧hi-lo≤g∧wr=w.drewN q∧Lib.bsGo (fun t=>Op.bytesLess (Sx t).toList x.toList) g lo hi=I)
  case atStart=>exact⟨0,n,0,rfl,rfl,Nat.zero_le _,Nat.le_refl _,by omega,rfl,hI⟩
  case round =>
    obtain⟨lo,hi,q,rfl,rfl,hlh,hin,hg,rfl,hb⟩:=hrel
    by_cases hlt:lo<hi
    · have cm:w.cell? ⟨b,off+(lo+hi)/2,none⟩=some (.string (Sx ((lo+hi)/2))):=hc _ (by omega)
      clear hc
      obtain⟨g',rfl⟩:∃ g',gk=g'+1:=⟨gk-1,by omega⟩
      simp only[Lib.bsGo,hlt,if_true] at hb
      obtain⟨y,hy⟩:∃ y,Sx ((lo+hi)/2)=y:=⟨_,rfl⟩
      rw[hy] at cm
      simp only[hy] at hb
      cases hyx:Op.bytesLess y.toList x.toList<;>simp only[hyx,if_true,Bool.false_eq_true,if_false] at hb
      · go_wp2_with (first|(go_at_call 221;refine (cmp_Less_s _ _ _).mono ?_;rintro e w' ⟨rfl,rfl⟩)|(go_at_call 222;refine (sl_isNaN_s _ _).mono ?_;rintro e w' ⟨rfl,rfl⟩))
        go_roundg ((lo+hi)/2-lo)
        case measure=>omega
        case rel=>exact⟨lo,(lo+hi)/2,_,rfl,by rw[show ((lo:Int)+(hi:Int))/2=(((lo+hi)/2:Nat):Int) by omega],by omega,by omega,Nat.le_refl _,rfl,by rw[← hb];exact Lib.bsGo_fuel _ _ _ _ _ (Nat.le_refl _) (by omega)⟩
      · go_wp2_with (first|(go_at_call 221;refine (cmp_Less_s _ _ _).mono ?_;rintro e w' ⟨rfl,rfl⟩)|(go_at_call 222;refine (sl_isNaN_s _ _).mono ?_;rintro e w' ⟨rfl,rfl⟩))
        go_roundg (hi-((lo+hi)/2+1))
        case measure=>omega
        case rel=>exact⟨(lo+hi)/2+1,hi,_,by rw[show ((lo:Int)+(hi:Int))/2+1=(((lo+hi)/2+1:Nat):Int) by omega],rfl,by omega,hin,Nat.le_refl _,rfl,by rw[← hb];exact Lib.bsGo_fuel _ _ _ _ _ (Nat.le_refl _) (by omega)⟩
    · have : hi=lo:=by omega
      subst this
      have hIe:I=hi:=by
        rw[← hb]
        cases gk<;>simp[Lib.bsGo]
      by_cases hn:hi<n
      · have cl:w.cell? ⟨b,off+hi,none⟩=some (.string (Sx hi)):=hc _ hn
        clear hc hb hI
        obtain⟨y,hy⟩:∃ y,Sx hi=y:=⟨_,rfl⟩
        rw[hy] at cl
        by_cases hyx:y=x
        · go_wp2_with (first|(go_at_call 221;refine (cmp_Less_s _ _ _).mono ?_;rintro e w' ⟨rfl,rfl⟩)|(go_at_call 222;refine (sl_isNaN_s _ _).mono ?_;rintro e w' ⟨rfl,rfl⟩))
          go_ret2
          refine⟨?_,_,rfl⟩
          try rw[hIe]
          rw[hy,decide_eq_true (show hi<n∧y=x from ⟨hn,hyx⟩)]
          first|rfl|simp[*]
        · have hne:(y.toList==x.toList)=false:=by
            rw[beq_eq_false_iff_ne]
            intro h
            apply hyx
            rw[Lib.toList_data,Lib.toList_data] at h
            cases y with
            |mk yd=>cases x with
              |mk xd=>exact congrArg ByteArray.mk (Array.toList_inj.1 h)
          go_wp2_with (first|(go_at_call 221;refine (cmp_Less_s _ _ _).mono ?_;rintro e w' ⟨rfl,rfl⟩)|(go_at_call 222;refine (sl_isNaN_s _ _).mono ?_;rintro e w' ⟨rfl,rfl⟩))
          all_goals
            (go_ret2
             refine⟨?_,_,rfl⟩
             try rw[hIe]
             rw[hy,decide_eq_false (show ¬ (hi<n∧y=x) from fun h=>hyx h.2)]
             first|rfl|simp[*])
      · clear hc hb hI
        go_wp2_with (first|(go_at_call 221;refine (cmp_Less_s _ _ _).mono ?_;rintro e w' ⟨rfl,rfl⟩)|(go_at_call 222;refine (sl_isNaN_s _ _).mono ?_;rintro e w' ⟨rfl,rfl⟩))
        go_ret2
        refine⟨?_,_,rfl⟩
        try rw[hIe]
        rw[decide_eq_false (show ¬ (hi<n∧Sx hi=x) from fun h=>hn h.1)]
        first|rfl|simp[*]
def strOf:PV→List UInt8
 | .str s=>s
 |_=>[]
def isStr:PV→Bool
 | .str _=>true
 |_=>false
def strAt (keys:List PV)(t:Nat):List UInt8:=strOf (keys.getD t .undef)
def placeI (keys:List PV)(x:List UInt8):Nat:=Lib.bsGo (fun t=>Op.bytesLess (strAt keys t) x) keys.length 0 keys.length
theorem str_cells {M:Mem}{keys:List PV}{cs:List Value}(hr:RelL M keys cs)(hs:keys.all isStr=true){t:Nat}(ht:t<keys.length):cs[t]? = some (.string ⟨(strAt keys t).toArray⟩):=by
 obtain⟨u,h1,_,h3⟩:=hr.get (List.getElem?_eq_getElem ht)
 rw[h1]
 have:=List.all_eq_true.1 hs _ (List.getElem_mem ht)
 unfold strAt
 rw[List.getD_eq_getElem?_getD,List.getElem?_eq_getElem ht,Option.getD_some]
 revert h3 this
 cases keys[t]<;>intro h3 h4<;>simp only[isStr,RelD,strOf,Bool.false_eq_true] at h3 h4 ⊢
 rw[h3]
theorem tl_mk (s:List UInt8):(ByteArray.mk s.toArray).toList=s:=by rw[Lib.toList_data]
theorem below_drewN (w:World)(q B:Nat):Below B w (w.drewN q):=⟨rfl,rfl,rfl,Nat.le_refl _,fun _ _=>rfl⟩
def p_bs:PFn:=⟨fun xs k=>match xs with|[.sl _ 1 n keys,.str x]=>bif keys.all isStr&&(decide (keys.length=n)&&(decide (0<n)&&decide (n≤1000000))) then k (.tuple [.int .i64 (placeI keys x:Nat),.bool (decide (placeI keys x<n)&&strAt keys (placeI keys x)==x)]) else none|_=>none,false⟩
theorem ok_bs {NG:Nat}{W:World→Prop}:FOK NG W 175 p_bs:=by
 refine fok_calls Tryz.func175 (by kernel_rfl) (by decide) ?_ rfl ?_
 ·intro R xs k
  simp only[p_bs]
  split
  ·rename_i n keys x
   rcases (keys.all isStr&&(decide (keys.length=n)&&(decide (0<n)&&decide (n≤1000000)))) with _|_<;>rfl
  ·rfl
 ·intro xs r M vs hW h hr
  simp only[p_bs] at h
  split at h
  ·rename_i nl n keys x
   rcases hb:(keys.all isStr&&(decide (keys.length=n)&&(decide (0<n)&&decide (n≤1000000)))) with _|_<;>rw[hb] at h
   ·cases h
   simp only[cond_true,Option.some.injEq] at h
   subst h
   simp only[Bool.and_eq_true,decide_eq_true_eq] at hb
   obtain⟨b1,rfl,b3,b4⟩:=hb
   obtain⟨v,u,rfl,g1,g2⟩:=relT2 hr
   simp only[RelD] at g1 g2
   subst g2
   obtain⟨A,c,cs,rfl,j1,j2,j3,j4,j5,j6,j7⟩:=g1
   have hl:=j6.length
   obtain rfl|⟨b,o,rfl,hat⟩:=j7
   ·simp only[List.length_nil] at hl;omega
   have key:=bsearch_s b o keys.length c (fun t=>⟨(strAt keys t).toArray⟩) ⟨x.toArray⟩ M.w (by omega) (fun j hj=>(hat j _ (str_cells j6 b1 hj)).1)
   simp only[tl_mk] at key
   refine key.mono ?_
   rintro e w' ⟨rfl,q,rfl⟩
   refine⟨_,rfl,below_drewN _ _ _,fun U' hm=>?_⟩
   simp only[RelD,RelT]
   refine⟨[_,_],rfl,_,_,rfl,rfl,_,_,rfl,?_,rfl⟩
   show Value.bool _=Value.bool _
   congr 1
   show decide (placeI keys x<keys.length∧(⟨(strAt keys (placeI keys x)).toArray⟩:ByteArray)=⟨x.toArray⟩)=_
   rw[Bool.eq_iff_iff]
   simp
  ·cases h
end Go.Proofs.YtkpfigikffphdaaGreatDoor
end
section
namespace Go.Proofs.YtkpfigikffphdaaGreatDoor
open Go.RowKit
def NGd:Nat:=3+1
noncomputable def Wd (w:World):Prop:=Lib.TabIs Tryz.prog w "internal/strconv.uint64pow10" .u64 Lib.pow10Tab
theorem gPow:Tryz.prog.globalNamed "internal/strconv.uint64pow10" = some 3:=by kernel_rfl
theorem wd_size {w:World}(h:Wd w):NGd≤w.heap.size:=by
 unfold Wd Lib.TabIs World.var? at h
 rw[gPow] at h
 simp only[Option.bind_some] at h
 unfold NGd
 rcases e:w.heap[3]? with _|o
 ·rw[e] at h;cases h
 ·exact (Array.getElem?_eq_some_iff.1 e).1
theorem wokd:WOK NGd Wd:=by
 intro w w' h hW
 have hg:Tryz.prog.globalNamed "internal/strconv.uint64pow10" = some 3:=by kernel_rfl
 unfold Wd Lib.TabIs World.var? at hW ⊢
 rw[hg] at hW ⊢
 rw[← hW]
 simp only[Option.bind_some]
 rw[h _ (of_decide_eq_true (by kernel_rfl))]
theorem cond_nat {R:Type}{b:Bool}{x:PV}{k:PV→Option R}:(bif b then k x else none)=(bif b then some x else none).bind k:=by cases b<;>rfl
def firstIx (c:Int):Nat→List UInt8→Int
 |_,[]=>-1
 |i,x::xs=>bif decide ((x.toNat:Int)=c) then (i:Int) else firstIx c (i+1) xs
theorem find_range (s:ByteArray)(c:UInt8):∀ (l:List UInt8) (i:Nat),(∀ j,j<l.length→s[i+j]! = l.getD j 0)→(match (List.range' i l.length).find? fun i=>s[i]! == c with|some i=>(i:Int)|none=>-1)=firstIx c.toNat i l
 |[],i,h=>rfl
 |x::l,i,h=>by
  have h0:=h 0 (by simp)
  simp only[Nat.add_zero,List.getD_cons_zero] at h0
  simp only[List.length_cons,List.range'_succ,List.find?_cons,h0,firstIx]
  by_cases e:x=c
  ·subst e
   simp
  ·have e2:(x==c)=false:=by simpa using e
   have e3:¬ ((x.toNat:Int)=(c.toNat:Int)):=fun h=>e (UInt8.toNat_inj.1 (by omega))
   rw[e2,decide_eq_false e3]
   simp only[cond_false]
   have:=find_range s c l (i+1) (fun j hj=>by have:=h (j+1) (by simpa using hj);simpa [Nat.add_assoc,Nat.add_comm 1 j] using this)
   exact this
theorem firstIdx_eq (l:List UInt8)(c:UInt8):firstIdx ⟨l.toArray⟩ c=firstIx c.toNat 0 l:=by
 unfold firstIdx
 have:=find_range ⟨l.toArray⟩ c l 0 (fun j hj=>by
  rw[Nat.zero_add]
  have hs:j<(⟨l.toArray⟩:ByteArray).size:=by simpa [ByteArray.size] using hj
  rw[getElem!_pos (⟨l.toArray⟩:ByteArray) j hs]
  simp[ByteArray.getElem_eq_getElem_data,List.getD,hj])
 rw[← List.range_eq_range'] at this
 rw[← this]
 rfl
def p_IndexByteString:PFn:=⟨fun xs k=>match xs with
 |[.str s,.int .u8 c]=>bif decide (0≤c)&&decide (c≤255) then k (.int .i64 (firstIx c 0 s)) else none
 |_=>none,false⟩
theorem ok_IndexByteString:FOK NGd Wd 304 p_IndexByteString:=by
 refine fok_ext ?_ rfl ?_
 ·intro R xs k
  simp only[p_IndexByteString]
  split
  ·exact cond_nat
  ·rfl
 ·intro xs r M vs h hr
  simp only[p_IndexByteString] at h
  split at h
  ·rename_i s c
   rcases hb:(decide (0≤c)&&decide (c≤255)) with _|_<;>rw[hb] at h
   ·cases h
   ·simp only[cond_true,Option.some.injEq] at h
    subst h
    simp only[Bool.and_eq_true,decide_eq_true_eq] at hb
    obtain⟨v,u,rfl,h1,h2⟩:=relT2 hr
    simp only[RelD] at h1 h2
    subst h1 h2
    refine⟨_,?_,rfl⟩
    rw[run_callFunc_extern Tryz.func304 (by kernel_rfl) (by kernel_rfl) (by kernel_rfl) (e:=Extern.BytealgIndexByte.indexByte) (by kernel_rfl)]
    show ((Extern.BytealgIndexByte.indexByte #[.string ⟨s.toArray⟩,.int .u8 c]).run _ _).andThen _=_
    rw[run_indexByte_string,firstIdx_eq]
    have e:((c.toNat.toUInt8).toNat:Int)=c:=by
     simp
     omega
    rw[e]
    rfl
  ·cases h
def decD:Nat→Nat→List UInt8
 |0,_=>[]
 |k+1,u=>bif decide (u<10) then [UInt8.ofNat (48+u)] else decD k (u/10)++[UInt8.ofNat (48+u%10)]
theorem decD_eq:∀ (k u:Nat),u<10^(k+1)→decD (k+1) u=Lib.decDigits u
 |k,u,h=>by
  rw[Lib.decDigits,decD]
  by_cases hu:u<10
  ·rw[decide_eq_true hu,dif_pos hu];rfl
  ·rw[decide_eq_false hu,dif_neg hu,cond_false]
   match k,h with
   |0,h=>omega
   |k+1,h=>rw[decD_eq k (u/10) (by rw[Nat.pow_succ] at h;omega)]
def itoaD (n:Int):List UInt8:=bif decide (n<0) then 45::decD 20 n.natAbs else decD 20 n.toNat
theorem itoaD_eq (n:Int)(h0:-9223372036854775808≤n)(h1:n≤9223372036854775807):itoaD n=Lib.itoa n:=by
 unfold itoaD Lib.itoa
 by_cases h:n<0
 ·rw[decide_eq_true h,if_pos h,cond_true,decD_eq 19 _ (by omega)]
 ·rw[decide_eq_false h,if_neg h,cond_false,decD_eq 19 _ (by omega)]
def p_Itoa:PFn:=⟨fun xs k=>match xs with
 |[.int .i64 n]=>bif decide (-9223372036854775808≤n)&&decide (n≤9223372036854775807) then k (.str (itoaD n)) else none
 |_=>none,false⟩
theorem ok_Itoa:FOK NGd Wd 89 p_Itoa:=by
 refine fok_calls Tryz.func89 (by kernel_rfl) (by decide) ?_ rfl ?_
 ·intro R xs k
  simp only[p_Itoa]
  split
  ·exact cond_nat
  ·rfl
 ·intro xs r M vs hW h hr
  simp only[p_Itoa] at h
  split at h
  ·rename_i n
   rcases hb:(decide (-9223372036854775808≤n)&&decide (n≤9223372036854775807)) with _|_<;>rw[hb] at h
   ·cases h
   ·simp only[cond_true,Option.some.injEq] at h
    subst h
    simp only[Bool.and_eq_true,decide_eq_true_eq] at hb
    obtain⟨v,rfl,h1⟩:=relT1 hr
    simp only[RelD] at h1
    subst h1
    refine (Any.strconv_Itoa Tryz.laysM171 n hb.1 hb.2 M.w hW).mono ?_
    rintro e w' ⟨rfl,k,os,rfl⟩
    refine⟨_,rfl,?_,fun U' _=>?_⟩
    ·exact (Go.below_drewN (Below.refl _ _) k).trans ⟨rfl,rfl,rfl,by simp[Sort.grow],fun b hb=>by simp only[Sort.grow];rw[Array.getElem?_append_left (Nat.lt_of_lt_of_le hb (Go.below_drewN (Below.refl M.w.heap.size _) k).size)]⟩
    ·simp only[RelD]
     rw[itoaD_eq n hb.1 hb.2]
  ·cases h
end Go.Proofs.YtkpfigikffphdaaGreatDoor
namespace Go.Proofs.YtkpfigikffphdaaGreatDoor
open Go.RowKit
def cmpI (a b:Int):Int:=bif decide (a<b) then -1 else bif decide (b<a) then 1 else 0
def N2 (h l:Int):Int:=h * 18446744073709551616+l
def hiI (n:Int):Int:=n/18446744073709551616%18446744073709551616
def loI (n:Int):Int:=n%18446744073709551616
end Go.Proofs.YtkpfigikffphdaaGreatDoor
namespace Go.Proofs.YtkpfigikffphdaaGreatDoor
open Go.RowKit
theorem v1 {q:Nat}:hiI (2 * q)=hiI (2 * q+1:Nat):=by unfold hiI;omega
theorem v2 {q:Nat}:loI (2 * q)+1=loI (2 * q+1:Nat):=by unfold loI;omega
theorem v3 {r b:Nat}(hb:b≤1):N2 (hiI (2 * r)) (loI (2 * r)+b)=(2 * (r:Int)+b)%340282366920938463463374607431768211456:=by unfold N2 hiI loI;omega
theorem v4 {y:Int}{z:Nat}(h:(y-z)%340282366920938463463374607431768211456=0):hiI y=hiI z∧loI y=loI z:=by unfold hiI loI;omega
theorem v5 {r b:Nat}(hb:b≤1):hiI (2 * r)=hiI (2 * r+b:Nat):=by unfold hiI;omega
end Go.Proofs.YtkpfigikffphdaaGreatDoor
namespace Go.Proofs.YtkpfigikffphdaaGreatDoor
open Go.RowKit
theorem w1 {q:Int}:IntKind.u64.wrap (hiI q+(loI q+1+0)/18446744073709551616)=hiI (q+1):=by rw[wrapU];unfold hiI loI;omega
theorem w2 {q:Int}:(loI q+1+0)%18446744073709551616=loI (q+1):=by unfold loI;omega
def sgn (n:Int)(m:Bool):Int:=bif m then -n else n
def over64 (n:Int):Bool:=decide (n < -9223372036854775808)||decide (9223372036854775807<n)
def ansV (n:Int):Int:=bif over64 n then 0 else n
end Go.Proofs.YtkpfigikffphdaaGreatDoor
end
section
namespace Go.Proofs.YtkpfigikffphdaaGreatDoor
open Go.RowKit
theorem law_run {NG:Nat}{W:World→Prop}(hW:WOK NG W){l:List (FuncId×PFn)}(hl:AllOK NG W l){f:FuncId}{fn:Func}(hf:Tryz.prog.funcs[f]? = some fn){h:Hints}{fuel:Nat}{w:World}{xs:List PV}{vs:List Value}
  (hw:W w) (hng:NG≤w.heap.size) (hr:RelT ⟨w,fun _=>0,⟨0,fun _ _=>none⟩⟩ xs vs) (hrun:prun (en l) h fuel false fn xs=some (.bool true)) :
  Calls Tryz.prog f vs.toArray w fun e w'=>e=.returned (.bool true)∧Below w.heap.size w w':=by
 refine (run_ok (env_ok hW hl) rfl hf (M:=⟨w,fun _=>0,⟨0,fun _ _=>none⟩⟩) hw hng (fun g cs hg=>by cases hg) hr hrun).mono ?_
 rintro e w' ⟨v,rfl,U',hm,hv,_⟩
 simp only[RelD] at hv
 subst hv
 exact⟨rfl,hm.os,hm.tape,hm.output,hm.size,fun b hb=>(hm.block b hb (by simp)).1⟩
def inI (x:Int):Bool:=decide (-9223372036854775808≤x)&&decide (x≤9223372036854775807)
theorem inI_iff {x:Int}:inI x=true ↔ -9223372036854775808≤x∧x≤9223372036854775807:=by
 simp only[inI,Bool.and_eq_true,decide_eq_true_eq]
def scaleB (s:Int):Bool:=decide (0≤s)&&decide (s≤6)
theorem scaleB_iff {s:Int}:scaleB s=true↔0≤s∧s≤6:=by simp only[scaleB,Bool.and_eq_true,decide_eq_true_eq]
def p_Right:PFn:=⟨fun xs k=>match xs with|[.int .i64 s]=>k (.bool (scaleB s))|_=>none,false⟩
theorem right_raw (l:List (FuncId×PFn))(s:Int)(fuel:Nat):prun (en l) ⟨[],[]⟩ fuel false Tryz.f163 [.int .i64 s]=some (.bool (decide (0≤s)&&decide (s≤6))):=by kernel_rfl
theorem ok_Right:FOK NGd Wd 163 p_Right:=by
 refine fok wokd allOK_nil (h:=⟨[],[]⟩) Tryz.func163 rfl (by decide) ?_ ?_
 ·intro R xs k
  simp only[p_Right]
  split<;>rfl
 ·intro xs r h
  simp only[p_Right] at h
  split at h
  ·exact⟨0,(right_raw [] _ 0).trans h⟩
  ·cases h
theorem cmpI_lt {a b:Int}(h:a<b):cmpI a b=-1:=by unfold cmpI;rw[decide_eq_true h];rfl
theorem cmpI_gt {a b:Int}(h:b<a):cmpI a b=1:=by unfold cmpI;rw[decide_eq_false (by omega),decide_eq_true h];rfl
theorem cmpI_self (a:Int):cmpI a a=0:=by unfold cmpI;rw[decide_eq_false (by omega)];rfl
theorem cmpI_cases (a b:Int):(a<b∧cmpI a b=-1)∨(a=b∧cmpI a b=0)∨(b<a∧cmpI a b=1):=by
 rcases Int.lt_trichotomy a b with h|h|h
 ·exact .inl ⟨h,cmpI_lt h⟩
 ·subst h;exact .inr (.inl ⟨rfl,cmpI_self _⟩)
 ·exact .inr (.inr ⟨h,cmpI_gt h⟩)
def dg:Nat→Nat→List Nat
 |0,_=>[]
 |k+1,n=>(n%10)::dg k (n/10)
def dlenF:Nat→Nat→Nat
 |0,_=>0
 |f+1,n=>if n=0 then 0 else dlenF f (n/10)+1
def dlen (n:Nat):Nat:=dlenF n n
theorem dlenF_irr:∀ (f g n:Nat),n≤f→n≤g→dlenF f n=dlenF g n
 |0,0,n,_,_=>rfl
 |0,g+1,n,h,_=>by
  have:n=0:=by omega
  subst this;rfl
 |f+1,0,n,_,h=>by
  have:n=0:=by omega
  subst this;rfl
 |f+1,g+1,n,h,k=>by
  unfold dlenF
  split
  ·rfl
  ·rw[dlenF_irr f g (n/10) (by omega) (by omega)]
def dgs (n:Nat):List Nat:=dg (dlen n) n
theorem dlen_zero:dlen 0=0:=rfl
theorem dlen_pos {n:Nat}(h:n≠0):dlen n=dlen (n/10)+1:=by
 obtain⟨m,rfl⟩:=Nat.exists_eq_succ_of_ne_zero h
 unfold dlen
 show (if m+1=0 then 0 else dlenF m ((m+1)/10)+1)=_
 rw[if_neg (by omega),dlenF_irr m ((m+1)/10) _ (by omega) (Nat.le_refl _)]
theorem dg_len:∀ (k n:Nat),(dg k n).length=k
 |0,_=>rfl
 |k+1,n=>by simp[dg,dg_len k]
theorem dlen_le:∀ (k n:Nat),dlen n≤k↔n<10^k
 |0,n=>by
  by_cases h:n=0
  ·subst h;simp[dlen_zero]
  ·rw[dlen_pos h];simp;omega
 |k+1,n=>by
  by_cases h:n=0
  ·subst h;simp[dlen_zero];exact Nat.pos_of_ne_zero (by simp)
  ·rw[dlen_pos h,Nat.add_le_add_iff_right,dlen_le k,Nat.pow_succ]
   exact Nat.div_lt_iff_lt_mul (by decide)
theorem lt_pow_dlen (n:Nat):n<10^dlen n:=(dlen_le _ _).1 (Nat.le_refl _)
theorem dlen_mono {a b:Nat}(h:a≤b):dlen a≤dlen b:=(dlen_le _ _).2 (Nat.lt_of_le_of_lt h (lt_pow_dlen b))
theorem div_div10 (n i:Nat):n/10^(i+1)=n/10^i/10:=by rw[Nat.pow_succ,Nat.div_div_eq_div_mul]
theorem div_div10' (n i:Nat):n/10/10^i=n/10^(i+1):=by rw[Nat.pow_succ,Nat.div_div_eq_div_mul,Nat.mul_comm]
theorem dg_get:∀ (k n i:Nat),i<k→(dg k n)[i]? = some (n/10^i%10)
 |k+1,n,0,_=>by simp[dg]
 |k+1,n,i+1,h=>by
  simp only[dg,List.getElem?_cons_succ]
  rw[dg_get k (n/10) i (by omega),div_div10']
theorem dg_snoc:∀ (k n:Nat),dg (k+1) n=dg k n++[n/10^k%10]
 |0,n=>by simp[dg]
 |k+1,n=>by
  show (n%10)::dg (k+1) (n/10)=((n%10)::dg k (n/10))++_
  rw[dg_snoc k (n/10),div_div10']
  rfl
theorem dg_take:∀ (k n:Nat),(dg (k+1) n).take k=dg k n:=by
 intro k n
 rw[dg_snoc,List.take_left' (dg_len k n)]
def cellD (d:Nat):PV:=.int .i64 (d:Int)
def cellsD (l:List Nat):List PV:=l.map cellD
def cellsN (n:Nat):List PV:=cellsD (dgs n)
def big (n:Nat):PV:=.sl (some (n==0)) 1 (dlen n) (cellsN n)
def natC:List PV→Option Nat
 |[]=>some 0
 | .int .i64 d::l=>if 0≤d∧d<10 then (natC l).map fun n=>d.toNat+10 * n else none
 |_=>none
theorem natC_dg:∀ (k n:Nat),natC (cellsD (dg k n))=some (n%10^k)
 |0,n=>by simp[dg,cellsD,natC];omega
 |k+1,n=>by
  have h:n%10<10:=Nat.mod_lt _ (by decide)
  show (if 0≤((n%10:Nat):Int)∧((n%10:Nat):Int)<10 then (natC (cellsD (dg k (n/10)))).map fun m=>((n%10:Nat):Int).toNat+10 * m else none)=_
  rw[if_pos (by omega),natC_dg k (n/10)]
  simp only[Option.map_some,Int.toNat_natCast,Option.some.injEq]
  rw[Nat.pow_succ,Nat.mul_comm (10^k) 10,Nat.mod_mul]
def decN (len:Nat)(c:List PV):Option Nat:=(natC c).bind fun n=>if len=dlen n∧c.length=dlen n then some n else none
theorem decN_big (n:Nat):decN (dlen n) (cellsN n)=some n:=by
 unfold decN cellsN dgs
 rw[natC_dg,Nat.mod_eq_of_lt (lt_pow_dlen n)]
 simp[cellsD,dg_len]
theorem natC_inv:∀ {c:List PV} {n:Nat},natC c=some n→c=cellsD (dg c.length n)∧n<10^c.length
 |[],n,h=>by simp[natC] at h;subst h;exact⟨rfl,by simp⟩
 |x::l,n,h=>by
  unfold natC at h
  split at h
  ·rename_i e;cases e
  ·rename_i d l' e
   injection e with e1 e2
   subst e1 e2
   split at h
   ·rename_i hd
    obtain⟨m,hm,rfl⟩:=Option.map_eq_some_iff.1 h
    obtain⟨i1,i2⟩:=natC_inv hm
    refine⟨?_,?_⟩
    ·show _=cellsD ((d.toNat+10 * m)%10::dg _ ((d.toNat+10 * m)/10))
     rw[show (d.toNat+10 * m)%10=d.toNat by omega,show (d.toNat+10 * m)/10=m by omega]
     show _::_=cellD _::cellsD _
     rw[← i1]
     congr 1
     unfold cellD
     rw[show ((d.toNat:Nat):Int)=d by omega]
    ·simp only[List.length_cons,Nat.pow_succ]
     omega
   ·cases h
  ·cases h
theorem decN_inv {len:Nat}{c:List PV}{n:Nat}(h:decN len c=some n):len=dlen n∧c=cellsN n:=by
 unfold decN at h
 obtain⟨m,hm,h⟩:=Option.bind_eq_some_iff.1 h
 split at h
 ·rename_i hl
  injection h with h
  subst h
  obtain⟨i1,_⟩:=natC_inv hm
  rw[hl.2] at i1
  exact⟨hl.1,i1⟩
 ·cases h
def ixI {R:Type}(len:Nat)(c:List PV)(i:Int)(K:Int→Option R):Option R :=
 bif decide (0≤i)&&decide (i<(len:Int)) then ((c.drop (i.toNat * 1)).take 1).head?.bind fun v=>(PV.asInt .i64 v).bind K else none
theorem ixI_eq {R:Type}{len:Nat}{l:List Nat}{i:Int}{d:Nat}{K:Int→Option R}(h0:0≤i)(hl:i<(len:Int))(hd:l[i.toNat]? = some d):ixI len (cellsD l) i K=K d:=by
 unfold ixI
 rw[cond_t (by rw[decide_eq_true h0,decide_eq_true hl];rfl),Nat.mul_one]
 have:(((cellsD l).drop i.toNat).take 1).head? = some (cellD d):=by
  rw[List.head?_take,if_neg (by decide),List.head?_drop,cellsD,List.getElem?_map,hd]
  rfl
 rw[this]
 rfl
theorem ixI_dgs {R:Type}{n:Nat}{i:Int}{K:Int→Option R}(h0:0≤i)(hl:i<(dlen n:Int)):ixI (dlen n) (cellsN n) i K=K ((n/10^i.toNat%10:Nat):Int) :=
 ixI_eq h0 hl (dg_get _ _ _ (by omega))
def room {R:Type}(l m:Nat)(x:Option R):Option R:=bif decide (l+m≤9223372036854775807)&&decide ((l+m) * 8≤140737488355328) then x else none
theorem room_eq {R:Type}{l m:Nat}{x:Option R}(h:l+m≤10000):room l m x=x:=by
 unfold room
 exact cond_t (by rw[decide_eq_true (by omega),decide_eq_true (by omega)];rfl)
theorem big_nl (n:Nat):(n==0)=(dlen n==0):=by
 by_cases h:n=0
 ·subst h;rw[dlen_zero]
 ·rw[beq_eq_false_iff_ne.2 h,dlen_pos h];rfl
theorem div0 {n i:Nat}:n/10^i=0↔dlen n≤i:=by rw[dlen_le,Nat.div_eq_zero_iff_lt (Nat.pow_pos (by decide))]
def hOf:Hints:=⟨[],[(0,⟨[(0,false),(3,true)],[]⟩)]⟩
def frOf (x:Int)(nl:Option Bool)(l:Nat)(c:List PV):St:=frame 20 [(0,(.int .i64 x,0)),(3,(.sl nl 1 l c,25))] []
noncomputable def ofLoop (fu n:Nat)(st:St):Option PV:=loopF (en []) hOf fu false Tryz.f188 [1,1,0,0] 0 n st
theorem of_raw (fu:Nat)(n:Int):prun (en []) hOf fu false Tryz.f188 [.int .i64 n]=ofLoop fu fu (frOf n (some true) 0 []):=by kernel_rfl
def ofBody (x:Int)(nl:Option Bool)(l:Nat)(c:List PV)(G:Int→Option Bool→Nat→List PV→Option PV):Option PV :=
 bif !(x==0) then
  bif decide (x.tmod 10<0) then room l 1 (G (IntKind.i64.wrap (x.tdiv 10)) (nl.map (· && false)) (l+1) (c++[.int .i64 (IntKind.i64.wrap (0-x.tmod 10))]))
  else room l 1 (G (IntKind.i64.wrap (x.tdiv 10)) (nl.map (· && false)) (l+1) (c++[.int .i64 (x.tmod 10)]))
 else some (.sl nl 1 l c)
theorem of_step (fu:Nat)(x:Int)(nl:Option Bool)(l:Nat)(c:List PV)(K:St→Option PV):stepF (en []) hOf fu false Tryz.f188 [1,1,0,0] (frOf x nl l c) (fun st=>pnorm (hOf.loop.lookup 0) st K) =
  ofBody x nl l c (fun a b d e=>K (frOf a b d e)):=by kernel_rfl
theorem of_loop (fu N:Nat):∀ (m i n:Nat) (x:Int),x.natAbs=N/10^i→dlen (N/10^i)=m→m<n→i+m≤9000→-9223372036854775808≤x→x≤9223372036854775807 →
  ofLoop fu n (frOf x (some (i==0)) i (cellsD (dg i N)))=some (.sl (some (i+m==0)) 1 (i+m) (cellsD (dg (i+m) N)))
 |m,i,0,x,_,_,h,_,_,_=>by omega
 |m,i,n+1,x,hx,hm,hn,hi,h0,h1=>by
  unfold ofLoop
  rw[loopF_succ,of_step,ofBody]
  by_cases h:x=0
  ·subst h
   have hz:N/10^i=0:=by rw[← hx];rfl
   rw[hz,dlen_zero] at hm
   subst hm
   rfl
  ·rw[cond_t (by simpa using h)]
   have hz:N/10^i≠0:=by rw[← hx];omega
   have hm':=dlen_pos hz
   rw[← div_div10] at hm'
   have e1:=Int.natAbs_tmod x 10
   have e2:(x.tdiv 10).natAbs=N/10^(i+1):=by rw[div_div10,← hx];exact Int.natAbs_tdiv x 10
   rw[hx,show (10:Int).natAbs=10 from rfl] at e1
   have hq:-9223372036854775808≤x.tdiv 10∧x.tdiv 10≤9223372036854775807:=by
    have hle:(x.tdiv 10).natAbs * 10≤x.natAbs:=by rw[e2,hx,div_div10];exact Nat.div_mul_le_self _ _
    clear e1 e2
    generalize x.tdiv 10=q at *
    omega
   have ih:=of_loop fu N (m-1) (i+1) n (x.tdiv 10) e2 (by omega) (by omega) (by omega) hq.1 hq.2
   unfold ofLoop at ih
   rw[show i+1+(m-1)=i+m by omega,dg_snoc,show (i+1==0)=false from rfl] at ih
   have hd:∀ y:Int,y=((N/10^i%10:Nat):Int)→cellsD (dg i N)++[PV.int .i64 y]=cellsD (dg i N++[N/10^i%10]):=by
    intro y hy;rw[hy];simp[cellsD,cellD]
   have hnl:(some (i==0)).map (fun b:Bool=>b&&false)=some false:=by simp
   rw[room_eq (by omega),room_eq (by omega),wrapI_of hq.1 hq.2,hnl]
   by_cases hs:x.tmod 10<0
   ·rw[cond_t (decide_eq_true hs),wrapI_of (by omega) (by omega),hd _ (by omega)]
    exact ih
   ·rw[cond_f (decide_eq_false hs),hd _ (by omega)]
    exact ih
def p_Of:PFn:=⟨fun xs k=>match xs with|[.int .i64 n]=>bif inI n then k (big n.natAbs) else none|_=>none,false⟩
theorem ok_Of:FOK NGd Wd 188 p_Of:=by
 refine fok wokd allOK_nil (h:=hOf) Tryz.func188 rfl (by decide) ?_ ?_
 ·intro R xs k
  simp only[p_Of]
  split
  ·exact cond_nat
  ·rfl
 ·intro xs r h
  simp only[p_Of] at h
  split at h
  ·rename_i n
   rcases hb:inI n with _|_<;>rw[hb] at h
   ·cases h
   ·simp only[cond_true,Option.some.injEq] at h
    subst h
    rw[inI_iff] at hb
    refine⟨10000,(of_raw 10000 n).trans ?_⟩
    have hl:dlen n.natAbs≤20:=(dlen_le _ _).2 (by omega)
    have:=of_loop 10000 n.natAbs (dlen n.natAbs) 0 10000 n (by simp) (by simp) (by omega) (by omega) hb.1 hb.2
    rw[Nat.zero_add,← big_nl] at this
    exact this
  ·cases h
def hCmp:Hints:=⟨[],[(0,⟨[(0,false),(1,false),(5,false)],[]⟩)]⟩
def frCmp (n0:Option Bool)(l0:Nat)(c0:List PV)(n1:Option Bool)(l1:Nat)(c1:List PV)(i:Int):St:=frame 41 [(0,(.sl n0 1 l0 c0,0)),(1,(.sl n1 1 l1 c1,0)),(5,(.int .i64 i,0))] []
noncomputable def cmpLoop (fu n:Nat)(st:St):Option PV:=loopF (en []) hCmp fu false Tryz.f190 [1,1,0,1,0] 0 n st
theorem cmp_raw (fu:Nat)(n0:Option Bool)(l0:Nat)(c0:List PV)(n1:Option Bool)(l1:Nat)(c1:List PV):prun (en []) hCmp fu false Tryz.f190 [.sl n0 1 l0 c0,.sl n1 1 l1 c1] =
  bif !((l0:Int)==(l1:Int)) then bif decide ((l0:Int)<(l1:Int)) then some (.int .i64 (-1)) else some (.int .i64 1) else cmpLoop fu fu (frCmp n0 l0 c0 n1 l1 c1 (IntKind.i64.wrap ((l0:Int)-1))):=by kernel_rfl
def cmpBody (l0:Nat)(c0:List PV)(l1:Nat)(c1:List PV)(i:Int)(G:Int→Option PV):Option PV :=
 bif decide (0≤i) then ixI l0 c0 i fun a=>ixI l1 c1 i fun b=>bif decide (a<b) then some (.int .i64 (-1)) else ixI l0 c0 i fun a=>ixI l1 c1 i fun b=>bif decide (b<a) then some (.int .i64 1) else G (IntKind.i64.wrap (i-1))
 else some (.int .i64 0)
theorem cmp_step (fu:Nat)(n0:Option Bool)(l0:Nat)(c0:List PV)(n1:Option Bool)(l1:Nat)(c1:List PV)(i:Int)(K:St→Option PV) :
  stepF (en []) hCmp fu false Tryz.f190 [1,1,0,1,0] (frCmp n0 l0 c0 n1 l1 c1 i) (fun st=>pnorm (hCmp.loop.lookup 0) st K)=cmpBody l0 c0 l1 c1 i (fun j=>K (frCmp n0 l0 c0 n1 l1 c1 j)):=by kernel_rfl
theorem cmp_loop (fu:Nat){A B:Nat}(hl:dlen A=dlen B)(n0 n1:Option Bool):∀ (m n:Nat),m≤dlen A→m<n→m≤9000→A/10^m=B/10^m →
  cmpLoop fu n (frCmp n0 (dlen A) (cellsN A) n1 (dlen B) (cellsN B) ((m:Int)-1))=some (.int .i64 (cmpI A B))
 |m,0,_,h,_,_=>by omega
 |0,n+1,_,_,_,h=>by
  unfold cmpLoop
  rw[loopF_succ,cmp_step,cmpBody,cond_f (by decide)]
  simp only[Nat.pow_zero,Nat.div_one] at h
  rw[h,cmpI_self]
 |m+1,n+1,hm,hn,hb,h=>by
  unfold cmpLoop
  rw[loopF_succ,cmp_step,cmpBody]
  have e:((m+1:Nat):Int)-1=(m:Int):=by omega
  rw[e,cond_t (decide_eq_true (by omega)),ixI_dgs (by omega) (by omega),ixI_dgs (by omega) (by omega),ixI_dgs (by omega) (by omega),ixI_dgs (by omega) (by omega),Int.toNat_natCast,wrapI_of (by omega) (by omega)]
  rw[div_div10,div_div10] at h
  have up:∀ {X Y:Nat},X/10^m<Y/10^m→X<Y:=by
   intro X Y k
   rcases Nat.lt_or_ge X Y with q|q
   ·exact q
   ·have:=Nat.div_le_div_right (c:=10^m) q
    omega
  by_cases k1:A/10^m<B/10^m
  ·rw[cond_t (decide_eq_true (by omega)),cmpI_lt (by have:=up k1;omega)]
  ·rw[cond_f (decide_eq_false (by omega))]
   by_cases k2:B/10^m<A/10^m
   ·rw[cond_t (decide_eq_true (by omega)),cmpI_gt (by have:=up k2;omega)]
   ·rw[cond_f (decide_eq_false (by omega))]
    have:=cmp_loop fu hl n0 n1 m n (by omega) (by omega) (by omega) (by omega)
    unfold cmpLoop at this
    exact this
def p_Cmp:PFn:=⟨fun xs k=>match xs with|[.sl _ 1 l0 c0,.sl _ 1 l1 c1]=>(decN l0 c0).bind fun A=>(decN l1 c1).bind fun B=>bif decide (dlen A≤5000)&&decide (dlen B≤5000) then k (.int .i64 (cmpI A B)) else none|_=>none,false⟩
theorem bind2_nat {R:Type}{a b:Option Nat}{g:Nat→Nat→Bool}{v:Nat→Nat→PV}{k:PV→Option R} :
  (a.bind fun A=>b.bind fun B=>bif g A B then k (v A B) else none)=(a.bind fun A=>b.bind fun B=>bif g A B then some (v A B) else none).bind k:=by
 cases a with
 |none=>rfl
 |some a=>cases b with
  |none=>rfl
  |some b=>exact cond_nat
theorem bind2_inv {a b:Option Nat}{g:Nat→Nat→Bool}{v:Nat→Nat→PV}{r:PV}(h:(a.bind fun A=>b.bind fun B=>bif g A B then some (v A B) else none)=some r):∃ A B,a=some A∧b=some B∧g A B=true∧r=v A B:=by
 obtain⟨A,h1,h⟩:=Option.bind_eq_some_iff.1 h
 obtain⟨B,h2,h⟩:=Option.bind_eq_some_iff.1 h
 cases hg:g A B<;>rw[hg] at h
 ·cases h
 ·injection h with h
  exact⟨A,B,h1,h2,hg,h.symm⟩
theorem ok_Cmp:FOK NGd Wd 190 p_Cmp:=by
 refine fok wokd allOK_nil (h:=hCmp) Tryz.func190 rfl (by decide) ?_ ?_
 ·intro R xs k
  simp only[p_Cmp]
  split
  ·exact bind2_nat
  ·rfl
 ·intro xs r h
  simp only[p_Cmp] at h
  split at h
  ·rename_i n0 l0 c0 n1 l1 c1
   obtain⟨A,B,h1,h2,hg,rfl⟩:=bind2_inv h
   obtain⟨rfl,rfl⟩:=decN_inv h1
   obtain⟨rfl,rfl⟩:=decN_inv h2
   simp only[Bool.and_eq_true,decide_eq_true_eq] at hg
   refine⟨10000,(cmp_raw 10000 n0 _ _ n1 _ _).trans ?_⟩
   have up:∀ {X Y:Nat},dlen X<dlen Y→X<Y:=by
    intro X Y k
    rcases Nat.lt_or_ge X Y with q|q
    ·exact q
    ·have:=dlen_mono q;omega
   by_cases e:dlen A=dlen B
   ·rw[cond_f (by simp[e]),wrapI_of (by omega) (by omega)]
    exact cmp_loop 10000 e n0 n1 (dlen A) 10000 (Nat.le_refl _) (by omega) (by omega) (by rw[div0.2 (Nat.le_refl _),e,div0.2 (Nat.le_refl _)])
   ·rw[cond_t (by simp;omega)]
    by_cases k:dlen A<dlen B
    ·rw[cond_t (decide_eq_true (by omega)),cmpI_lt (by have:=up k;omega)]
    ·rw[cond_f (decide_eq_false (by omega)),cmpI_gt (by have:=up (show dlen B<dlen A by omega);omega)]
  ·cases h
end Go.Proofs.YtkpfigikffphdaaGreatDoor
namespace Go.Proofs.YtkpfigikffphdaaGreatDoor
open Go.RowKit
theorem dlen_add {A B k:Nat}(h1:dlen A≤k)(h2:dlen B≤k):dlen (A+B)≤k+1:=by
 refine (dlen_le _ _).2 ?_
 have h1:=(dlen_le _ _).1 h1
 have h2:=(dlen_le _ _).1 h2
 rw[Nat.pow_succ]
 omega
def hPlus:Hints:=⟨[],[(0,⟨[(0,false),(1,false),(5,true),(6,false),(7,false)],[]⟩)]⟩
def frPlus (n0:Option Bool)(l0:Nat)(c0:List PV)(n1:Option Bool)(l1:Nat)(c1:List PV)(nl:Option Bool)(l:Nat)(c:List PV)(s i:Int):St :=
 frame 52 [(0,(.sl n0 1 l0 c0,0)),(1,(.sl n1 1 l1 c1,0)),(5,(.sl nl 1 l c,59)),(6,(.int .i64 s,0)),(7,(.int .i64 i,0))] []
noncomputable def plusLoop (fu n:Nat)(st:St):Option PV:=loopF (en []) hPlus fu false Tryz.f189 [1,1,1,0,1,0] 0 n st
theorem plus_raw (fu:Nat)(n0:Option Bool)(l0:Nat)(c0:List PV)(n1:Option Bool)(l1:Nat)(c1:List PV):prun (en []) hPlus fu false Tryz.f189 [.sl n0 1 l0 c0,.sl n1 1 l1 c1] =
  plusLoop fu fu (frPlus n0 l0 c0 n1 l1 c1 (some true) 0 [] 0 0):=by kernel_rfl
def plusE (nl:Option Bool)(l:Nat)(c:List PV)(i:Int)(G:Option Bool→Nat→List PV→Int→Int→Option PV)(s:Int):Option PV :=
 room l 1 (G (nl.map (· && false)) (l+1) (c++[.int .i64 (s.tmod 10)]) (IntKind.i64.wrap (s.tdiv 10)) (IntKind.i64.wrap (i+1)))
def plusW (l0:Nat)(c0:List PV)(l1:Nat)(c1:List PV)(s i:Int)(E:Int→Option PV):Option PV :=
 bif decide (i<(l0:Int)) then ixI l0 c0 i fun a=>bif decide (i<(l1:Int)) then ixI l1 c1 i fun b=>E (IntKind.i64.wrap (IntKind.i64.wrap (s+a)+b)) else E (IntKind.i64.wrap (s+a))
 else bif decide (i<(l1:Int)) then ixI l1 c1 i fun b=>E (IntKind.i64.wrap (s+b)) else E s
def plusBody (l0:Nat)(c0:List PV)(l1:Nat)(c1:List PV)(nl:Option Bool)(l:Nat)(c:List PV)(s i:Int)(G:Option Bool→Nat→List PV→Int→Int→Option PV):Option PV :=
 bif !decide (i<(l0:Int)) then bif decide (i<(l1:Int))||decide (0<s) then plusW l0 c0 l1 c1 s i (plusE nl l c i G) else some (.sl nl 1 l c)
 else plusW l0 c0 l1 c1 s i (plusE nl l c i G)
theorem plus_step (fu:Nat)(n0:Option Bool)(l0:Nat)(c0:List PV)(n1:Option Bool)(l1:Nat)(c1:List PV)(nl:Option Bool)(l:Nat)(c:List PV)(s i:Int)(K:St→Option PV) :
  stepF (en []) hPlus fu false Tryz.f189 [1,1,1,0,1,0] (frPlus n0 l0 c0 n1 l1 c1 nl l c s i) (fun st=>pnorm (hPlus.loop.lookup 0) st K) =
  plusBody l0 c0 l1 c1 nl l c s i (fun a b d e f=>K (frPlus n0 l0 c0 n1 l1 c1 a b d e f)):=by kernel_rfl
theorem plus_w {A B i:Nat}{s:Int}(hs:0≤s)(hs2:s≤10000)(E:Int→Option PV):plusW (dlen A) (cellsN A) (dlen B) (cellsN B) s (i:Int) E=E (s+((A/10^i%10:Nat):Int)+((B/10^i%10:Nat):Int)):=by
 unfold plusW
 have hA:¬ (i:Int)<(dlen A:Int)→A/10^i%10=0:=fun h=>by rw[div0.2 (by omega)]
 have hB:¬ (i:Int)<(dlen B:Int)→B/10^i%10=0:=fun h=>by rw[div0.2 (by omega)]
 by_cases ka:(i:Int)<(dlen A:Int)
 ·rw[cond_t (decide_eq_true ka),ixI_dgs (by omega) ka,Int.toNat_natCast]
  by_cases kb:(i:Int)<(dlen B:Int)
  ·rw[cond_t (decide_eq_true kb),ixI_dgs (by omega) kb,Int.toNat_natCast,wrapI_of (x:=s+_) (by omega) (by omega),wrapI_of (by omega) (by omega)]
  ·rw[cond_f (decide_eq_false kb),hB kb,wrapI_of (by omega) (by omega)]
   simp
 ·rw[cond_f (decide_eq_false ka),hA ka]
  by_cases kb:(i:Int)<(dlen B:Int)
  ·rw[cond_t (decide_eq_true kb),ixI_dgs (by omega) kb,Int.toNat_natCast,wrapI_of (by omega) (by omega)]
   simp
  ·rw[cond_f (decide_eq_false kb),hB kb]
   simp
theorem carry {A B:Nat}(i:Nat):A/10^i+B/10^i≤(A+B)/10^i∧(A+B)/10^i≤A/10^i+B/10^i+1:=by
 have hp:0<10^i:=Nat.pow_pos (by decide)
 have h1:=Nat.div_add_mod A (10^i)
 have h2:=Nat.div_add_mod B (10^i)
 have h3:=Nat.mod_lt A hp
 have h4:=Nat.mod_lt B hp
 generalize 10^i=p at *
 refine⟨(Nat.le_div_iff_mul_le hp).2 ?_,Nat.le_of_lt_succ ((Nat.div_lt_iff_lt_mul hp).2 ?_)⟩
 ·rw[Nat.add_mul,Nat.mul_comm _ p,Nat.mul_comm _ p];omega
 ·show A+B<(A/p+B/p+2) * p
  rw[Nat.add_mul,Nat.add_mul,Nat.mul_comm (A/p) p,Nat.mul_comm (B/p) p];omega
theorem plus_loop (fu A B:Nat)(n0 n1:Option Bool)(hA:dlen A≤6000)(hB:dlen B≤6000)(hS:dlen (A+B)≤7000):∀ (m i n:Nat),i+m=dlen (A+B)→m<n →
  plusLoop fu n (frPlus n0 (dlen A) (cellsN A) n1 (dlen B) (cellsN B) (some (i==0)) i (cellsD (dg i (A+B))) (((A+B)/10^i-A/10^i-B/10^i:Nat):Int) (i:Int))=some (big (A+B))
 |m,i,0,_,h=>by omega
 |m, i, n+1,hi,hn=>by
  have hc:=carry (A:=A) (B:=B) i
  unfold plusLoop
  rw[loopF_succ,plus_step,plusBody]
  have go:0<m→plusW (dlen A) (cellsN A) (dlen B) (cellsN B) (((A+B)/10^i-A/10^i-B/10^i:Nat):Int) (i:Int) (plusE (some (i==0)) i (cellsD (dg i (A+B))) (i:Int)
    (fun a b d e f=>loopF (en []) hPlus fu false Tryz.f189 [1,1,1,0,1,0] 0 n (frPlus n0 (dlen A) (cellsN A) n1 (dlen B) (cellsN B) a b d e f)))=some (big (A+B)):=by
   intro hm
   have ih:=plus_loop fu A B n0 n1 hA hB hS (m-1) (i+1) n (by omega) (by omega)
   unfold plusLoop at ih
   rw[plus_w (by omega) (by omega),plusE,room_eq (by omega),← ih]
   have d1:=div_div10 A i
   have d2:=div_div10 B i
   have d3:=div_div10 (A+B) i
   generalize (A+B)/10^(i+1)=z' at *
   generalize A/10^(i+1)=x' at *
   generalize B/10^(i+1)=y' at *
   have e1:cellsD (dg i (A+B))++[PV.int .i64 (((A+B)/10^i%10:Nat):Int)]=cellsD (dg (i+1) (A+B)):=by rw[dg_snoc];simp[cellsD,cellD]
   rw[← e1]
   generalize (A+B)/10^i=z at *
   generalize A/10^i=x at *
   generalize B/10^i=y at *
   have e2:(((z-x-y:Nat):Int)+((x%10:Nat):Int)+((y%10:Nat):Int)).tmod 10=((z%10:Nat):Int):=by
    rw[Int.tmod_eq_emod_of_nonneg (by omega)];omega
   have e3:(((z-x-y:Nat):Int)+((x%10:Nat):Int)+((y%10:Nat):Int)).tdiv 10=((z'-x'-y':Nat):Int):=by
    rw[Int.tdiv_eq_ediv_of_nonneg (by omega)];omega
   rw[e2,e3,wrapI_of (by omega) (by omega),wrapI_of (x:=(i:Int)+1) (by omega) (by omega)]
   simp
  have hz:m=0→(A+B)/10^i=0:=fun h=>div0.2 (by omega)
  by_cases hm:m=0
  ·have z0:=hz hm
   have:=dlen_mono (show A≤A+B by omega)
   have:=dlen_mono (show B≤A+B by omega)
   rw[cond_t (by rw[decide_eq_false (by omega)];rfl),cond_f (by rw[decide_eq_false (by omega),z0];simp)]
   subst hm
   have:i=dlen (A+B):=by omega
   rw[this]
   unfold big
   rw[← big_nl]
   rfl
  ·by_cases ka:(i:Int)<(dlen A:Int)
   ·rw[decide_eq_true ka]
    exact go (by omega)
   ·rw[cond_t (by rw[decide_eq_false ka];rfl)]
    by_cases kb:(i:Int)<(dlen B:Int)
    ·rw[decide_eq_true kb]
     exact go (by omega)
    ·have h1:=div0 (n:=A) (i:=i)
     have h2:=div0 (n:=B) (i:=i)
     have h3:=div0 (n:=A+B) (i:=i)
     rw[cond_t (by rw[Bool.or_eq_true,decide_eq_true_eq,decide_eq_true_eq];omega)]
     exact go (by omega)
def p_Plus:PFn:=⟨fun xs k=>match xs with|[.sl _ 1 l0 c0,.sl _ 1 l1 c1]=>(decN l0 c0).bind fun A=>(decN l1 c1).bind fun B=>bif decide (dlen A≤5000)&&decide (dlen B≤5000) then k (big (A+B)) else none|_=>none,false⟩
theorem ok_Plus:FOK NGd Wd 189 p_Plus:=by
 refine fok wokd allOK_nil (h:=hPlus) Tryz.func189 rfl (by decide) ?_ ?_
 ·intro R xs k
  simp only[p_Plus]
  split
  ·exact bind2_nat
  ·rfl
 ·intro xs r h
  simp only[p_Plus] at h
  split at h
  ·rename_i n0 l0 c0 n1 l1 c1
   obtain⟨A,B,h1,h2,hg,rfl⟩:=bind2_inv h
   obtain⟨rfl,rfl⟩:=decN_inv h1
   obtain⟨rfl,rfl⟩:=decN_inv h2
   simp only[Bool.and_eq_true,decide_eq_true_eq] at hg
   refine⟨10000,(plus_raw 10000 n0 _ _ n1 _ _).trans ?_⟩
   have hS:=dlen_add hg.1 hg.2
   have:=plus_loop 10000 A B n0 n1 (by omega) (by omega) (by omega) (dlen (A+B)) 0 10000 (by omega) (by omega)
   simp only[Nat.pow_zero,Nat.div_one] at this
   rw[show A+B-A-B=0 by omega] at this
   exact this
  ·cases h
end Go.Proofs.YtkpfigikffphdaaGreatDoor
namespace Go.Proofs.YtkpfigikffphdaaGreatDoor
open Go.RowKit
def plusO {R:Type}(l0:Nat)(c0:List PV)(l1:Nat)(c1:List PV)(k:Nat→Option R):Option R:=(decN l0 c0).bind fun A=>(decN l1 c1).bind fun B=>bif decide (dlen A≤5000)&&decide (dlen B≤5000) then k (A+B) else none
def cmpO {R:Type}(l0:Nat)(c0:List PV)(l1:Nat)(c1:List PV)(k:Int→Option R):Option R:=(decN l0 c0).bind fun A=>(decN l1 c1).bind fun B=>bif decide (dlen A≤5000)&&decide (dlen B≤5000) then k (cmpI A B) else none
theorem plusO_eq {R:Type}{A B:Nat}{k:Nat→Option R}(hA:dlen A≤5000)(hB:dlen B≤5000):plusO (dlen A) (cellsN A) (dlen B) (cellsN B) k=k (A+B):=by
 unfold plusO
 rw[decN_big,decN_big]
 exact cond_t (by rw[decide_eq_true hA,decide_eq_true hB];rfl)
theorem cmpO_eq {R:Type}{A B:Nat}{k:Int→Option R}(hA:dlen A≤5000)(hB:dlen B≤5000):cmpO (dlen A) (cellsN A) (dlen B) (cellsN B) k=k (cmpI A B):=by
 unfold cmpO
 rw[decN_big,decN_big]
 exact cond_t (by rw[decide_eq_true hA,decide_eq_true hB];rfl)
theorem one_cells:(dlen 1,cellsN 1)=(1,[PV.int .i64 1]):=rfl
noncomputable def lInt:List (FuncId×PFn):=[(188,p_Of),(189,p_Plus),(190,p_Cmp)]
theorem ok_lInt:AllOK NGd Wd lInt:=allOK_cons ok_Of (allOK_cons ok_Plus (allOK_cons ok_Cmp allOK_nil))
def hInt:Hints:=⟨[],[(0,⟨[(0,false),(1,false),(7,false),(8,false)],[]⟩)]⟩
def frInt (n0:Option Bool)(l0:Nat)(c0:List PV)(m:Bool)(x i:Int):St:=frame 41 [(0,(.sl n0 1 l0 c0,0)),(1,(.bool m,0)),(7,(.int .i64 x,0)),(8,(.int .i64 i,0))] []
noncomputable def intLoop (fu n:Nat)(st:St):Option PV:=loopF (en lInt) hInt fu false Tryz.f107 [1,1,1,1,1,0,1,0] 0 n st
def maxN:Nat:=(9223372036854775807:Int).natAbs
def intTop (l0:Nat)(c0:List PV)(m:Bool)(L:Option PV):Option PV :=
 bif m then plusO (dlen maxN) (cellsN maxN) 1 [.int .i64 1] fun Y=>cmpO l0 c0 (dlen Y) (cellsN Y) fun z=>bif decide (0<z) then some (.tuple [.int .i64 0,.bool false]) else L
 else cmpO l0 c0 (dlen maxN) (cellsN maxN) fun z=>bif decide (0<z) then some (.tuple [.int .i64 0,.bool false]) else L
theorem int_raw (fu:Nat)(n0:Option Bool)(l0:Nat)(c0:List PV)(m:Bool):prun (en lInt) hInt fu false Tryz.f107 [.sl n0 1 l0 c0,.bool m] =
  intTop l0 c0 m (intLoop fu fu (frInt n0 l0 c0 m 0 (IntKind.i64.wrap ((l0:Int)-1)))):=by kernel_rfl
def intBody (l0:Nat)(c0:List PV)(m:Bool)(x i:Int)(G:Int→Int→Option PV):Option PV :=
 bif decide (0≤i) then
  bif m then ixI l0 c0 i fun v=>G (IntKind.i64.wrap (IntKind.i64.wrap (10 * x)-v)) (IntKind.i64.wrap (i-1))
  else ixI l0 c0 i fun v=>G (IntKind.i64.wrap (IntKind.i64.wrap (10 * x)+v)) (IntKind.i64.wrap (i-1))
 else some (.tuple [.int .i64 x,.bool true])
theorem int_step (fu:Nat)(n0:Option Bool)(l0:Nat)(c0:List PV)(m:Bool)(x i:Int)(K:St→Option PV) :
  stepF (en lInt) hInt fu false Tryz.f107 [1,1,1,1,1,0,1,0] (frInt n0 l0 c0 m x i) (fun st=>pnorm (hInt.loop.lookup 0) st K)=intBody l0 c0 m x i (fun y j=>K (frInt n0 l0 c0 m y j)):=by kernel_rfl
theorem int_loop (fu:Nat)(X:Nat)(n0:Option Bool)(m:Bool)(hX:over64 (sgn X m)=false):∀ (k n:Nat),k≤dlen X→k<n→k≤9000 →
  intLoop fu n (frInt n0 (dlen X) (cellsN X) m (sgn ((X/10^k:Nat):Int) m) ((k:Int)-1))=some (.tuple [.int .i64 (sgn X m),.bool true])
 |k,0,_,h,_=>by omega
 |0,n+1,_,_,_=>by
  unfold intLoop
  rw[loopF_succ,int_step,intBody,cond_f (by decide)]
  simp
 |k+1,n+1,hk,hn,hb=>by
  unfold intLoop
  have e:((k+1:Nat):Int)-1=(k:Int):=by omega
  rw[loopF_succ,int_step,intBody,e,cond_t (decide_eq_true (by omega)),ixI_dgs (by omega) (by omega),ixI_dgs (by omega) (by omega),Int.toNat_natCast,wrapI_of (x:=(k:Int)-1) (by omega) (by omega)]
  have ih:=int_loop fu X n0 m hX k n (by omega) (by omega) (by omega)
  unfold intLoop at ih
  have hle:X/10^k≤X:=Nat.div_le_self _ _
  have hd:=div_div10 X k
  unfold over64 at hX
  simp only[Bool.or_eq_false_iff,decide_eq_false_iff_not] at hX
  rw[hd,← ih]
  generalize X/10^k=q at *
  cases m
  ·simp only[cond_false,sgn] at hX ⊢
   rw[wrapI_of (x:=10 * _) (by omega) (by omega),wrapI_of (by omega) (by omega),show 10 * ((q/10:Nat):Int)+((q%10:Nat):Int)=(q:Int) by omega]
  ·simp only[cond_true,sgn] at hX ⊢
   rw[wrapI_of (x:=10 * _) (by omega) (by omega),wrapI_of (by omega) (by omega),show 10 * -((q/10:Nat):Int)-((q%10:Nat):Int)=-(q:Int) by omega]
def p_Int:PFn:=⟨fun xs k=>match xs with|[.sl _ 1 l0 c0,.bool m]=>(decN l0 c0).bind fun X=>bif decide (dlen X≤5000) then k (.tuple [.int .i64 (ansV (sgn X m)),.bool (!over64 (sgn X m))]) else none|_=>none,false⟩
theorem bind1_nat {R:Type}{a:Option Nat}{g:Nat→Bool}{v:Nat→PV}{k:PV→Option R} :
  (a.bind fun A=>bif g A then k (v A) else none)=(a.bind fun A=>bif g A then some (v A) else none).bind k:=by
 cases a with
 |none=>rfl
 |some a=>exact cond_nat
theorem bind1_inv {a:Option Nat}{g:Nat→Bool}{v:Nat→PV}{r:PV}(h:(a.bind fun A=>bif g A then some (v A) else none)=some r):∃ A,a=some A∧g A=true∧r=v A:=by
 obtain⟨A,h1,h⟩:=Option.bind_eq_some_iff.1 h
 cases hg:g A<;>rw[hg] at h
 ·cases h
 ·injection h with h
  exact⟨A,h1,hg,h.symm⟩
theorem maxN_eq:maxN=9223372036854775807:=rfl
theorem ok_Int:FOK NGd Wd 107 p_Int:=by
 refine fok wokd ok_lInt (h:=hInt) Tryz.func107 rfl (by decide) ?_ ?_
 ·intro R xs k
  simp only[p_Int]
  split
  ·exact bind1_nat
  ·rfl
 ·intro xs r h
  simp only[p_Int] at h
  split at h
  ·rename_i n0 l0 c0 m
   obtain⟨X,h1,hg,rfl⟩:=bind1_inv h
   obtain⟨rfl,rfl⟩:=decN_inv h1
   simp only[decide_eq_true_eq] at hg
   refine⟨10000,(int_raw 10000 n0 _ _ m).trans ?_⟩
   have hm:dlen maxN≤5000:=by decide
   have hm1:dlen (maxN+1)≤5000:=by decide
   have key:∀ (Y:Nat),dlen Y≤5000→(over64 (sgn X m)=decide ((Y:Int)<X)) →
     (bif decide (0<cmpI X Y) then some (PV.tuple [.int .i64 0,.bool false]) else intLoop 10000 10000 (frInt n0 (dlen X) (cellsN X) m 0 (IntKind.i64.wrap ((dlen X:Int)-1))))=some (.tuple [.int .i64 (ansV (sgn X m)),.bool (!over64 (sgn X m))]):=by
    intro Y hY ho
    by_cases hc:(Y:Int)<X
    ·rw[cmpI_gt hc,cond_t (by decide)]
     unfold ansV
     rw[ho,decide_eq_true hc];rfl
    ·rw[decide_eq_false hc] at ho
     have hz:X/10^dlen X=0:=div0.2 (Nat.le_refl _)
     have:=int_loop 10000 X n0 m ho (dlen X) 10000 (Nat.le_refl _) (by omega) (by omega)
     rw[hz,show sgn ((0:Nat):Int) m=0 by cases m<;>rfl] at this
     have hcc:¬ 0<cmpI X Y:=by
      rcases cmpI_cases X Y with ⟨k,e⟩|⟨k,e⟩|⟨k,e⟩<;>omega
     rw[cond_f (decide_eq_false hcc),wrapI_of (by omega) (by omega),this]
     unfold ansV
     rw[ho];rfl
   unfold intTop
   cases m
   ·rw[cond_false,cmpO_eq hg hm]
    refine key maxN hm ?_
    rw[maxN_eq]
    unfold over64 sgn
    simp only[cond_false]
    rw[decide_eq_false (show ¬ (X:Int) < -9223372036854775808 by omega)]
    rfl
   ·have e1:=one_cells
    injection e1 with e1 e2
    rw[cond_true,← e1,← e2,plusO_eq hm (by decide),cmpO_eq hg hm1]
    refine key (maxN+1) hm1 ?_
    rw[maxN_eq]
    unfold over64 sgn
    simp only[cond_true]
    rw[decide_eq_false (show ¬ 9223372036854775807 < -(X:Int) by omega),Bool.or_false]
    congr 1
    simp only[eq_iff_iff]
    omega
  ·cases h
end Go.Proofs.YtkpfigikffphdaaGreatDoor
namespace Go.Proofs.YtkpfigikffphdaaGreatDoor
open Go.RowKit
end Go.Proofs.YtkpfigikffphdaaGreatDoor
namespace Go.Proofs.YtkpfigikffphdaaGreatDoor
open Go.RowKit
theorem small0 {q:Nat}(h:q<10)(k:q%10=0):q=0:=by omega
def hTrim:Hints:=⟨[],[(0,⟨[(0,false)],[]⟩)]⟩
def frTrim (n0:Option Bool)(l0:Nat)(c0:List PV):St:=frame 21 [(0,(.sl n0 1 l0 c0,0))] []
noncomputable def trimLoop (fu n:Nat)(st:St):Option PV:=loopF (en []) hTrim fu false Tryz.f108 [1,0,0] 0 n st
theorem trim_raw (fu:Nat)(n0:Option Bool)(l0:Nat)(c0:List PV):prun (en []) hTrim fu false Tryz.f108 [.sl n0 1 l0 c0]=trimLoop fu fu (frTrim n0 l0 c0):=by kernel_rfl
def trimBody (n0:Option Bool)(l0:Nat)(c0:List PV)(G:Nat→List PV→Option PV):Option PV :=
 bif decide (0<(l0:Int)) then ixI l0 c0 (IntKind.i64.wrap ((l0:Int)-1)) fun v =>
  bif v==0 then bif decide (0≤IntKind.i64.wrap ((l0:Int)-1))&&decide (IntKind.i64.wrap ((l0:Int)-1)≤(l0:Int)) then G ((IntKind.i64.wrap ((l0:Int)-1)).toNat-0) ((c0.take ((IntKind.i64.wrap ((l0:Int)-1)).toNat * 1)).drop (0 * 1)) else none
  else some (.sl n0 1 l0 c0)
 else some (.sl n0 1 l0 c0)
theorem trim_step (fu:Nat)(n0:Option Bool)(l0:Nat)(c0:List PV)(K:St→Option PV) :
  stepF (en []) hTrim fu false Tryz.f108 [1,0,0] (frTrim n0 l0 c0) (fun st=>pnorm (hTrim.loop.lookup 0) st K)=trimBody n0 l0 c0 (fun l c=>K (frTrim n0 l c)):=by kernel_rfl
theorem trim_loop (fu:Nat)(n0:Option Bool)(N:Nat):∀ (k n:Nat),N<10^k→k<n→k≤9000→trimLoop fu n (frTrim n0 k (cellsD (dg k N)))=some (.sl n0 1 (dlen N) (cellsN N))
 |k,0,_,h,_=>by omega
 |0,n+1,h,_,_=>by
  have h0:N=0:=by simp at h;exact h
  subst h0
  unfold trimLoop
  rw[loopF_succ,trim_step,trimBody,cond_f (by decide)]
  rfl
 |k+1,n+1,h,hn,hb=>by
  unfold trimLoop
  rw[loopF_succ,trim_step,trimBody,wrapI_of (by omega) (by omega),show ((k+1:Nat):Int)-1=(k:Int) by omega,cond_t (decide_eq_true (by omega)),ixI_eq (d:=N/10^k%10) (by omega) (by omega) (dg_get _ _ _ (by omega))]
  have hlt:N/10^k<10:=(Nat.div_lt_iff_lt_mul (Nat.pow_pos (by decide))).2 (by rw[Nat.pow_succ] at h;omega)
  by_cases hz:N/10^k%10=0
  ·have h0:N/10^k=0:=small0 hlt hz
   have hN:N<10^k:=(dlen_le _ _).1 (div0.1 h0)
   rw[hz,cond_t (by decide),cond_t (by rw[decide_eq_true (by omega),decide_eq_true (by omega)];rfl)]
   have ih:=trim_loop fu n0 N k n hN (by omega) (by omega)
   unfold trimLoop at ih
   have e:((cellsD (dg (k+1) N)).take ((k:Int).toNat * 1)).drop (0 * 1)=cellsD (dg k N):=by
    simp only[Int.toNat_natCast,Nat.mul_one,List.drop_zero,cellsD]
    rw[← List.map_take,dg_take]
   rw[e]
   exact ih
  ·rw[cond_f (by simp only[beq_eq_false_iff_ne];omega)]
   have h1:dlen N=k+1:=by
    have a:=(dlen_le (k+1) N).2 h
    have b:¬ dlen N≤k:=fun q=>hz (by rw[div0.2 q])
    omega
   unfold cellsN dgs
   rw[h1]
def p_trim:PFn:=⟨fun xs k=>match xs with|[.sl n0 1 l0 c0]=>(natC c0).bind fun N=>bif l0==c0.length&&decide (l0≤6000) then k (.sl n0 1 (dlen N) (cellsN N)) else none|_=>none,false⟩
theorem ok_trim:FOK NGd Wd 108 p_trim:=by
 refine fok wokd allOK_nil (h:=hTrim) Tryz.func108 rfl (by decide) ?_ ?_
 ·intro R xs k
  simp only[p_trim]
  split
  ·exact bind1_nat
  ·rfl
 ·intro xs r h
  simp only[p_trim] at h
  split at h
  ·rename_i n0 l0 c0
   obtain⟨N,h1,hg,rfl⟩:=bind1_inv h
   simp only[Bool.and_eq_true,beq_iff_eq,decide_eq_true_eq] at hg
   obtain⟨e1,e2⟩:=natC_inv h1
   refine⟨10000,(trim_raw 10000 n0 l0 c0).trans ?_⟩
   rw[← hg.1] at e1 e2
   have:=trim_loop 10000 n0 N l0 10000 e2 (by omega) (by omega)
   rw[← e1] at this
   exact this
  ·cases h
def cutO {R:Type}(l0:Nat)(c0:List PV)(k:Nat→Option R):Option R:=(natC c0).bind fun N=>bif l0==c0.length&&decide (l0≤6000) then k N else none
end Go.Proofs.YtkpfigikffphdaaGreatDoor
namespace Go.Proofs.YtkpfigikffphdaaGreatDoor
open Go.RowKit
end Go.Proofs.YtkpfigikffphdaaGreatDoor
namespace Go.Proofs.YtkpfigikffphdaaGreatDoor
open Go.RowKit
end Go.Proofs.YtkpfigikffphdaaGreatDoor
end
