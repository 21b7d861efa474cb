/-
  Lemmas, part K1: what the claim needs of the texts of wip/tpl.
-/
import Derived.Laws.IdiomCopy
import Derived.Shelf.Spec.SearchS
import Derived.Deep.LoopGhost
import Derived.Deep.Draws
import Derived.LoopTactic
import Derived.Shelf.Strconv.Itoa3
import Derived.Test.YtkpfigikffphdaaGreatDoorPqPD
import Derived.Test.YtkpfigikffphdaaGreatDoorPqBA
set_option linter.unusedVariables false
set_option linter.unusedSimpArgs false
open Bool renaming and_eq_true→Ae,not_false→Ar,not_true→Au,false_eq_true→Bp
open Int renaming toNat_natCast→At,toNat→Fd1
open List renaming length_cons→Ac,getElem?_eq_getElem→Ag,mem_cons_self→An,append_nil→Bf,flatMap_cons→Bo,drop_zero→Bt,getElem?_cons_succ→Bz,tail_suffix→Ck,suffix_cons→Ev,flatMap_nil→Fe
open Nat renaming le_refl→Ak,zero_le→Bh,add_mul→Di,lt_succ_self→Dy,pow_succ→Ee,div_lt_iff_lt_mul→En,mul_comm→Eu
open Option renaming bind_some→Aa,bind_eq_some_iff→Ab,bind_assoc→Ad,map_eq_some_iff→Am
open Option.some renaming injEq→Ah
section
set_option maxRecDepth 100000
namespace Go.Proofs.YtkpfigikffphdaaGreatDoor
open Go.RowKit
structure PS where
 nl:Option Bool
 n:Nat
 cs:List PV
 e:Int
 o:Int
 b:Int
def PS.box (s:PS):List PV:=[.sl s.nl 7 s.n s.cs,.int .i64 s.e,.int .i64 s.o,.int .i64 s.b]
structure TR where
 k:Int
 a:Int
 t:List UInt8
 vk:Int
 vn:Int
 vc:Int
 vs:List UInt8
def TR.cells (x:TR):List PV:=[.int .i64 x.k,.int .i64 x.a,.str x.t,.int .i64 x.vk,.int .i64 x.vn,.int .i64 x.vc,.str x.vs]
structure XR where
 k:Int
 a:Int
 op:List UInt8
 vk:Int
 vn:Int
 vc:Int
 vs:List UInt8
 tb:List UInt8
 nm:List UInt8
 nt:Bool
 tk:Int
 ts:Int
 knl:Option Bool
 kn:Nat
 kc:List PV
def XR.cells (x:XR):List PV:=[.int .i64 x.k,.int .i64 x.a,.str x.op,.int .i64 x.vk,.int .i64 x.vn,.int .i64 x.vc,.str x.vs,.str x.tb,.str x.nm,.bool x.nt,.int .i64 x.tk,.int .i64 x.ts,.sl x.knl 13 x.kn x.kc]
def XR.zero:XR:=⟨0,0,[],0,0,0,[],[],[],false,0,0,some true,0,[]⟩
def TR.zero:TR:=⟨0,0,[],0,0,0,[]⟩
structure VR where
 vk:Int
 vn:Int
 vc:Int
 vs:List UInt8
 ok:Bool
def eS {R:Type}(bs:List (List PV))(k:PS->Option R):Option R :=
 match bs with
 |[[.sl nl z n cs,.int .i64 e,.int .i64 o,.int .i64 b]]=>if z=7 then k ⟨nl,n,cs,e,o,b⟩else none
 |_=>none
def tSI (f:PS->Option (Int×PS)):H7:=⟨fun bs xs k=>match xs with
 |[.ptr 0 0]=>eS bs fun s=>(f s).bind fun r=>k [r.2.box] (.int .i64 r.1)
 |_=>none⟩
def tSU (f:PS->Option PS):H7:=⟨fun bs xs k=>match xs with
 |[.ptr 0 0]=>eS bs fun s=>(f s).bind fun r=>k [r.box] (.tuple [])
 |_=>none⟩
def C6v (f:PS->Int->Option PS):H7:=⟨fun bs xs k=>match xs with
 |[.ptr 0 0,.int .i64 a]=>eS bs fun s=>(f s a).bind fun r=>k [r.box] (.tuple [])
 |_=>none⟩
def wT (f:PS->List UInt8->Option PS):H7:=⟨fun bs xs k=>match xs with
 |[.ptr 0 0,.str w]=>eS bs fun s=>(f s w).bind fun r=>k [r.box] (.tuple [])
 |_=>none⟩
def pX (f:PS->List UInt8->Option (Bool×PS)):H7:=⟨fun bs xs k=>match xs with
 |[.ptr 0 0,.str w]=>eS bs fun s=>(f s w).bind fun r=>k [r.2.box] (.bool r.1)
 |_=>none⟩
def tX (f:PS->Nat->List PV->Option (Bool×PS)):H7:=⟨fun bs xs k=>match xs with
 |[.ptr 0 0,.sl _ z n ws]=>if z=1 then eS bs fun s=>(f s n ws).bind fun r=>k [r.2.box] (.bool r.1)else none
 |_=>none⟩
def B18 (f:PS->Int->Nat->List PV->Option (Bool×PS)):H7:=⟨fun bs xs k=>match xs with
 |[.ptr 0 0,.int .i64 a,.sl _ z n ws]=>if z=1 then eS bs fun s=>(f s a n ws).bind fun r=>k [r.2.box] (.bool r.1)else none
 |_=>none⟩
def tCn (f:Nat->List PV->List UInt8->Option Bool):D5:=⟨fun xs k=>match xs with|[.sl _ z n c,.str s]=>if z=1 then(f n c s).bind fun b=>k (.bool b)else none|_=>none,false⟩
def tCi (f:Nat->List PV->List UInt8->Option Int):D5:=⟨fun xs k=>match xs with|[.sl _ z n c,.str s]=>if z=1 then(f n c s).bind fun b=>k (.int .i64 b)else none|_=>none,false⟩
def tWi (f:List UInt8->Option Int):D5:=⟨fun xs k=>match xs with|[.str s]=>(f s).bind fun b=>k (.int .i64 b)|_=>none,false⟩
def tWV (f:List UInt8->Option VR):D5:=⟨fun xs k=>match xs with|[.str s]=>(f s).bind fun r=>k (.tuple [.agg [.int .i64 r.vk,.int .i64 r.vn,.int .i64 r.vc,.str r.vs],.bool r.ok])|_=>none,false⟩
def tWs (f:List UInt8->Option (Option Bool×Nat×List PV)):D5:=⟨fun xs k=>match xs with|[.str s]=>(f s).bind fun r=>k (.sl r.1 1 r.2.1 r.2.2)|_=>none,false⟩
def tST (f:PS->Option (TR×PS)):H7:=⟨fun bs xs k=>match xs with
 |[.ptr 0 0]=>eS bs fun s=>(f s).bind fun r=>k [r.2.box] (.agg r.1.cells)
 |_=>none⟩
def tSS (f:PS->Option (List UInt8×PS)):H7:=⟨fun bs xs k=>match xs with
 |[.ptr 0 0]=>eS bs fun s=>(f s).bind fun r=>k [r.2.box] (.str r.1)
 |_=>none⟩
def B9m (f:PS->Int->Option (Int×PS)):H7:=⟨fun bs xs k=>match xs with
 |[.ptr 0 0,.int .i64 a]=>eS bs fun s=>(f s a).bind fun r=>k [r.2.box] (.int .i64 r.1)
 |_=>none⟩
def tSY (f:PS->Option ((Int×Int)×PS)):H7:=⟨fun bs xs k=>match xs with
 |[.ptr 0 0]=>eS bs fun s=>(f s).bind fun r=>k [r.2.box] (.agg [.int .i64 r.1.1,.int .i64 r.1.2])
 |_=>none⟩
def tSL (f:PS->Option (VR×PS)):H7:=⟨fun bs xs k=>match xs with
 |[.ptr 0 0]=>eS bs fun s=>(f s).bind fun r=>k [r.2.box] (.tuple [.agg [.int .i64 r.1.vk,.int .i64 r.1.vn,.int .i64 r.1.vc,.str r.1.vs],.bool r.1.ok])
 |_=>none⟩
def rS (f:PS->Option (XR×PS)):H7:=⟨fun bs xs k=>match xs with
 |[.ptr 0 0]=>eS bs fun s=>(f s).bind fun r=>k [r.2.box] (.agg r.1.cells)
 |_=>none⟩
def A58 (f:PS->Int->Option (XR×PS)):H7:=⟨fun bs xs k=>match xs with
 |[.ptr 0 0,.int .i64 a]=>eS bs fun s=>(f s a).bind fun r=>k [r.2.box] (.agg r.1.cells)
 |_=>none⟩
def X0 {S:Type}(b:Bool)(x:Option S):Option S:=bif b then x else none
def hdI {S:Type}(cs:List PV)(k:Nat)(kk:Int->Option S):Option S:=(((cs.drop (Fd1 0 * 7)).take 7).drop k).head?.bind fun x=>(x.asInt .i64).bind kk
def hdS {S:Type}(cs:List PV)(k:Nat)(kk:List UInt8->Option S):Option S:=(((cs.drop (Fd1 0 * 7)).take 7).drop k).head?.bind fun x=>x.asStr.bind kk
def hdJ {S:Type}(cs:List PV)(k:Nat)(kk:Int->Option S):Option S:=((((cs.drop (Fd1 0 * 7)).take 7).drop 3).drop k).head?.bind fun x=>(x.asInt .i64).bind kk
section
variable {R:Type}
noncomputable abbrev I4:B4:=⟨[],[]⟩
theorem E8c (fu:Nat)(s:PS)(K:List (List PV)->PV->Option R):C5 (F8 [] [] []) I4 fu Tryz.f96 [s.box] [.ptr 0 0] K =
 bif((s.n:Int)==0)then K [s.box] (.int .i64 s.e)else X0 (decide ((0:Int)<=0)&&decide ((0:Int)<s.n)) (hdI s.cs 1 fun a=>K [s.box] (.int .i64 a)):=by kernel_rfl
theorem B7r (fu:Nat)(s:PS)(a:Int)(K:List (List PV)->PV->Option R):C5 (F8 [] [] []) I4 fu Tryz.f95 [s.box] [.ptr 0 0,.int .i64 a] K =
 bif decide (s.b<0)then K [(⟨some true,0,[],s.e,s.o,a⟩:PS).box] (.tuple [])else K [s.box] (.tuple []):=by kernel_rfl
theorem D80 (fat:PS->Option (Int×PS))(ff:PS->Int->Option PS)(fu:Nat)(s:PS)(K:List (List PV)->PV->Option R):C5 (F8 [] [(96,tSI fat),(95,C6v ff)] []) I4 fu Tryz.f52 [s.box] [.ptr 0 0] K =
 (fat s).bind fun r=>(ff r.2 r.1).bind fun s=>K [s.box] (.tuple []):=by kernel_rfl
theorem F2q (fc:Nat->List PV->List UInt8->Option Bool)(fu:Nat)(s:PS)(a:Int)(nl:Option Bool)(n:Nat)(ws:List PV)(K:List (List PV)->PV->Option R):C5 (F8 [(184,tCn fc)] [] []) I4 fu Tryz.f101 [s.box] [.ptr 0 0,.int .i64 a,.sl nl 1 n ws] K =
 bif decide ((0:Int)<s.n)then X0 (decide ((0:Int)<=0)&&decide ((0:Int)<s.n)) (hdI s.cs 0 fun k=>bif k==a then X0 (decide ((0:Int)<=0)&&decide ((0:Int)<s.n)) (hdS s.cs 2 fun w=>(fc n ws w).bind fun r=>K [s.box] (.bool r))else K [s.box] (.bool false))else K [s.box] (.bool false):=by kernel_rfl
theorem E51 (fi:PS->Int->Nat->List PV->Option (Bool×PS))(fu:Nat)(s:PS)(w:List UInt8)(K:List (List PV)->PV->Option R):C5 (F8 [] [(101,B18 fi)] []) I4 fu Tryz.f114 [s.box] [.ptr 0 0,.str w] K =
 (fi s 1 1 [.str w]).bind fun r=>K [r.2.box] (.bool r.1):=by kernel_rfl
theorem D7t (fi:PS->Int->Nat->List PV->Option (Bool×PS))(fu:Nat)(s:PS)(nl:Option Bool)(n:Nat)(ws:List PV)(K:List (List PV)->PV->Option R):C5 (F8 [] [(101,B18 fi)] []) I4 fu Tryz.f128 [s.box] [.ptr 0 0,.sl nl 1 n ws] K =
 (fi s 3 n ws).bind fun r=>K [r.2.box] (.bool r.1):=by kernel_rfl
def hdT {S:Type}(cs:List PV)(kk:TR->Option S):Option S:=hdI cs 0 fun k=>((((cs.drop (Fd1 0 * 7)).take 7).drop 0).tail.head?.bind fun x=>(x.asInt .i64).bind fun a=>(((cs.drop (Fd1 0 * 7)).take 7).drop 0).tail.tail.head?.bind fun x=>x.asStr.bind fun t=>(((cs.drop (Fd1 0 * 7)).take 7).drop 0).tail.tail.tail.head?.bind fun x=>(x.asInt .i64).bind fun vk=>(((cs.drop (Fd1 0 * 7)).take 7).drop 0).tail.tail.tail.tail.head?.bind fun x=>(x.asInt .i64).bind fun vn=>(((cs.drop (Fd1 0 * 7)).take 7).drop 0).tail.tail.tail.tail.tail.head?.bind fun x=>(x.asInt .i64).bind fun vc=>(((cs.drop (Fd1 0 * 7)).take 7).drop 0).tail.tail.tail.tail.tail.tail.head?.bind fun x=>x.asStr.bind fun vs=>kk ⟨k,a,t,vk,vn,vc,vs⟩)
theorem C9t (ff:PS->Option PS)(fu:Nat)(s:PS)(K:List (List PV)->PV->Option R):C5 (F8 [] [(52,tSU ff)] []) I4 fu Tryz.f102 [s.box] [.ptr 0 0] K =
 bif((s.n:Int)==0)then(ff s).bind fun s=>K [s.box] (.agg TR.zero.cells)else X0 (decide ((0:Int)<=0)&&decide ((0:Int)<s.n)) (hdT s.cs fun t=>X0 (decide ((0:Int)<=1)&&decide ((1:Int)<=s.n)) (K [(⟨s.nl,s.n-1,(s.cs.take (s.n * 7)).drop (1 * 7),s.e,s.o,s.b⟩:PS).box] (.agg t.cells))):=by kernel_rfl
theorem D6c (fk:PS->List UInt8->Option (Bool×PS))(ft:PS->Option (TR×PS))(fu:Nat)(s:PS)(w:List UInt8)(K:List (List PV)->PV->Option R):C5 (F8 [] [(114,pX fk),(102,tST ft)] []) I4 fu Tryz.f64 [s.box] [.ptr 0 0,.str w] K =
 (fk s w).bind fun r=>bif !r.1 then K [r.2.box] (.bool false)else(ft r.2).bind fun q=>K [q.2.box] (.bool true):=by kernel_rfl
theorem B06 (fs:PS->Nat->List PV->Option (Bool×PS))(ff:PS->Option PS)(ft:PS->Option (TR×PS))(fu:Nat)(s:PS)(w:List UInt8)(K:List (List PV)->PV->Option R):C5 (F8 [] [(128,tX fs),(52,tSU ff),(102,tST ft)] []) I4 fu Tryz.f126 [s.box] [.ptr 0 0,.str w] K =
 (fs s 1 [.str w]).bind fun r=>bif !r.1 then(ff r.2).bind fun s=>K [s.box] (.tuple [])else(ft r.2).bind fun q=>K [q.2.box] (.tuple []):=by kernel_rfl
theorem D0e (ff:PS->Option PS)(ft:PS->Option (TR×PS))(fu:Nat)(s:PS)(K:List (List PV)->PV->Option R):C5 (F8 [] [(52,tSU ff),(102,tST ft)] []) I4 fu Tryz.f115 [s.box] [.ptr 0 0] K =
 bif !((s.n:Int)==0)then X0 (decide ((0:Int)<=0)&&decide ((0:Int)<s.n)) (hdI s.cs 0 fun k=>bif k !=0 then(ff s).bind fun s=>K [s.box] (.str [])else(ft s).bind fun q=>K [q.2.box] (.str q.1.t))else(ff s).bind fun s=>K [s.box] (.str []):=by kernel_rfl
theorem B6t (ff:PS->Option PS)(ft:PS->Option (TR×PS))(fu:Nat)(s:PS)(m:Int)(K:List (List PV)->PV->Option R):C5 (F8 [] [(52,tSU ff),(102,tST ft)] []) I4 fu Tryz.f135 [s.box] [.ptr 0 0,.int .i64 m] K =
 bif !((s.n:Int)==0)then X0 (decide ((0:Int)<=0)&&decide ((0:Int)<s.n)) (hdI s.cs 0 fun k=>bif !(k !=2)then
  X0 (decide ((0:Int)<=0)&&decide ((0:Int)<s.n)) (hdI s.cs 3 fun vk=>bif !(vk !=2)then
  X0 (decide ((0:Int)<=0)&&decide ((0:Int)<s.n)) (hdJ s.cs 1 fun vn=>bif decide (m<vn)then(ff s).bind fun s=>K [s.box] (.int .i64 0)else(ft s).bind fun q=>K [q.2.box] (.int .i64 q.1.vn))
  else(ff s).bind fun s=>K [s.box] (.int .i64 0))else(ff s).bind fun s=>K [s.box] (.int .i64 0))else(ff s).bind fun s=>K [s.box] (.int .i64 0):=by kernel_rfl
theorem D1e (fi:Nat->List PV->List UInt8->Option Int)(fu:Nat)(w:List UInt8):C6 (en [(230,tCi fi)]) I4 fu false Tryz.f200 [.str w]=
 (fi 6 [.str [],.str [66,79,79,76],.str [73,78,84],.str [68,69,67,73,77,65,76],.str [84,69,88,84],.str [66,89,84,69,83]] w).bind fun i=>some (.int .i64 (if 0>i then 0 else i)):=by kernel_rfl
def C9k (w:List UInt8):Option PV:=bif w==[84,82,85,69]then some (.tuple [.agg [.int .i64 1,.int .i64 1,.int .i64 0,.str []],.bool true])else some (.tuple [.agg [.int .i64 1,.int .i64 0,.int .i64 0,.str []],.bool true])
def D8i (w:List UInt8):Option PV:=some (.tuple [.agg [.int .i64 0,.int .i64 0,.int .i64 0,.str []],.bool (w==[78,85,76,76])])
theorem D8h (fu:Nat)(w:List UInt8):C6 (en [(277,E8 [] I4 0 Tryz.f277)]) I4 fu false Tryz.f256 [.str w]=
 bif w==[84,82,85,69]then(bif w==[84,82,85,69]then C9k w else D8i w)else bif w==[70,65,76,83,69]then C9k w else D8i w:=by kernel_rfl
theorem B48 (fw:List UInt8->Option VR)(ft:PS->Option (TR×PS))(fu:Nat)(s:PS)(K:List (List PV)->PV->Option R):C5 (F8 [(256,tWV fw)] [(102,tST ft)] []) I4 fu Tryz.f229 [s.box] [.ptr 0 0] K =
 bif((s.n:Int)==0)then K [s.box] (.tuple [.agg [.int .i64 0,.int .i64 0,.int .i64 0,.str []],.bool false])else X0 (decide ((0:Int)<=0)&&decide ((0:Int)<s.n)) (hdT s.cs fun t =>
  bif t.k==2 then(ft s).bind fun q=>K [q.2.box] (.tuple [.agg [.int .i64 t.vk,.int .i64 t.vn,.int .i64 t.vc,.str t.vs],.bool true])else
  (fw t.t).bind fun v=>bif(bif t.k !=1 then true else !v.ok)then K [s.box] (.tuple [.agg [.int .i64 0,.int .i64 0,.int .i64 0,.str []],.bool false])else(ft s).bind fun q=>K [q.2.box] (.tuple [.agg [.int .i64 v.vk,.int .i64 v.vn,.int .i64 v.vc,.str v.vs],.bool true])):=by kernel_rfl
theorem C4j (fk:List UInt8->Option Int)(ff:PS->Option PS)(ft:PS->Option (TR×PS))(fw:PS->List UInt8->Option PS)(fn:PS->Int->Option (Int×PS))(fu:Nat)(s:PS)(K:List (List PV)->PV->Option R):C5 (F8 [(200,tWi fk)] [(52,tSU ff),(102,tST ft),(126,wT fw),(135,B9m fn)] []) I4 fu Tryz.f120 [s.box] [.ptr 0 0] K =
 bif !((s.n:Int)==0)then X0 (decide ((0:Int)<=0)&&decide ((0:Int)<s.n)) (hdI s.cs 0 fun k=>bif !(k !=1)then
  X0 (decide ((0:Int)<=0)&&decide ((0:Int)<s.n)) (hdS s.cs 2 fun w=>(fk w).bind fun j=>bif j==0 then(ff s).bind fun s=>K [s.box] (.agg [.int .i64 0,.int .i64 0])else
  (ft s).bind fun q=>(fk q.1.t).bind fun j=>bif j==3 then(fw q.2 [40]).bind fun s=>(fn s 6).bind fun m=>(fw m.2 [41]).bind fun s=>K [s.box] (.agg [.int .i64 j,.int .i64 m.1])else K [q.2.box] (.agg [.int .i64 j,.int .i64 0]))
  else(ff s).bind fun s=>K [s.box] (.agg [.int .i64 0,.int .i64 0]))else(ff s).bind fun s=>K [s.box] (.agg [.int .i64 0,.int .i64 0]):=by kernel_rfl
end
def PS.open (s:PS)(d:Int):PS:=⟨s.nl,s.n,s.cs,s.e,IntKind.i64.wrap (s.o+d),s.b⟩
def PS.shut (s:PS)(d:Int):PS:=⟨s.nl,s.n,s.cs,s.e,IntKind.i64.wrap (s.o-d),s.b⟩
def wW (a:Int)(op:List UInt8)(e:XR):XR:=⟨2,a,op,0,0,0,[],[],[],false,0,0,some false,1,e.cells⟩
def Z9 (a:Int)(op:List UInt8)(e y:XR):XR:=⟨3,a,op,0,0,0,[],[],[],false,0,0,some false,2,e.cells++y.cells⟩
def fS (a:Int)(nt:Bool)(e:XR):XR:=⟨4,a,[],0,0,0,[],[],[],nt,0,0,some false,1,e.cells⟩
def gG (a tk ts:Int)(e:XR):XR:=⟨6,a,[],0,0,0,[],[],[],false,tk,ts,some false,1,e.cells⟩
def S2 (a:Int)(op:List UInt8)(e:XR):XR:=⟨5,a,op,0,0,0,[],[],[],false,0,0,some false,1,e.cells⟩
def call0 (a:Int)(op:List UInt8):XR:=⟨5,a,op,0,0,0,[],[],[],false,0,0,some true,0,[]⟩
def pN (a vk vn vc:Int)(vs:List UInt8):XR:=⟨0,a,[],vk,vn,vc,vs,[],[],false,0,0,some true,0,[]⟩
def dX (a:Int)(tb nm:List UInt8):XR:=⟨1,a,[],0,0,0,[],tb,nm,false,0,0,some true,0,[]⟩
def mH {R:Type}(ff:PS->Option PS)(s:PS)(body:PS->(XR->PS->Option R)->Option R)(Kf:PS->Option R)(K:XR->PS->Option R):Option R :=
 bif decide ((20:Int)<=s.o)then(ff s).bind fun s=>Kf s else body (s.open 1) fun x s=>K x (s.shut 1)
def dJ {R:Type}(fs:PS->Nat->List PV->Option (Bool×PS))(ff:PS->Option PS)(ft:PS->Option (TR×PS))(fw:PS->List UInt8->Option PS)(s:PS)(body:PS->(XR->PS->Option R)->Option R)(Kf:PS->Option R)(K:XR->PS->Option R):Option R :=
 (fs s 1 [.str [40]]).bind fun r=>bif !r.1 then(ff r.2).bind fun s=>Kf s else mH ff r.2 (fun s kk=>(ft s).bind fun t=>body t.2 fun x s=>(fw s [41]).bind fun s=>kk x s) Kf K
section
variable {R:Type}
noncomputable def C2o (ff:PS->Option PS)(ld:List (FuncId×H7)):H7:=E7k [] ((52,tSU ff)::ld) [] [(225,sE [] [] [] I4 0 Tryz.f225)] I4 0 Tryz.f180
theorem E2y (fk:PS->List UInt8->Option (Bool×PS))(fc fn:PS->Option (XR×PS))(ff:PS->Option PS)(ft:PS->Option (TR×PS))(fu:Nat)(s:PS)(K:List (List PV)->PV->Option R) :
 C5 (F8 [] [(114,pX fk),(179,rS fc),(180,C2o ff [(181,sE [] [(102,tST ft),(98,rS fn)] [] I4 0 Tryz.f181)])] []) I4 fu Tryz.f98 [s.box] [.ptr 0 0] K =
 (fk s [78,79,84]).bind fun r=>bif !r.1 then(fc r.2).bind fun q=>K [q.2.box] (.agg q.1.cells)else
  mH ff r.2 (fun s kk=>(ft s).bind fun t=>(fn t.2).bind fun e=>kk (wW t.1.a [78,79,84] e.1) e.2) (fun s=>K [s.box] (.agg XR.zero.cells)) fun x s=>K [s.box] (.agg x.cells):=by kernel_rfl
theorem D4q (fs:PS->Nat->List PV->Option (Bool×PS))(fc fn:PS->Option (XR×PS))(ff:PS->Option PS)(ft:PS->Option (TR×PS))(fu:Nat)(s:PS)(K:List (List PV)->PV->Option R) :
 C5 (F8 [] [(128,tX fs),(182,rS fc),(180,C2o ff [(183,sE [] [(102,tST ft),(99,rS fn)] [] I4 0 Tryz.f183)])] []) I4 fu Tryz.f99 [s.box] [.ptr 0 0] K =
 (fs s 1 [.str [45]]).bind fun r=>bif !r.1 then(fc r.2).bind fun q=>K [q.2.box] (.agg q.1.cells)else
  mH ff r.2 (fun s kk=>(ft s).bind fun t=>(fn t.2).bind fun e=>kk (wW t.1.a [45] e.1) e.2) (fun s=>K [s.box] (.agg XR.zero.cells)) fun x s=>K [s.box] (.agg x.cells):=by kernel_rfl
noncomputable def C11 (fs:PS->Nat->List PV->Option (Bool×PS))(ff:PS->Option PS)(ft:PS->Option (TR×PS))(fw:PS->List UInt8->Option PS)(ld:List (FuncId×H7)):H7 :=
 sE [] [(128,tX fs),(52,tSU ff),(180,C2o ff [(253,sE [] ((102,tST ft)::(126,wT fw)::ld) [] I4 0 Tryz.f253)])] [] I4 0 Tryz.f226
theorem C7m (fs:PS->Nat->List PV->Option (Bool×PS))(ff:PS->Option PS)(ft:PS->Option (TR×PS))(fw:PS->List UInt8->Option PS)(fe:PS->Option (XR×PS))(fwa:PS->List UInt8->Option PS)(fy:PS->Option ((Int×Int)×PS))(fu:Nat)(s:PS)(K:List (List PV)->PV->Option R) :
 C5 (F8 [] [(102,tST ft),(226,C11 fs ff ft fw [(254,sE [] [(22,rS fe),(118,wT fwa),(120,tSY fy)] [] I4 0 Tryz.f254)])] []) I4 fu Tryz.f227 [s.box] [.ptr 0 0] K =
 (ft s).bind fun t=>dJ fs ff ft fw t.2 (fun s kk=>(fe s).bind fun e=>(fwa e.2 [65,83]).bind fun s=>(fy s).bind fun y=>kk (gG t.1.a y.1.1 y.1.2 e.1) y.2) (fun s=>K [s.box] (.agg XR.zero.cells)) fun x s=>K [s.box] (.agg x.cells):=by kernel_rfl
theorem D0v (fs:PS->Nat->List PV->Option (Bool×PS))(ff:PS->Option PS)(ft:PS->Option (TR×PS))(fw:PS->List UInt8->Option PS)(fe:PS->Option (XR×PS))(fu:Nat)(s:PS)(K:List (List PV)->PV->Option R) :
 C5 (F8 [] [(102,tST ft),(226,C11 fs ff ft fw [(255,sE [] [(128,tX fs),(102,tST ft),(22,rS fe)] [] I4 0 Tryz.f255)])] []) I4 fu Tryz.f228 [s.box] [.ptr 0 0] K =
 (ft s).bind fun t=>dJ fs ff ft fw t.2 (fun s kk=>bif t.1.t==[67,79,85,78,84]then(fs s 1 [.str [42]]).bind fun r=>(bif r.1 then(ft r.2).bind fun q=>kk (call0 t.1.a t.1.t) q.2 else(fe r.2).bind fun e=>kk (S2 t.1.a t.1.t e.1) e.2)else(fe s).bind fun e=>kk (S2 t.1.a t.1.t e.1) e.2)
  (fun s=>K [s.box] (.agg (call0 t.1.a t.1.t).cells)) fun x s=>K [s.box] (.agg x.cells):=by kernel_rfl
theorem D87 (fa:PS->Option (Int×PS))(fs:PS->Nat->List PV->Option (Bool×PS))(ff:PS->Option PS)(ft:PS->Option (TR×PS))(fw:PS->List UInt8->Option PS)(fe:PS->Option (XR×PS))(fk:PS->List UInt8->Option (Bool×PS))(fi:PS->Int->Nat->List PV->Option (Bool×PS))(fca fcl:PS->Option (XR×PS))(fl:PS->Option (VR×PS))(fnm:PS->Option (List UInt8×PS))(fu:Nat)(s:PS)(K:List (List PV)->PV->Option R) :
 C5 (F8 [] [(96,tSI fa),(128,tX fs),(226,C11 fs ff ft fw [(22,rS fe)]),(114,pX fk),(101,B18 fi),(227,rS fca),(228,rS fcl),(229,tSL fl),(115,tSS fnm),(102,tST ft)] []) I4 fu Tryz.f182 [s.box] [.ptr 0 0] K =
 (fa s).bind fun a=>(fs a.2 1 [.str [40]]).bind fun r=>bif r.1 then dJ fs ff ft fw r.2 (fun s kk=>(fe s).bind fun e=>kk e.1 e.2) (fun s=>K [s.box] (.agg XR.zero.cells)) (fun x s=>K [s.box] (.agg x.cells))else
  (fk r.2 [67,65,83,84]).bind fun r=>bif r.1 then(fca r.2).bind fun e=>K [e.2.box] (.agg e.1.cells)else
  (fi r.2 1 4 [.str [67,79,85,78,84],.str [83,85,77],.str [77,73,78],.str [77,65,88]]).bind fun r=>bif r.1 then(fcl r.2).bind fun e=>K [e.2.box] (.agg e.1.cells)else
  (fl r.2).bind fun v=>bif v.1.ok then K [v.2.box] (.agg (pN a.1 v.1.vk v.1.vn v.1.vc v.1.vs).cells)else
  (fnm v.2).bind fun n=>(fs n.2 1 [.str [46]]).bind fun r=>bif r.1 then(ft r.2).bind fun t=>(fnm t.2).bind fun m=>K [m.2.box] (.agg (dX a.1 n.1 m.1).cells)else K [r.2.box] (.agg (dX a.1 [] n.1).cells):=by kernel_rfl
def F5b:List PV:=[.str [61],.str [60,62],.str [60],.str [60,61],.str [62],.str [62,61]]
theorem C59 (fs:PS->Nat->List PV->Option (Bool×PS))(ft:PS->Option (TR×PS))(fsu:PS->Option (XR×PS))(fk fsk:PS->List UInt8->Option (Bool×PS))(fwa:PS->List UInt8->Option PS)(fu:Nat)(s:PS)(K:List (List PV)->PV->Option R) :
 C5 (F8 [] [(224,rS fsu),(128,tX fs),(102,tST ft),(114,pX fk),(64,pX fsk),(118,wT fwa)] []) I4 fu Tryz.f179 [s.box] [.ptr 0 0] K =
 (fsu s).bind fun e=>(fs e.2 6 F5b).bind fun r=>bif r.1 then(ft r.2).bind fun t=>(fsu t.2).bind fun y=>K [y.2.box] (.agg (Z9 t.1.a t.1.t e.1 y.1).cells)else
  (fk r.2 [73,83]).bind fun r=>bif !r.1 then K [r.2.box] (.agg e.1.cells)else(ft r.2).bind fun t=>(fsk t.2 [78,79,84]).bind fun n=>(fwa n.2 [78,85,76,76]).bind fun s=>K [s.box] (.agg (fS t.1.a n.1 e.1).cells):=by kernel_rfl
theorem E5o (fc:PS->Int->Option (XR×PS))(fu:Nat)(s:PS)(K:List (List PV)->PV->Option R):C5 (F8 [] [(53,A58 fc)] []) I4 fu Tryz.f224 [s.box] [.ptr 0 0] K=(fc s 2).bind fun e=>K [e.2.box] (.agg e.1.cells):=by kernel_rfl
theorem D0l (fc:PS->Int->Option (XR×PS))(fu:Nat)(s:PS)(K:List (List PV)->PV->Option R):C5 (F8 [] [(53,A58 fc)] []) I4 fu Tryz.f22 [s.box] [.ptr 0 0] K=(fc s 0).bind fun e=>K [e.2.box] (.agg e.1.cells):=by kernel_rfl
end
def wZ (n m:Nat)(l:List (Nat×TV))(b:List (Nat×List TV)):St:=⟨(List.range n).map fun t=>(l.lookup t).getD (.undef,0),(List.range m).map fun t=>b.lookup t,.nil⟩
noncomputable def fCh:Func:=Tryz.f53
def hCh:B4:=⟨[],[(1,⟨[(2,false),(3,false),(4,false),(5,false),(6,false),(7,false)],[2,3,4,6,7,43]⟩)]⟩
noncomputable def E8a:D5:=E8 [] I4 0 Tryz.f100
noncomputable def F6d (fc:PS->Int->Option (XR×PS))(fn ff:PS->Option (XR×PS))(fi:PS->Int->Nat->List PV->Option (Bool×PS))(ft:PS->Option (TR×PS)):List (FuncId×H7) :=
 [(97,sE [] [(53,A58 fc)] [] I4 0 Tryz.f97),(98,rS fn),(99,rS ff),(101,B18 fi),(102,tST ft)]
noncomputable def A4h (fc:PS->Int->Option (XR×PS))(fn ff:PS->Option (XR×PS))(fi:PS->Int->Nat->List PV->Option (Bool×PS))(ft:PS->Option (TR×PS)):K6:=F8 [(100,E8a)] (F6d fc fn ff fi ft) []
def F57 (n:Nat):PV:=match n with
 |1=>.clo (1000000+98) [.ptr 43 0]
 |3=>.clo (1000000+99) [.ptr 43 0]
 |_=>.clo 97 [.ptr 2 0,.ptr 3 0]
def B3z (n:Nat):Int:=match n with|0=>1|1=>1|_=>3
def rV (n:Nat):List PV:=match n with|0=>[.str [79,82]]|1=>[.str [65,78,68]]|2=>[.str [43],.str [45]]|_=>[.str [42],.str [47],.str [37]]
def sR (n:Nat)(e:XR)(s:PS):St:=wZ 43 44 [(2,(.ptr 2 0,0)),(3,(.ptr 3 0,0)),(4,(.ptr 4 0,0)),(5,(F57 n,0)),(6,(.ptr 6 0,0)),(7,(.ptr 7 0,0))]
 [(2,[(.ptr 43 0,0)]),(3,[(.int .i64 n,0)]),(4,XR.zero.cells.map fun x=>(x,0)),(6,[(.int .i64 (B3z n),0),(.sl (some false) 1 (rV n).length (rV n),0)]),(7,e.cells.map fun x=>(x,0)),(43,s.box.map fun x=>(x,0))]
section
variable {R:Type}
noncomputable def C4m (fc:PS->Int->Option (XR×PS))(fn ff:PS->Option (XR×PS))(fi:PS->Int->Nat->List PV->Option (Bool×PS))(ft:PS->Option (TR×PS))(K:List (List PV)->PV->Option R)(st:St):Option R:=bZ (A4h fc fn ff fi ft) 1 fCh st fun bs _ v=>K bs v
noncomputable def chL (fc:PS->Int->Option (XR×PS))(fn ff:PS->Option (XR×PS))(fi:PS->Int->Nat->List PV->Option (Bool×PS))(ft:PS->Option (TR×PS))(fu:Nat)(K:List (List PV)->PV->Option R)(m:Nat)(st:St):Option R :=
 kZ (A4h fc fn ff fi ft) hCh fu (C4m fc fn ff fi ft K) fCh (fun _=>none) [1,1,1,1,1,0,0] 1 m st
theorem D9g (fc:PS->Int->Option (XR×PS))(fn ff:PS->Option (XR×PS))(fi:PS->Int->Nat->List PV->Option (Bool×PS))(ft:PS->Option (TR×PS))(fu:Nat)(s:PS)(K:List (List PV)->PV->Option R) :
 C5 (A4h fc fn ff fi ft) hCh fu fCh [s.box] [.ptr 0 0,.int .i64 0] K=(fc s (IntKind.i64.wrap (0+1))).bind fun e=>chL fc fn ff fi ft fu K fu (sR 0 e.1 e.2):=V7.trans (by kernel_rfl)
theorem E3t (fc:PS->Int->Option (XR×PS))(fn ff:PS->Option (XR×PS))(fi:PS->Int->Nat->List PV->Option (Bool×PS))(ft:PS->Option (TR×PS))(fu:Nat)(s:PS)(K:List (List PV)->PV->Option R) :
 C5 (A4h fc fn ff fi ft) hCh fu fCh [s.box] [.ptr 0 0,.int .i64 1] K=(fn s).bind fun e=>chL fc fn ff fi ft fu K fu (sR 1 e.1 e.2):=V7.trans (by kernel_rfl)
theorem E1p (fc:PS->Int->Option (XR×PS))(fn ff:PS->Option (XR×PS))(fi:PS->Int->Nat->List PV->Option (Bool×PS))(ft:PS->Option (TR×PS))(fu:Nat)(s:PS)(K:List (List PV)->PV->Option R) :
 C5 (A4h fc fn ff fi ft) hCh fu fCh [s.box] [.ptr 0 0,.int .i64 2] K=(fc s (IntKind.i64.wrap (2+1))).bind fun e=>chL fc fn ff fi ft fu K fu (sR 2 e.1 e.2):=V7.trans (by kernel_rfl)
theorem E2j (fc:PS->Int->Option (XR×PS))(fn ff:PS->Option (XR×PS))(fi:PS->Int->Nat->List PV->Option (Bool×PS))(ft:PS->Option (TR×PS))(fu:Nat)(s:PS)(K:List (List PV)->PV->Option R) :
 C5 (A4h fc fn ff fi ft) hCh fu fCh [s.box] [.ptr 0 0,.int .i64 3] K=(ff s).bind fun e=>chL fc fn ff fi ft fu K fu (sR 3 e.1 e.2):=V7.trans (by kernel_rfl)
theorem D5o (fc:PS->Int->Option (XR×PS))(fn ff:PS->Option (XR×PS))(fi:PS->Int->Nat->List PV->Option (Bool×PS))(ft:PS->Option (TR×PS))(fu:Nat)(e:XR)(s:PS)(K:List (List PV)->PV->Option R)(G:St->Option R) :
 gJ (A4h fc fn ff fi ft) hCh fu (C4m fc fn ff fi ft K) fCh [1,1,1,1,1,0,0] (fun _=>none) (sR 0 e s) (fun st=>C2 (hCh.loop.lookup 1) st G)=
  (fi s (B3z 0) (rV 0).length (rV 0)).bind fun r=>bif r.1 then(ft r.2).bind fun t=>(fc t.2 (IntKind.i64.wrap (0+1))).bind fun y=>G (sR 0 (Z9 t.1.a t.1.t e y.1) y.2)else K [r.2.box] (.agg e.cells):=by kernel_rfl
theorem D65 (fc:PS->Int->Option (XR×PS))(fn ff:PS->Option (XR×PS))(fi:PS->Int->Nat->List PV->Option (Bool×PS))(ft:PS->Option (TR×PS))(fu:Nat)(e:XR)(s:PS)(K:List (List PV)->PV->Option R)(G:St->Option R) :
 gJ (A4h fc fn ff fi ft) hCh fu (C4m fc fn ff fi ft K) fCh [1,1,1,1,1,0,0] (fun _=>none) (sR 1 e s) (fun st=>C2 (hCh.loop.lookup 1) st G)=
  (fi s (B3z 1) (rV 1).length (rV 1)).bind fun r=>bif r.1 then(ft r.2).bind fun t=>(fn t.2).bind fun y=>G (sR 1 (Z9 t.1.a t.1.t e y.1) y.2)else K [r.2.box] (.agg e.cells):=by kernel_rfl
theorem D40 (fc:PS->Int->Option (XR×PS))(fn ff:PS->Option (XR×PS))(fi:PS->Int->Nat->List PV->Option (Bool×PS))(ft:PS->Option (TR×PS))(fu:Nat)(e:XR)(s:PS)(K:List (List PV)->PV->Option R)(G:St->Option R) :
 gJ (A4h fc fn ff fi ft) hCh fu (C4m fc fn ff fi ft K) fCh [1,1,1,1,1,0,0] (fun _=>none) (sR 2 e s) (fun st=>C2 (hCh.loop.lookup 1) st G)=
  (fi s (B3z 2) (rV 2).length (rV 2)).bind fun r=>bif r.1 then(ft r.2).bind fun t=>(fc t.2 (IntKind.i64.wrap (2+1))).bind fun y=>G (sR 2 (Z9 t.1.a t.1.t e y.1) y.2)else K [r.2.box] (.agg e.cells):=by kernel_rfl
theorem D3i (fc:PS->Int->Option (XR×PS))(fn ff:PS->Option (XR×PS))(fi:PS->Int->Nat->List PV->Option (Bool×PS))(ft:PS->Option (TR×PS))(fu:Nat)(e:XR)(s:PS)(K:List (List PV)->PV->Option R)(G:St->Option R) :
 gJ (A4h fc fn ff fi ft) hCh fu (C4m fc fn ff fi ft K) fCh [1,1,1,1,1,0,0] (fun _=>none) (sR 3 e s) (fun st=>C2 (hCh.loop.lookup 1) st G)=
  (fi s (B3z 3) (rV 3).length (rV 3)).bind fun r=>bif r.1 then(ft r.2).bind fun t=>(ff t.2).bind fun y=>G (sR 3 (Z9 t.1.a t.1.t e y.1) y.2)else K [r.2.box] (.agg e.cells):=by kernel_rfl
end
noncomputable def fWa:Func:=Tryz.f118
def hWa:B4:=⟨[],[(0,⟨[(0,false),(7,false),(8,false),(9,false)],[20]⟩)]⟩
noncomputable def E0g (ff:List UInt8->Option (Option Bool×Nat×List PV))(fs:PS->List UInt8->Option (Bool×PS))(fa:PS->Option PS):K6:=F8 [(198,tWs ff)] [(64,pX fs),(52,tSU fa)] []
def D15 (nl:Option Bool)(n:Nat)(ws:List PV)(L i:Int)(s:PS):St:=wZ 20 21 [(0,(.ptr 20 0,0)),(7,(.sl nl 1 n ws,0)),(8,(.int .i64 L,0)),(9,(.int .i64 i,0))] [(20,s.box.map fun x=>(x,0))]
section
variable {R:Type}
noncomputable def F61 (ff:List UInt8->Option (Option Bool×Nat×List PV))(fs:PS->List UInt8->Option (Bool×PS))(fa:PS->Option PS)(K:List (List PV)->PV->Option R)(st:St):Option R:=bZ (E0g ff fs fa) 1 fWa st fun bs _ v=>K bs v
noncomputable def waL (ff:List UInt8->Option (Option Bool×Nat×List PV))(fs:PS->List UInt8->Option (Bool×PS))(fa:PS->Option PS)(fu:Nat)(K:List (List PV)->PV->Option R)(m:Nat)(st:St):Option R :=
 kZ (E0g ff fs fa) hWa fu (F61 ff fs fa K) fWa (fun _=>none) [1,0] 0 m st
theorem F2i (ff:List UInt8->Option (Option Bool×Nat×List PV))(fs:PS->List UInt8->Option (Bool×PS))(fa:PS->Option PS)(fu:Nat)(s:PS)(w:List UInt8)(K:List (List PV)->PV->Option R) :
 C5 (E0g ff fs fa) hWa fu fWa [s.box] [.ptr 0 0,.str w] K=(ff w).bind fun r=>waL ff fs fa fu K fu (D15 r.1 r.2.1 r.2.2 (r.2.1:Int) 0 s):=V7.trans (by kernel_rfl)
theorem C2r (ff:List UInt8->Option (Option Bool×Nat×List PV))(fs:PS->List UInt8->Option (Bool×PS))(fa:PS->Option PS)(fu:Nat)(nl:Option Bool)(n:Nat)(ws:List PV)(L i:Int)(s:PS)(K:List (List PV)->PV->Option R)(G:St->Option R) :
 gJ (E0g ff fs fa) hWa fu (F61 ff fs fa K) fWa [1,0] (fun _=>none) (D15 nl n ws L i s) (fun st=>C2 (hWa.loop.lookup 0) st G)=
  bif decide (i<L)then X0 (decide (0<=i)&&decide (i<(n:Int))) (((ws.drop (i.toNat * 1)).take 1).head?.bind fun x=>x.asStr.bind fun w=>(fs s w).bind fun r=>bif !r.1 then(fa r.2).bind fun s=>G (D15 nl n ws L (IntKind.i64.wrap (i+1)) s)else G (D15 nl n ws L (IntKind.i64.wrap (i+1)) r.2))else K [s.box] (.tuple []):=by kernel_rfl
structure LX where
 nl:Option Bool
 n:Nat
 cs:List PV
 a:Int
 e:Int
def tLx (f:List UInt8->Option LX):D5:=⟨fun xs k=>match xs with|[.str s]=>(f s).bind fun r=>k (.tuple [.sl r.nl 7 r.n r.cs,.int .i64 r.a,.int .i64 r.e])|_=>none,false⟩
def tXB (f:XR->Option Bool):D5:=⟨fun xs k=>match xs with|[.agg [.int .i64 k1,.int .i64 a,.str op,.int .i64 vk,.int .i64 vn,.int .i64 vc,.str vs,.str tb,.str nm,.bool nt,.int .i64 tk,.int .i64 ts,.sl knl z kn kc]]=>if z=13 then(f ⟨k1,a,op,vk,vn,vc,vs,tb,nm,nt,tk,ts,knl,kn,kc⟩).bind fun b=>k (.bool b)else none|_=>none,false⟩
def C1a (e:XR)(s:PS):Option PV:=bif decide ((0:Int)<=s.b)then some (.tuple [.agg XR.zero.cells,.int .i64 s.b,.int .i64 170])else some (.tuple [.agg e.cells,.int .i64 0,.int .i64 0])
def A3f (fr:XR->Option Bool)(e:XR)(s:PS):Option PV:=bif decide (s.b<0)then(fr e).bind fun ok=>bif !ok then C1a e ⟨s.nl,s.n,s.cs,s.e,s.o,0⟩else C1a e s else C1a e s
theorem D0o (fl:List UInt8->Option LX)(fe:PS->Option (XR×PS))(ff:PS->Option PS)(fr:XR->Option Bool)(fu:Nat)(w:List UInt8) :
 C6 (F8 [(51,tLx fl),(23,tXB fr)] [(22,rS fe),(52,tSU ff)] []) I4 fu false Tryz.f21 [.str w,.clo 22 [],.clo 23 []]=
  (fl w).bind fun l=>bif l.e !=0 then some (.tuple [.agg XR.zero.cells,.int .i64 l.a,.int .i64 l.e])else(fe ⟨l.nl,l.n,l.cs,(w.length:Int),0,-1⟩).bind fun e=>bif decide ((0:Int)<(e.2.n:Int))then(ff e.2).bind fun s=>A3f fr e.1 s else A3f fr e.1 e.2:=by kernel_rfl
end
structure RS where
 nl:Option Bool
 n:Nat
 cs:List PV
 i:Int
 e:Int
 o:Int
 b:Int
def RS.box (s:RS):List PV:=[.sl s.nl 7 s.n s.cs,.int .i64 s.i,.int .i64 s.e,.int .i64 s.o,.int .i64 s.b]
def RS.next (s:RS):RS:=⟨s.nl,s.n,s.cs,IntKind.i64.wrap (s.i+1),s.e,s.o,s.b⟩
def RS.open (s:RS):RS:=⟨s.nl,s.n,s.cs,s.i,s.e,IntKind.i64.wrap (s.o+1),s.b⟩
def RS.shut (s:RS):RS:=⟨s.nl,s.n,s.cs,s.i,s.e,IntKind.i64.wrap (s.o-1),s.b⟩
def oF {R:Type}(bs:List (List PV))(k:RS->Option R):Option R :=
 match bs with
 |[[.sl nl z n cs,.int .i64 i,.int .i64 e,.int .i64 o,.int .i64 b]]=>if z=7 then k ⟨nl,n,cs,i,e,o,b⟩else none
 |_=>none
def tRI (f:RS->Option (Int×RS)):H7:=⟨fun bs xs k=>match xs with
 |[.ptr 0 0]=>oF bs fun s=>(f s).bind fun r=>k [r.2.box] (.int .i64 r.1)
 |_=>none⟩
def tRU (f:RS->Option RS):H7:=⟨fun bs xs k=>match xs with
 |[.ptr 0 0]=>oF bs fun s=>(f s).bind fun r=>k [r.box] (.tuple [])
 |_=>none⟩
def zU (f:RS->Int->Option RS):H7:=⟨fun bs xs k=>match xs with
 |[.ptr 0 0,.int .i64 a]=>oF bs fun s=>(f s a).bind fun r=>k [r.box] (.tuple [])
 |_=>none⟩
def B1a (f:RS->Nat->List PV->Option RS):H7:=⟨fun bs xs k=>match xs with
 |[.ptr 0 0,.sl _ z n ws]=>if z=1 then oF bs fun s=>(f s n ws).bind fun r=>k [r.box] (.tuple [])else none
 |_=>none⟩
def tRB (f:RS->Option (Bool×RS)):H7:=⟨fun bs xs k=>match xs with
 |[.ptr 0 0]=>oF bs fun s=>(f s).bind fun r=>k [r.2.box] (.bool r.1)
 |_=>none⟩
def qA (f:RS->List UInt8->Option (Bool×RS)):H7:=⟨fun bs xs k=>match xs with
 |[.ptr 0 0,.str w]=>oF bs fun s=>(f s w).bind fun r=>k [r.2.box] (.bool r.1)
 |_=>none⟩
def tRS (f:RS->Option (List UInt8×RS)):H7:=⟨fun bs xs k=>match xs with
 |[.ptr 0 0]=>oF bs fun s=>(f s).bind fun r=>k [r.2.box] (.str r.1)
 |_=>none⟩
def C41 (f:RS->Int->Option (Int×RS)):H7:=⟨fun bs xs k=>match xs with
 |[.ptr 0 0,.int .i64 a]=>oF bs fun s=>(f s a).bind fun r=>k [r.2.box] (.int .i64 r.1)
 |_=>none⟩
def tRY (f:RS->Option ((Int×Int)×RS)):H7:=⟨fun bs xs k=>match xs with
 |[.ptr 0 0]=>oF bs fun s=>(f s).bind fun r=>k [r.2.box] (.agg [.int .i64 r.1.1,.int .i64 r.1.2])
 |_=>none⟩
def tRL (f:RS->Option (VR×RS)):H7:=⟨fun bs xs k=>match xs with
 |[.ptr 0 0]=>oF bs fun s=>(f s).bind fun r=>k [r.2.box] (.tuple [.agg [.int .i64 r.1.vk,.int .i64 r.1.vn,.int .i64 r.1.vc,.str r.1.vs],.bool r.1.ok])
 |_=>none⟩
def tRX (f:RS->Option (XR×RS)):H7:=⟨fun bs xs k=>match xs with
 |[.ptr 0 0]=>oF bs fun s=>(f s).bind fun r=>k [r.2.box] (.agg r.1.cells)
 |_=>none⟩
def A3c (f:RS->Int->Option (XR×RS)):H7:=⟨fun bs xs k=>match xs with
 |[.ptr 0 0,.int .i64 a]=>oF bs fun s=>(f s a).bind fun r=>k [r.2.box] (.agg r.1.cells)
 |_=>none⟩
def lT {R:Type}(x:PV)(k:XR->Option R):Option R:=match x with
 |.agg [.int .i64 k1,.int .i64 a,.str op,.int .i64 vk,.int .i64 vn,.int .i64 vc,.str vs,.str tb,.str nm,.bool nt,.int .i64 tk,.int .i64 ts,.sl knl z kn kc]=>if z=13 then k ⟨k1,a,op,vk,vn,vc,vs,tb,nm,nt,tk,ts,knl,kn,kc⟩else none
 |_=>none
def B9a (f:RS->XR->Int->Int->Option (XR×RS)):H7:=⟨fun bs xs k=>match xs with
 |[.ptr 0 0,x,.int .i64 l,.int .i64 h]=>oF bs fun s=>lT x fun e=>(f s e l h).bind fun r=>k [r.2.box] (.agg r.1.cells)
 |_=>none⟩
def tkI {S:Type}(cs:List PV)(i:Int)(k:Nat)(kk:Int->Option S):Option S:=(((cs.drop (i.toNat * 7)).take 7).drop k).head?.bind fun x=>(x.asInt .i64).bind kk
def tkS {S:Type}(cs:List PV)(i:Int)(k:Nat)(kk:List UInt8->Option S):Option S:=(((cs.drop (i.toNat * 7)).take 7).drop k).head?.bind fun x=>x.asStr.bind kk
def tkJ {S:Type}(cs:List PV)(i:Int)(k:Nat)(kk:Int->Option S):Option S:=((((cs.drop (i.toNat * 7)).take 7).drop 3).drop k).head?.bind fun x=>(x.asInt .i64).bind kk
def tkV {S:Type}(cs:List PV)(i:Int)(kk:Int->Int->Int->List UInt8->Option S):Option S :=
 (((cs.drop (i.toNat * 7)).take 7).drop 3).head?.bind fun x=>(x.asInt .i64).bind fun vk=>(((cs.drop (i.toNat * 7)).take 7).drop 3).tail.head?.bind fun x=>(x.asInt .i64).bind fun vn=>(((cs.drop (i.toNat * 7)).take 7).drop 3).tail.tail.head?.bind fun x=>(x.asInt .i64).bind fun vc=>(((cs.drop (i.toNat * 7)).take 7).drop 3).tail.tail.tail.head?.bind fun x=>x.asStr.bind fun vs=>kk vk vn vc vs
def RS.inB (s:RS):Bool:=decide (0<=s.i)&&decide (s.i<(s.n:Int))
def cQ {S:Type}(s:RS)(x a:Option S):Option S:=bif decide (s.b<0)then(bif decide (s.i<(s.n:Int))then x else a)else a
section
variable {R:Type}
theorem E5d (fu:Nat)(s:RS)(K:List (List PV)->PV->Option R):C5 (F8 [] [] []) I4 fu Tryz.f26 [s.box] [.ptr 0 0] K =
 bif decide (s.i<(s.n:Int))then X0 s.inB (tkI s.cs s.i 1 fun a=>K [s.box] (.int .i64 a))else K [s.box] (.int .i64 s.e):=by kernel_rfl
theorem B9g (fu:Nat)(s:RS)(a:Int)(K:List (List PV)->PV->Option R):C5 (F8 [] [] []) I4 fu Tryz.f109 [s.box] [.ptr 0 0,.int .i64 a] K =
 bif decide (s.b<0)then K [(⟨s.nl,s.n,s.cs,s.i,s.e,s.o,a⟩:RS).box] (.tuple [])else K [s.box] (.tuple []):=by kernel_rfl
theorem C45 (fu:Nat)(s:RS)(w:List UInt8)(K:List (List PV)->PV->Option R):C5 (F8 [] [] []) I4 fu Tryz.f59 [s.box] [.ptr 0 0,.str w] K =
 cQ s (X0 s.inB (tkI s.cs s.i 0 fun k=>bif !(k==1)then X0 s.inB (tkI s.cs s.i 0 fun k=>bif k==3 then X0 s.inB (tkS s.cs s.i 2 fun t=>K [s.box] (.bool (t==w)))else K [s.box] (.bool false))else X0 s.inB (tkS s.cs s.i 2 fun t=>K [s.box] (.bool (t==w))))) (K [s.box] (.bool false)):=by kernel_rfl
theorem C5p (fs:RS->List UInt8->Option (Bool×RS))(fu:Nat)(s:RS)(w:List UInt8)(K:List (List PV)->PV->Option R):C5 (F8 [] [(59,qA fs)] []) I4 fu Tryz.f110 [s.box] [.ptr 0 0,.str w] K =
 (fs s w).bind fun r=>bif r.1 then K [r.2.next.box] (.bool true)else K [r.2.box] (.bool false):=by kernel_rfl
theorem C48 (fa:RS->Option (Int×RS))(ff:RS->Int->Option RS)(fu:Nat)(s:RS)(K:List (List PV)->PV->Option R):C5 (F8 [] [(26,tRI fa),(109,zU ff)] []) I4 fu Tryz.f195 [s.box] [.ptr 0 0] K =
 cQ s (X0 s.inB (tkI s.cs s.i 0 fun k=>bif k==0 then X0 (decide (0<=IntKind.i64.wrap (IntKind.i64.wrap (s.i+1)-1))&&decide (IntKind.i64.wrap (IntKind.i64.wrap (s.i+1)-1)<(s.n:Int))) (tkS s.cs (IntKind.i64.wrap (IntKind.i64.wrap (s.i+1)-1)) 2 fun t=>K [s.next.box] (.str t))else(fa s).bind fun a=>(ff a.2 a.1).bind fun s=>K [s.box] (.str []))) ((fa s).bind fun a=>(ff a.2 a.1).bind fun s=>K [s.box] (.str [])):=by kernel_rfl
theorem D6m (fa:RS->Option (Int×RS))(ff:RS->Int->Option RS)(fu:Nat)(s:RS)(m:Int)(K:List (List PV)->PV->Option R):C5 (F8 [] [(26,tRI fa),(109,zU ff)] []) I4 fu Tryz.f232 [s.box] [.ptr 0 0,.int .i64 m] K =
 cQ s (X0 s.inB (tkI s.cs s.i 0 fun k=>bif k==2 then X0 s.inB (tkI s.cs s.i 3 fun vk=>bif vk==2 then X0 s.inB (tkJ s.cs s.i 1 fun vn=>bif decide (vn<=m)then X0 (decide (0<=IntKind.i64.wrap (IntKind.i64.wrap (s.i+1)-1))&&decide (IntKind.i64.wrap (IntKind.i64.wrap (s.i+1)-1)<(s.n:Int))) (tkJ s.cs (IntKind.i64.wrap (IntKind.i64.wrap (s.i+1)-1)) 1 fun t=>K [s.next.box] (.int .i64 t))else(fa s).bind fun a=>(ff a.2 a.1).bind fun s=>K [s.box] (.int .i64 0))else(fa s).bind fun a=>(ff a.2 a.1).bind fun s=>K [s.box] (.int .i64 0))else(fa s).bind fun a=>(ff a.2 a.1).bind fun s=>K [s.box] (.int .i64 0))) ((fa s).bind fun a=>(ff a.2 a.1).bind fun s=>K [s.box] (.int .i64 0)):=by kernel_rfl
theorem C5y (fa:RS->Option (Int×RS))(ff:RS->Int->Option RS)(fu:Nat)(s:RS)(K:List (List PV)->PV->Option R):C5 (F8 [] [(26,tRI fa),(109,zU ff)] []) I4 fu Tryz.f60 [s.box] [.ptr 0 0] K =
 bif s.o==20 then(fa s).bind fun a=>(ff a.2 a.1).bind fun s=>K [s.box] (.bool false)else K [s.open.box] (.bool (decide (s.b<0))):=by kernel_rfl
def orK {S:Type}(w:List UInt8)(a b:S):List (List UInt8)->S
 |[]=>b
 |[x]=>bif w==x then a else b
 |x::xs=>bif w==x then(bif w==x then a else b)else orK w a b xs
theorem C5l (fu:Nat)(w:List UInt8):C6 (en []) I4 fu false Tryz.f112 [.str w]=
 bif w==[79,82]then some (.int .i64 0)else bif w==[65,78,68]then some (.int .i64 1)else orK w (some (.int .i64 3)) (orK w (some (.int .i64 4)) (orK w (some (.int .i64 5)) (some (.int .i64 (-1))) [[42],[47],[37]]) [[43],[45]]) [[61],[60,62],[60],[60,61],[62],[62,61]]:=by kernel_rfl
end
def rB {S:Type}(fa:RS->Option (Int×RS))(ff:RS->Int->Option RS)(s:RS)(K:RS->Option S):Option S:=(fa s).bind fun a=>(ff a.2 a.1).bind K
noncomputable def fMu:Func:=Tryz.f111
def hMu:B4:=⟨[],[(0,⟨[(0,false),(6,false),(7,false),(8,false)],[21]⟩)]⟩
noncomputable def E5t (fe:RS->List UInt8->Option (Bool×RS))(fa:RS->Option (Int×RS))(ff:RS->Int->Option RS):K6:=F8 [] [(110,qA fe),(26,tRI fa),(109,zU ff)] []
def C9b (nl:Option Bool)(n:Nat)(ws:List PV)(L i:Int)(s:RS):St:=wZ 21 22 [(0,(.ptr 21 0,0)),(6,(.sl nl 1 n ws,0)),(7,(.int .i64 L,0)),(8,(.int .i64 i,0))] [(21,s.box.map fun x=>(x,0))]
section
variable {R:Type}
noncomputable def F6p (fe:RS->List UInt8->Option (Bool×RS))(fa:RS->Option (Int×RS))(ff:RS->Int->Option RS)(K:List (List PV)->PV->Option R)(st:St):Option R:=bZ (E5t fe fa ff) 1 fMu st fun bs _ v=>K bs v
noncomputable def muL (fe:RS->List UInt8->Option (Bool×RS))(fa:RS->Option (Int×RS))(ff:RS->Int->Option RS)(fu:Nat)(K:List (List PV)->PV->Option R)(m:Nat)(st:St):Option R :=
 kZ (E5t fe fa ff) hMu fu (F6p fe fa ff K) fMu (fun _=>none) [1,0] 0 m st
theorem F0v (fe:RS->List UInt8->Option (Bool×RS))(fa:RS->Option (Int×RS))(ff:RS->Int->Option RS)(fu:Nat)(s:RS)(nl:Option Bool)(n:Nat)(ws:List PV)(K:List (List PV)->PV->Option R) :
 C5 (E5t fe fa ff) hMu fu fMu [s.box] [.ptr 0 0,.sl nl 1 n ws] K=muL fe fa ff fu K fu (C9b nl n ws (n:Int) 0 s):=V7.trans (by kernel_rfl)
theorem C3j (fe:RS->List UInt8->Option (Bool×RS))(fa:RS->Option (Int×RS))(ff:RS->Int->Option RS)(fu:Nat)(nl:Option Bool)(n:Nat)(ws:List PV)(L i:Int)(s:RS)(K:List (List PV)->PV->Option R)(G:St->Option R) :
 gJ (E5t fe fa ff) hMu fu (F6p fe fa ff K) fMu [1,0] (fun _=>none) (C9b nl n ws L i s) (fun st=>C2 (hMu.loop.lookup 0) st G)=
  bif decide (i<L)then X0 (decide (0<=i)&&decide (i<(n:Int))) (((ws.drop (i.toNat * 1)).take 1).head?.bind fun x=>x.asStr.bind fun w=>(fe s w).bind fun r=>bif !r.1 then rB fa ff r.2 fun s=>G (C9b nl n ws L (IntKind.i64.wrap (i+1)) s)else G (C9b nl n ws L (IntKind.i64.wrap (i+1)) r.2))else K [s.box] (.tuple []):=by kernel_rfl
theorem D7r (fa:RS->Option (Int×RS))(fe:RS->List UInt8->Option (Bool×RS))(fu:Nat)(s:RS)(K:List (List PV)->PV->Option R):C5 (F8 [] [(110,qA fe)] []) I4 fu Tryz.f194 [s.box] [.ptr 0 0] K =
 (let A:Option R:=(fe s [78,85,76,76]).bind fun r=>bif r.1 then K [r.2.box] (.tuple [.agg [.int .i64 0,.int .i64 0,.int .i64 0,.str []],.bool true])else(fe r.2 [84,82,85,69]).bind fun r=>bif r.1 then K [r.2.box] (.tuple [.agg [.int .i64 1,.int .i64 1,.int .i64 0,.str []],.bool true])else(fe r.2 [70,65,76,83,69]).bind fun r=>bif r.1 then K [r.2.box] (.tuple [.agg [.int .i64 1,.int .i64 0,.int .i64 0,.str []],.bool true])else K [r.2.box] (.tuple [.agg [.int .i64 0,.int .i64 0,.int .i64 0,.str []],.bool false])
 cQ s (X0 s.inB (tkI s.cs s.i 0 fun k=>bif k==2 then X0 (decide (0<=IntKind.i64.wrap (IntKind.i64.wrap (s.i+1)-1))&&decide (IntKind.i64.wrap (IntKind.i64.wrap (s.i+1)-1)<(s.n:Int))) (tkV s.cs (IntKind.i64.wrap (IntKind.i64.wrap (s.i+1)-1)) fun vk vn vc vs=>K [s.next.box] (.tuple [.agg [.int .i64 vk,.int .i64 vn,.int .i64 vc,.str vs],.bool true]))else A)) A):=by kernel_rfl
theorem C7a (fs:RS->List UInt8->Option (Bool×RS))(fa:RS->Option (Int×RS))(ff:RS->Int->Option RS)(fd:RS->Option (Bool×RS))(fu:Nat)(s:RS)(K:List (List PV)->PV->Option R):C5 (F8 [] [(59,qA fs),(26,tRI fa),(109,zU ff),(60,tRB fd)] []) I4 fu Tryz.f191 [s.box] [.ptr 0 0] K =
 (fs s [40]).bind fun r=>bif !r.1 then rB fa ff r.2 fun s=>K [s.box] (.bool false)else(fd r.2).bind fun d=>bif !d.1 then K [d.2.box] (.bool false)else K [d.2.next.box] (.bool true):=by kernel_rfl
theorem C6f (fm:RS->Nat->List PV->Option RS)(fu:Nat)(s:RS)(K:List (List PV)->PV->Option R):C5 (F8 [] [(111,B1a fm)] []) I4 fu Tryz.f192 [s.box] [.ptr 0 0] K =
 (fm s 1 [.str [41]]).bind fun s=>K [s.shut.box] (.tuple []):=by kernel_rfl
def tyK {S:Type}(fm:RS->Nat->List PV->Option RS)(fn:RS->Int->Option (Int×RS))(k:Int)(s:RS)(K:RS->Int->Int->Option S):Option S :=
 bif k==2 then(fm s 1 [.str [40]]).bind fun s=>(fn s 6).bind fun m=>(fm m.2 1 [.str [41]]).bind fun s=>K s (IntKind.i64.wrap (k+1)) m.1 else K s (IntKind.i64.wrap (k+1)) 0
theorem B6w (fe:RS->List UInt8->Option (Bool×RS))(fa:RS->Option (Int×RS))(ff:RS->Int->Option RS)(fm:RS->Nat->List PV->Option RS)(fn:RS->Int->Option (Int×RS))(fu:Nat)(s:RS)(K:List (List PV)->PV->Option R) :
 C5 (F8 [] [(110,qA fe),(26,tRI fa),(109,zU ff),(111,B1a fm),(232,C41 fn)] []) I4 (fu+7) Tryz.f193 [s.box] [.ptr 0 0] K =
 (fe s [66,79,79,76]).bind fun r=>bif !r.1 then(fe r.2 [73,78,84]).bind fun r=>bif !r.1 then(fe r.2 [68,69,67,73,77,65,76]).bind fun r=>bif !r.1 then(fe r.2 [84,69,88,84]).bind fun r=>bif !r.1 then(fe r.2 [66,89,84,69,83]).bind fun r=>bif !r.1 then rB fa ff r.2 fun s=>K [s.box] (.agg [.int .i64 0,.int .i64 0])
  else tyK fm fn 4 r.2 fun s a b=>K [s.box] (.agg [.int .i64 a,.int .i64 b])else tyK fm fn 3 r.2 fun s a b=>K [s.box] (.agg [.int .i64 a,.int .i64 b])else tyK fm fn 2 r.2 fun s a b=>K [s.box] (.agg [.int .i64 a,.int .i64 b])else tyK fm fn 1 r.2 fun s a b=>K [s.box] (.agg [.int .i64 a,.int .i64 b])else tyK fm fn 0 r.2 fun s a b=>K [s.box] (.agg [.int .i64 a,.int .i64 b]):=by kernel_rfl
theorem C3y (fa:RS->Option (Int×RS))(fs:RS->List UInt8->Option (Bool×RS))(fat fn:RS->Option (XR×RS))(fd:RS->Option (Bool×RS))(fu:Nat)(s:RS)(K:List (List PV)->PV->Option R) :
 C5 (F8 [] [(26,tRI fa),(59,qA fs),(113,tRX fat),(60,tRB fd),(62,tRX fn)] []) I4 fu Tryz.f62 [s.box] [.ptr 0 0] K =
 (fa s).bind fun a=>(fs a.2 [45]).bind fun r=>bif !r.1 then(fat r.2).bind fun e=>K [e.2.box] (.agg e.1.cells)else(fd r.2).bind fun d=>bif !d.1 then K [d.2.box] (.agg XR.zero.cells)else(fn d.2.next).bind fun e=>K [e.2.shut.box] (.agg (wW a.1 [45] e.1).cells):=by kernel_rfl
theorem C6n (fa:RS->Option (Int×RS))(fs:RS->List UInt8->Option (Bool×RS))(fd:RS->Option (Bool×RS))(fe:RS->Int->Option (XR×RS))(fr:RS->XR->Int->Int->Option (XR×RS))(ff:RS->Option (XR×RS))(fu:Nat)(s:RS)(l:Int)(K:List (List PV)->PV->Option R) :
 C5 (F8 [] [(26,tRI fa),(59,qA fs),(60,tRB fd),(25,A3c fe),(61,B9a fr),(62,tRX ff)] []) I4 fu Tryz.f25 [s.box] [.ptr 0 0,.int .i64 l] K =
 (fa s).bind fun a=>(let B:RS->Option R:=fun s=>(ff s).bind fun e=>(fr e.2 e.1 l 6).bind fun e=>K [e.2.box] (.agg e.1.cells)
  bif decide (l<=2)then(fs a.2 [78,79,84]).bind fun r=>bif r.1 then(fd r.2).bind fun d=>bif !d.1 then K [d.2.box] (.agg XR.zero.cells)else(fe d.2.next 2).bind fun e=>(fr e.2.shut (wW a.1 [78,79,84] e.1) l 2).bind fun e=>K [e.2.box] (.agg e.1.cells)else B r.2 else B a.2):=by kernel_rfl
end
noncomputable def fRe:Func:=Tryz.f61
def hRe:B4:=⟨[],[(0,⟨[(0,false),(2,false),(3,false),(5,false),(8,false)],[5,8,119]⟩)]⟩
structure FRe where
 fa:RS->Option (Int×RS)
 fs:RS->List UInt8->Option (Bool×RS)
 fe:RS->List UInt8->Option (Bool×RS)
 fm:RS->Nat->List PV->Option RS
 fp:List UInt8->Option Int
 fx:RS->Int->Option (XR×RS)
noncomputable def D7n (F:FRe):K6:=F8 [(112,tWi F.fp)] [(26,tRI F.fa),(59,qA F.fs),(110,qA F.fe),(111,B1a F.fm),(25,A3c F.fx)] []
def C3x (e:XR)(l h:Int)(s:RS):St:=wZ 119 120 [(0,(.ptr 119 0,0)),(2,(.int .i64 l,0)),(3,(.int .i64 h,0)),(5,(.ptr 5 0,0)),(8,(.ptr 8 0,0))] [(5,e.cells.map fun x=>(x,0)),(8,XR.zero.cells.map fun x=>(x,0)),(119,s.box.map fun x=>(x,0))]
def tkT {S:Type}(cs:List PV)(i:Int)(kk:TR->Option S):Option S:=((cs.drop (i.toNat * 7)).take 7).head?.bind fun x=>(x.asInt .i64).bind fun k=>((cs.drop (i.toNat * 7)).take 7).tail.head?.bind fun x=>(x.asInt .i64).bind fun a=>((cs.drop (i.toNat * 7)).take 7).tail.tail.head?.bind fun x=>x.asStr.bind fun t=>((cs.drop (i.toNat * 7)).take 7).tail.tail.tail.head?.bind fun x=>(x.asInt .i64).bind fun vk=>((cs.drop (i.toNat * 7)).take 7).tail.tail.tail.tail.head?.bind fun x=>(x.asInt .i64).bind fun vn=>((cs.drop (i.toNat * 7)).take 7).tail.tail.tail.tail.tail.head?.bind fun x=>(x.asInt .i64).bind fun vc=>((cs.drop (i.toNat * 7)).take 7).tail.tail.tail.tail.tail.tail.head?.bind fun x=>x.asStr.bind fun vs=>kk ⟨k,a,t,vk,vn,vc,vs⟩
section
variable {R:Type}
noncomputable def F1j (F:FRe)(K:List (List PV)->PV->Option R)(st:St):Option R:=bZ (D7n F) 1 fRe st fun bs _ v=>K bs v
noncomputable def reL (F:FRe)(fu:Nat)(K:List (List PV)->PV->Option R)(m:Nat)(st:St):Option R:=kZ (D7n F) hRe fu (F1j F K) fRe (fun _=>none) [1,0,0] 0 m st
theorem E8p (F:FRe)(fu:Nat)(s:RS)(e:XR)(l h:Int)(K:List (List PV)->PV->Option R) :
 C5 (D7n F) hRe fu fRe [s.box] [.ptr 0 0,.agg e.cells,.int .i64 l,.int .i64 h] K=reL F fu K fu (C3x e l h s):=V7.trans (by kernel_rfl)
theorem E2k (F:FRe)(fu:Nat)(s:RS)(e:XR)(l h:Int)(K:List (List PV)->PV->Option R)(G:St->Option R) :
 gJ (D7n F) hRe fu (F1j F K) fRe [1,0,0] (fun _=>none) (C3x e l h s) (fun st=>C2 (hRe.loop.lookup 0) st G)=
  cQ s ((F.fa s).bind fun a=>(let N:RS->Option R:=fun s=>X0 s.inB (tkT s.cs s.i fun t=>(F.fp t.t).bind fun p =>
   bif(bif(bif(bif(bif t.k !=1 then t.k !=3 else false)then true else decide (p<l))then true else decide (h<p))then true else(bif p==3 then h==3 else false))then K [s.box] (.agg e.cells)
   else(F.fx s.next (IntKind.i64.wrap (p+1))).bind fun y=>G (C3x (Z9 a.1 t.t e y.1) l p y.2))
   bif(bif decide (l<=3)then decide (3<h)else false)then(F.fs a.2 [73,83]).bind fun r=>bif r.1 then(F.fe r.2.next [78,79,84]).bind fun n=>(F.fm n.2 1 [.str [78,85,76,76]]).bind fun s=>G (C3x (fS a.1 n.1 e) l 3 s)else N r.2 else N a.2))
  (K [s.box] (.agg e.cells)):=by kernel_rfl
structure FAt where
 fa:RS->Option (Int×RS)
 fs:RS->List UInt8->Option (Bool×RS)
 fe:RS->List UInt8->Option (Bool×RS)
 fo:RS->Option (Bool×RS)
 fx:RS->Int->Option (XR×RS)
 fh:RS->Option RS
 fm:RS->Nat->List PV->Option RS
 fy:RS->Option ((Int×Int)×RS)
 fl:RS->Option (VR×RS)
 fn:RS->Option (List UInt8×RS)
noncomputable def F9u (F:FAt):K6:=F8 [] [(26,tRI F.fa),(59,qA F.fs),(110,qA F.fe),(191,tRB F.fo),(25,A3c F.fx),(192,tRU F.fh),(111,B1a F.fm),(193,tRY F.fy),(194,tRL F.fl),(195,tRS F.fn)] []
def fW {S:Type}(F:FAt)(a:Int)(w:List UInt8)(sO:Bool)(s:RS)(K:XR->RS->Option S):Option S :=
 (F.fo s).bind fun o=>bif !o.1 then K (call0 a w) o.2 else
  (let B:RS->Option S:=fun s=>(F.fx s 0).bind fun e=>(F.fh e.2).bind fun s=>K (S2 a w e.1) s
   bif sO then(F.fe o.2 [42]).bind fun q=>bif !q.1 then B q.2 else(F.fh q.2).bind fun s=>K (call0 a w) s else B o.2)
theorem C76 (F:FAt)(fu:Nat)(s:RS)(K:List (List PV)->PV->Option R) :
 C5 (F9u F) I4 (fu+6) Tryz.f113 [s.box] [.ptr 0 0] K =
 (let KX:XR->RS->Option R:=fun e s=>K [s.box] (.agg e.cells)
 (F.fa s).bind fun a=>(F.fs a.2 [40]).bind fun r=>bif r.1 then(F.fo r.2).bind fun o=>bif !o.1 then KX XR.zero o.2 else(F.fx o.2 0).bind fun e=>(F.fh e.2).bind fun s=>KX e.1 s else
 (F.fe r.2 [67,65,83,84]).bind fun r=>bif r.1 then(F.fo r.2).bind fun o=>bif !o.1 then KX XR.zero o.2 else(F.fx o.2 0).bind fun e=>(F.fm e.2 1 [.str [65,83]]).bind fun s=>(F.fy s).bind fun y=>(F.fh y.2).bind fun s=>KX (gG a.1 y.1.1 y.1.2 e.1) s else
 (F.fe r.2 [67,79,85,78,84]).bind fun r=>bif !r.1 then(F.fe r.2 [83,85,77]).bind fun r=>bif !r.1 then(F.fe r.2 [77,73,78]).bind fun r=>bif !r.1 then(F.fe r.2 [77,65,88]).bind fun r=>bif !r.1 then
  (F.fl r.2).bind fun v=>bif v.1.ok then KX (pN a.1 v.1.vk v.1.vn v.1.vc v.1.vs) v.2 else(F.fn v.2).bind fun n=>(F.fe n.2 [46]).bind fun r=>bif r.1 then(F.fn r.2).bind fun m=>KX (dX a.1 n.1 m.1) m.2 else KX (dX a.1 [] n.1) r.2
  else fW F a.1 [77,65,88] false r.2 KX else fW F a.1 [77,73,78] false r.2 KX else fW F a.1 [83,85,77] false r.2 KX else fW F a.1 [67,79,85,78,84] true r.2 KX):=by kernel_rfl
structure LR where
 nl:Option Bool
 n:Nat
 cs:List PV
 a:Int
 ok:Bool
def tLr (f:List UInt8->Option LR):D5:=⟨fun xs k=>match xs with|[.str s]=>(f s).bind fun r=>k (.tuple [.sl r.nl 7 r.n r.cs,.int .i64 r.a,.bool r.ok])|_=>none,false⟩
def C6d (f:XR->Int->Option Bool):D5:=⟨fun xs k=>match xs with|[x,.int .i64 d]=>lT x fun e=>(f e d).bind fun b=>k (.bool b)|_=>none,false⟩
def C03 (e:XR)(b:Int):Option PV:=bif decide ((0:Int)<=b)then some (.tuple [.agg XR.zero.cells,.int .i64 b,.bool false])else some (.tuple [.agg e.cells,.int .i64 0,.bool true])
def yI (fr:XR->Int->Option Bool)(e:XR)(b:Int):Option PV:=bif decide (b<0)then(fr e 0).bind fun ok=>bif !ok then C03 e 0 else C03 e b else C03 e b
theorem B76 (fl:List UInt8->Option LR)(fx:RS->Int->Option (XR×RS))(fa:RS->Option (Int×RS))(fr:XR->Int->Option Bool)(fu:Nat)(w:List UInt8) :
 C6 (F8 [(24,tLr fl),(20,C6d fr)] [(25,A3c fx),(26,tRI fa)] []) I4 fu false Tryz.f10 [.str w]=
  (fl w).bind fun l=>bif !l.ok then some (.tuple [.agg XR.zero.cells,.int .i64 l.a,.bool false])else(fx ⟨l.nl,l.n,l.cs,0,(w.length:Int),0,-1⟩ 0).bind fun e =>
   bif decide (e.2.b<0)then(bif decide (e.2.i<(l.n:Int))then(fa e.2).bind fun a=>yI fr e.1 a.1 else yI fr e.1 e.2.b)else yI fr e.1 e.2.b:=by kernel_rfl
end
theorem H4 {R S:Type}{bs:List (List PV)}{k:PS->Option R}{g:R->Option S}:(eS bs k).bind g=eS bs (fun s=>(k s).bind g):=by
 unfold eS;split
 ·split<;>rfl
 ·rfl
theorem R4 {R S:Type}{bs:List (List PV)}{k:RS->Option R}{g:R->Option S}:(oF bs k).bind g=oF bs (fun s=>(k s).bind g):=by
 unfold oF;split
 ·split<;>rfl
 ·rfl
theorem H3 {R:Type}{bs:List (List PV)}{k:PS->Option R}{r:R}(h:eS bs k=some r):∃s:PS,bs=[s.box]/\k s=some r:=by
 unfold eS at h;split at h
 ·obtain⟨rfl,h⟩:=A5 h;exact⟨_,rfl,h⟩
 ·cases h
theorem Q5 {R:Type}{bs:List (List PV)}{k:RS->Option R}{r:R}(h:oF bs k=some r):∃s:RS,bs=[s.box]/\k s=some r:=by
 unfold oF at h;split at h
 ·obtain⟨rfl,h⟩:=A5 h;exact⟨_,rfl,h⟩
 ·cases h
theorem I5 {R:Type}{x:PV}{k:XR->Option R}{r:R}(h:lT x k=some r):∃e:XR,x=.agg e.cells/\k e=some r:=by
 unfold lT at h;split at h
 ·obtain⟨rfl,h⟩:=A5 h;exact⟨_,rfl,h⟩
 ·cases h
theorem F3 {R S:Type}{x:PV}{k:XR->Option R}{g:R->Option S}:(lT x k).bind g=lT x (fun s=>(k s).bind g):=by
 unfold lT;split
 ·split<;>rfl
 ·rfl
abbrev KR:Type:=List (List PV)->PV->Option (List (List PV)×PV)
section
variable {NG:Nat} {W:World->Prop}
theorem E3j (f:PS->Option (Int×PS)):(tSI f).nat:=by
 intro R bs xs k;simp only[tSI];split
 ·rw[H4];congr 1;funext s;rw[Ad];rfl
 ·rfl
theorem E0y (hW:Y0 NG W){l:List (FuncId×D5)}(hl:E0 NG W l){lh:List (FuncId×H7)}(hh:I9 NG W lh){h:B4}{f:FuncId}{fn:Func}(hf:Tryz.prog.funcs[f]? =some fn)(hb:fn.body.isSome=true)(hname:fn.name≠ "runtime.NumGoroutine"){g:PS->Option (Int×PS)}(hr:∀(s:PS),∃fu,∀K:KR,C5 (F8 l lh []) h fu fn [s.box] [.ptr 0 0] K=(g s).bind fun r=>K [r.2.box] (.int .i64 r.1)):P9 NG W f (tSI g) :=
 E4 hW hl hh B3 (h:=h) hf hb hname (E3j g) fun bs xs r h=>by
  simp only[tSI]at h;split at h
  ·obtain⟨s,rfl,h⟩:=H3 h;obtain⟨fu,hr⟩:=hr s;exact⟨fu,(hr _).trans h⟩
  ·cases h
theorem D9w (f:PS->Option PS):(tSU f).nat:=by
 intro R bs xs k;simp only[tSU];split
 ·rw[H4];congr 1;funext s;rw[Ad];rfl
 ·rfl
theorem E5p (hW:Y0 NG W){l:List (FuncId×D5)}(hl:E0 NG W l){lh:List (FuncId×H7)}(hh:I9 NG W lh){h:B4}{f:FuncId}{fn:Func}(hf:Tryz.prog.funcs[f]? =some fn)(hb:fn.body.isSome=true)(hname:fn.name≠ "runtime.NumGoroutine"){g:PS->Option PS}(hr:∀(s:PS),∃fu,∀K:KR,C5 (F8 l lh []) h fu fn [s.box] [.ptr 0 0] K=(g s).bind fun r=>K [r.box] (.tuple [])):P9 NG W f (tSU g) :=
 E4 hW hl hh B3 (h:=h) hf hb hname (D9w g) fun bs xs r h=>by
  simp only[tSU]at h;split at h
  ·obtain⟨s,rfl,h⟩:=H3 h;obtain⟨fu,hr⟩:=hr s;exact⟨fu,(hr _).trans h⟩
  ·cases h
theorem D3k (f:PS->Int->Option PS):(C6v f).nat:=by
 intro R bs xs k;simp only[C6v];split
 ·rw[H4];congr 1;funext s;rw[Ad];rfl
 ·rfl
theorem D2e (hW:Y0 NG W){l:List (FuncId×D5)}(hl:E0 NG W l){lh:List (FuncId×H7)}(hh:I9 NG W lh){h:B4}{f:FuncId}{fn:Func}(hf:Tryz.prog.funcs[f]? =some fn)(hb:fn.body.isSome=true)(hname:fn.name≠ "runtime.NumGoroutine"){g:PS->Int->Option PS}(hr:∀(s:PS) (a:Int),∃fu,∀K:KR,C5 (F8 l lh []) h fu fn [s.box] [.ptr 0 0,.int .i64 a] K=(g s a).bind fun r=>K [r.box] (.tuple [])):P9 NG W f (C6v g) :=
 E4 hW hl hh B3 (h:=h) hf hb hname (D3k g) fun bs xs r h=>by
  simp only[C6v]at h;split at h
  ·obtain⟨s,rfl,h⟩:=H3 h;obtain⟨fu,hr⟩:=hr s _;exact⟨fu,(hr _).trans h⟩
  ·cases h
theorem B62 (f:PS->List UInt8->Option PS):(wT f).nat:=by
 intro R bs xs k;simp only[wT];split
 ·rw[H4];congr 1;funext s;rw[Ad];rfl
 ·rfl
theorem D8m (hW:Y0 NG W){l:List (FuncId×D5)}(hl:E0 NG W l){lh:List (FuncId×H7)}(hh:I9 NG W lh){h:B4}{f:FuncId}{fn:Func}(hf:Tryz.prog.funcs[f]? =some fn)(hb:fn.body.isSome=true)(hname:fn.name≠ "runtime.NumGoroutine"){g:PS->List UInt8->Option PS}(hr:∀(s:PS) (w:List UInt8),∃fu,∀K:KR,C5 (F8 l lh []) h fu fn [s.box] [.ptr 0 0,.str w] K=(g s w).bind fun r=>K [r.box] (.tuple [])):P9 NG W f (wT g) :=
 E4 hW hl hh B3 (h:=h) hf hb hname (B62 g) fun bs xs r h=>by
  simp only[wT]at h;split at h
  ·obtain⟨s,rfl,h⟩:=H3 h;obtain⟨fu,hr⟩:=hr s _;exact⟨fu,(hr _).trans h⟩
  ·cases h
theorem D6w (f:PS->List UInt8->Option (Bool×PS)):(pX f).nat:=by
 intro R bs xs k;simp only[pX];split
 ·rw[H4];congr 1;funext s;rw[Ad];rfl
 ·rfl
theorem B2c (hW:Y0 NG W){l:List (FuncId×D5)}(hl:E0 NG W l){lh:List (FuncId×H7)}(hh:I9 NG W lh){h:B4}{f:FuncId}{fn:Func}(hf:Tryz.prog.funcs[f]? =some fn)(hb:fn.body.isSome=true)(hname:fn.name≠ "runtime.NumGoroutine"){g:PS->List UInt8->Option (Bool×PS)}(hr:∀(s:PS) (w:List UInt8),∃fu,∀K:KR,C5 (F8 l lh []) h fu fn [s.box] [.ptr 0 0,.str w] K=(g s w).bind fun r=>K [r.2.box] (.bool r.1)):P9 NG W f (pX g) :=
 E4 hW hl hh B3 (h:=h) hf hb hname (D6w g) fun bs xs r h=>by
  simp only[pX]at h;split at h
  ·obtain⟨s,rfl,h⟩:=H3 h;obtain⟨fu,hr⟩:=hr s _;exact⟨fu,(hr _).trans h⟩
  ·cases h
theorem D6g (f:PS->Nat->List PV->Option (Bool×PS)):(tX f).nat:=by
 intro R bs xs k;simp only[tX];split
 ·split
  ·rw[H4];congr 1;funext s;rw[Ad];rfl
  ·rfl
 ·rfl
theorem D5r (hW:Y0 NG W){l:List (FuncId×D5)}(hl:E0 NG W l){lh:List (FuncId×H7)}(hh:I9 NG W lh){h:B4}{f:FuncId}{fn:Func}(hf:Tryz.prog.funcs[f]? =some fn)(hb:fn.body.isSome=true)(hname:fn.name≠ "runtime.NumGoroutine"){g:PS->Nat->List PV->Option (Bool×PS)}(hr:∀(s:PS) (nl:Option Bool) (n:Nat) (ws:List PV),∃fu,∀K:KR,C5 (F8 l lh []) h fu fn [s.box] [.ptr 0 0,.sl nl 1 n ws] K=(g s n ws).bind fun r=>K [r.2.box] (.bool r.1)):P9 NG W f (tX g) :=
 E4 hW hl hh B3 (h:=h) hf hb hname (D6g g) fun bs xs r h=>by
  simp only[tX]at h;split at h
  ·obtain⟨hz,h2⟩:=A5 h;subst hz;obtain⟨s,rfl,h⟩:=H3 h2;obtain⟨fu,hr⟩:=hr s _ _ _;exact⟨fu,(hr _).trans h⟩
  ·cases h
theorem D8p (f:PS->Int->Nat->List PV->Option (Bool×PS)):(B18 f).nat:=by
 intro R bs xs k;simp only[B18];split
 ·split
  ·rw[H4];congr 1;funext s;rw[Ad];rfl
  ·rfl
 ·rfl
theorem D1o (hW:Y0 NG W){l:List (FuncId×D5)}(hl:E0 NG W l){lh:List (FuncId×H7)}(hh:I9 NG W lh){h:B4}{f:FuncId}{fn:Func}(hf:Tryz.prog.funcs[f]? =some fn)(hb:fn.body.isSome=true)(hname:fn.name≠ "runtime.NumGoroutine"){g:PS->Int->Nat->List PV->Option (Bool×PS)}(hr:∀(s:PS) (a:Int) (nl:Option Bool) (n:Nat) (ws:List PV),∃fu,∀K:KR,C5 (F8 l lh []) h fu fn [s.box] [.ptr 0 0,.int .i64 a,.sl nl 1 n ws] K=(g s a n ws).bind fun r=>K [r.2.box] (.bool r.1)):P9 NG W f (B18 g) :=
 E4 hW hl hh B3 (h:=h) hf hb hname (D8p g) fun bs xs r h=>by
  simp only[B18]at h;split at h
  ·obtain⟨hz,h2⟩:=A5 h;subst hz;obtain⟨s,rfl,h⟩:=H3 h2;obtain⟨fu,hr⟩:=hr s _ _ _ _;exact⟨fu,(hr _).trans h⟩
  ·cases h
theorem E4r (f:PS->Option (TR×PS)):(tST f).nat:=by
 intro R bs xs k;simp only[tST];split
 ·rw[H4];congr 1;funext s;rw[Ad];rfl
 ·rfl
theorem E28 (hW:Y0 NG W){l:List (FuncId×D5)}(hl:E0 NG W l){lh:List (FuncId×H7)}(hh:I9 NG W lh){h:B4}{f:FuncId}{fn:Func}(hf:Tryz.prog.funcs[f]? =some fn)(hb:fn.body.isSome=true)(hname:fn.name≠ "runtime.NumGoroutine"){g:PS->Option (TR×PS)}(hr:∀(s:PS),∃fu,∀K:KR,C5 (F8 l lh []) h fu fn [s.box] [.ptr 0 0] K=(g s).bind fun r=>K [r.2.box] (.agg r.1.cells)):P9 NG W f (tST g) :=
 E4 hW hl hh B3 (h:=h) hf hb hname (E4r g) fun bs xs r h=>by
  simp only[tST]at h;split at h
  ·obtain⟨s,rfl,h⟩:=H3 h;obtain⟨fu,hr⟩:=hr s;exact⟨fu,(hr _).trans h⟩
  ·cases h
theorem E6b (f:PS->Option (List UInt8×PS)):(tSS f).nat:=by
 intro R bs xs k;simp only[tSS];split
 ·rw[H4];congr 1;funext s;rw[Ad];rfl
 ·rfl
theorem C3g (hW:Y0 NG W){l:List (FuncId×D5)}(hl:E0 NG W l){lh:List (FuncId×H7)}(hh:I9 NG W lh){h:B4}{f:FuncId}{fn:Func}(hf:Tryz.prog.funcs[f]? =some fn)(hb:fn.body.isSome=true)(hname:fn.name≠ "runtime.NumGoroutine"){g:PS->Option (List UInt8×PS)}(hr:∀(s:PS),∃fu,∀K:KR,C5 (F8 l lh []) h fu fn [s.box] [.ptr 0 0] K=(g s).bind fun r=>K [r.2.box] (.str r.1)):P9 NG W f (tSS g) :=
 E4 hW hl hh B3 (h:=h) hf hb hname (E6b g) fun bs xs r h=>by
  simp only[tSS]at h;split at h
  ·obtain⟨s,rfl,h⟩:=H3 h;obtain⟨fu,hr⟩:=hr s;exact⟨fu,(hr _).trans h⟩
  ·cases h
theorem D2k (f:PS->Int->Option (Int×PS)):(B9m f).nat:=by
 intro R bs xs k;simp only[B9m];split
 ·rw[H4];congr 1;funext s;rw[Ad];rfl
 ·rfl
theorem D1j (hW:Y0 NG W){l:List (FuncId×D5)}(hl:E0 NG W l){lh:List (FuncId×H7)}(hh:I9 NG W lh){h:B4}{f:FuncId}{fn:Func}(hf:Tryz.prog.funcs[f]? =some fn)(hb:fn.body.isSome=true)(hname:fn.name≠ "runtime.NumGoroutine"){g:PS->Int->Option (Int×PS)}(hr:∀(s:PS) (a:Int),∃fu,∀K:KR,C5 (F8 l lh []) h fu fn [s.box] [.ptr 0 0,.int .i64 a] K=(g s a).bind fun r=>K [r.2.box] (.int .i64 r.1)):P9 NG W f (B9m g) :=
 E4 hW hl hh B3 (h:=h) hf hb hname (D2k g) fun bs xs r h=>by
  simp only[B9m]at h;split at h
  ·obtain⟨s,rfl,h⟩:=H3 h;obtain⟨fu,hr⟩:=hr s _;exact⟨fu,(hr _).trans h⟩
  ·cases h
theorem E5c (f:PS->Option ((Int×Int)×PS)):(tSY f).nat:=by
 intro R bs xs k;simp only[tSY];split
 ·rw[H4];congr 1;funext s;rw[Ad];rfl
 ·rfl
theorem E2w (hW:Y0 NG W){l:List (FuncId×D5)}(hl:E0 NG W l){lh:List (FuncId×H7)}(hh:I9 NG W lh){h:B4}{f:FuncId}{fn:Func}(hf:Tryz.prog.funcs[f]? =some fn)(hb:fn.body.isSome=true)(hname:fn.name≠ "runtime.NumGoroutine"){g:PS->Option ((Int×Int)×PS)}(hr:∀(s:PS),∃fu,∀K:KR,C5 (F8 l lh []) h fu fn [s.box] [.ptr 0 0] K=(g s).bind fun r=>K [r.2.box] (.agg [.int .i64 r.1.1,.int .i64 r.1.2])):P9 NG W f (tSY g) :=
 E4 hW hl hh B3 (h:=h) hf hb hname (E5c g) fun bs xs r h=>by
  simp only[tSY]at h;split at h
  ·obtain⟨s,rfl,h⟩:=H3 h;obtain⟨fu,hr⟩:=hr s;exact⟨fu,(hr _).trans h⟩
  ·cases h
theorem E5j (f:PS->Option (VR×PS)):(tSL f).nat:=by
 intro R bs xs k;simp only[tSL];split
 ·rw[H4];congr 1;funext s;rw[Ad];rfl
 ·rfl
theorem E58 (hW:Y0 NG W){l:List (FuncId×D5)}(hl:E0 NG W l){lh:List (FuncId×H7)}(hh:I9 NG W lh){h:B4}{f:FuncId}{fn:Func}(hf:Tryz.prog.funcs[f]? =some fn)(hb:fn.body.isSome=true)(hname:fn.name≠ "runtime.NumGoroutine"){g:PS->Option (VR×PS)}(hr:∀(s:PS),∃fu,∀K:KR,C5 (F8 l lh []) h fu fn [s.box] [.ptr 0 0] K=(g s).bind fun r=>K [r.2.box] (.tuple [.agg [.int .i64 r.1.vk,.int .i64 r.1.vn,.int .i64 r.1.vc,.str r.1.vs],.bool r.1.ok])):P9 NG W f (tSL g) :=
 E4 hW hl hh B3 (h:=h) hf hb hname (E5j g) fun bs xs r h=>by
  simp only[tSL]at h;split at h
  ·obtain⟨s,rfl,h⟩:=H3 h;obtain⟨fu,hr⟩:=hr s;exact⟨fu,(hr _).trans h⟩
  ·cases h
theorem C2b (f:PS->Option (XR×PS)):(rS f).nat:=by
 intro R bs xs k;simp only[rS];split
 ·rw[H4];congr 1;funext s;rw[Ad];rfl
 ·rfl
theorem jM (hW:Y0 NG W){l:List (FuncId×D5)}(hl:E0 NG W l){lh:List (FuncId×H7)}(hh:I9 NG W lh){h:B4}{f:FuncId}{fn:Func}(hf:Tryz.prog.funcs[f]? =some fn)(hb:fn.body.isSome=true)(hname:fn.name≠ "runtime.NumGoroutine"){g:PS->Option (XR×PS)}(hr:∀(s:PS),∃fu,∀K:KR,C5 (F8 l lh []) h fu fn [s.box] [.ptr 0 0] K=(g s).bind fun r=>K [r.2.box] (.agg r.1.cells)):P9 NG W f (rS g) :=
 E4 hW hl hh B3 (h:=h) hf hb hname (C2b g) fun bs xs r h=>by
  simp only[rS]at h;split at h
  ·obtain⟨s,rfl,h⟩:=H3 h;obtain⟨fu,hr⟩:=hr s;exact⟨fu,(hr _).trans h⟩
  ·cases h
theorem fV {f:FuncId}:P9 NG W f (rS fun _=>none) where
 nat:=C2b _
 call:=by
  intro M β bs xs vs bs' r _ _ _ _ _ h;simp only[rS]at h;split at h
  ·obtain⟨s,_,h⟩:=H3 h
   cases h
  ·cases h
theorem B2d (f:PS->Int->Option (XR×PS)):(A58 f).nat:=by
 intro R bs xs k;simp only[A58];split
 ·rw[H4];congr 1;funext s;rw[Ad];rfl
 ·rfl
theorem C5i {f:FuncId}:P9 NG W f (A58 fun _ _=>none) where
 nat:=B2d _
 call:=by
  intro M β bs xs vs bs' r _ _ _ _ _ h;simp only[A58]at h;split at h
  ·obtain⟨s,_,h⟩:=H3 h
   cases h
  ·cases h
theorem E61 (f:RS->Option (Int×RS)):(tRI f).nat:=by
 intro R bs xs k;simp only[tRI];split
 ·rw[R4];congr 1;funext s;rw[Ad];rfl
 ·rfl
theorem D97 (hW:Y0 NG W){l:List (FuncId×D5)}(hl:E0 NG W l){lh:List (FuncId×H7)}(hh:I9 NG W lh){h:B4}{f:FuncId}{fn:Func}(hf:Tryz.prog.funcs[f]? =some fn)(hb:fn.body.isSome=true)(hname:fn.name≠ "runtime.NumGoroutine"){g:RS->Option (Int×RS)}(hr:∀(s:RS),∃fu,∀K:KR,C5 (F8 l lh []) h fu fn [s.box] [.ptr 0 0] K=(g s).bind fun r=>K [r.2.box] (.int .i64 r.1)):P9 NG W f (tRI g) :=
 E4 hW hl hh B3 (h:=h) hf hb hname (E61 g) fun bs xs r h=>by
  simp only[tRI]at h;split at h
  ·obtain⟨s,rfl,h⟩:=Q5 h;obtain⟨fu,hr⟩:=hr s;exact⟨fu,(hr _).trans h⟩
  ·cases h
theorem E3w (f:RS->Option RS):(tRU f).nat:=by
 intro R bs xs k;simp only[tRU];split
 ·rw[R4];congr 1;funext s;rw[Ad];rfl
 ·rfl
theorem D9v (hW:Y0 NG W){l:List (FuncId×D5)}(hl:E0 NG W l){lh:List (FuncId×H7)}(hh:I9 NG W lh){h:B4}{f:FuncId}{fn:Func}(hf:Tryz.prog.funcs[f]? =some fn)(hb:fn.body.isSome=true)(hname:fn.name≠ "runtime.NumGoroutine"){g:RS->Option RS}(hr:∀(s:RS),∃fu,∀K:KR,C5 (F8 l lh []) h fu fn [s.box] [.ptr 0 0] K=(g s).bind fun r=>K [r.box] (.tuple [])):P9 NG W f (tRU g) :=
 E4 hW hl hh B3 (h:=h) hf hb hname (E3w g) fun bs xs r h=>by
  simp only[tRU]at h;split at h
  ·obtain⟨s,rfl,h⟩:=Q5 h;obtain⟨fu,hr⟩:=hr s;exact⟨fu,(hr _).trans h⟩
  ·cases h
theorem D6e (f:RS->Int->Option RS):(zU f).nat:=by
 intro R bs xs k;simp only[zU];split
 ·rw[R4];congr 1;funext s;rw[Ad];rfl
 ·rfl
theorem D82 (hW:Y0 NG W){l:List (FuncId×D5)}(hl:E0 NG W l){lh:List (FuncId×H7)}(hh:I9 NG W lh){h:B4}{f:FuncId}{fn:Func}(hf:Tryz.prog.funcs[f]? =some fn)(hb:fn.body.isSome=true)(hname:fn.name≠ "runtime.NumGoroutine"){g:RS->Int->Option RS}(hr:∀(s:RS) (a:Int),∃fu,∀K:KR,C5 (F8 l lh []) h fu fn [s.box] [.ptr 0 0,.int .i64 a] K=(g s a).bind fun r=>K [r.box] (.tuple [])):P9 NG W f (zU g) :=
 E4 hW hl hh B3 (h:=h) hf hb hname (D6e g) fun bs xs r h=>by
  simp only[zU]at h;split at h
  ·obtain⟨s,rfl,h⟩:=Q5 h;obtain⟨fu,hr⟩:=hr s _;exact⟨fu,(hr _).trans h⟩
  ·cases h
theorem D3j (f:RS->Nat->List PV->Option RS):(B1a f).nat:=by
 intro R bs xs k;simp only[B1a];split
 ·split
  ·rw[R4];congr 1;funext s;rw[Ad];rfl
  ·rfl
 ·rfl
theorem D9e (f:RS->Option (Bool×RS)):(tRB f).nat:=by
 intro R bs xs k;simp only[tRB];split
 ·rw[R4];congr 1;funext s;rw[Ad];rfl
 ·rfl
theorem C2e (hW:Y0 NG W){l:List (FuncId×D5)}(hl:E0 NG W l){lh:List (FuncId×H7)}(hh:I9 NG W lh){h:B4}{f:FuncId}{fn:Func}(hf:Tryz.prog.funcs[f]? =some fn)(hb:fn.body.isSome=true)(hname:fn.name≠ "runtime.NumGoroutine"){g:RS->Option (Bool×RS)}(hr:∀(s:RS),∃fu,∀K:KR,C5 (F8 l lh []) h fu fn [s.box] [.ptr 0 0] K=(g s).bind fun r=>K [r.2.box] (.bool r.1)):P9 NG W f (tRB g) :=
 E4 hW hl hh B3 (h:=h) hf hb hname (D9e g) fun bs xs r h=>by
  simp only[tRB]at h;split at h
  ·obtain⟨s,rfl,h⟩:=Q5 h;obtain⟨fu,hr⟩:=hr s;exact⟨fu,(hr _).trans h⟩
  ·cases h
theorem C9c (f:RS->List UInt8->Option (Bool×RS)):(qA f).nat:=by
 intro R bs xs k;simp only[qA];split
 ·rw[R4];congr 1;funext s;rw[Ad];rfl
 ·rfl
theorem B1n (hW:Y0 NG W){l:List (FuncId×D5)}(hl:E0 NG W l){lh:List (FuncId×H7)}(hh:I9 NG W lh){h:B4}{f:FuncId}{fn:Func}(hf:Tryz.prog.funcs[f]? =some fn)(hb:fn.body.isSome=true)(hname:fn.name≠ "runtime.NumGoroutine"){g:RS->List UInt8->Option (Bool×RS)}(hr:∀(s:RS) (w:List UInt8),∃fu,∀K:KR,C5 (F8 l lh []) h fu fn [s.box] [.ptr 0 0,.str w] K=(g s w).bind fun r=>K [r.2.box] (.bool r.1)):P9 NG W f (qA g) :=
 E4 hW hl hh B3 (h:=h) hf hb hname (C9c g) fun bs xs r h=>by
  simp only[qA]at h;split at h
  ·obtain⟨s,rfl,h⟩:=Q5 h;obtain⟨fu,hr⟩:=hr s _;exact⟨fu,(hr _).trans h⟩
  ·cases h
theorem E3n (f:RS->Option (List UInt8×RS)):(tRS f).nat:=by
 intro R bs xs k;simp only[tRS];split
 ·rw[R4];congr 1;funext s;rw[Ad];rfl
 ·rfl
theorem E27 (hW:Y0 NG W){l:List (FuncId×D5)}(hl:E0 NG W l){lh:List (FuncId×H7)}(hh:I9 NG W lh){h:B4}{f:FuncId}{fn:Func}(hf:Tryz.prog.funcs[f]? =some fn)(hb:fn.body.isSome=true)(hname:fn.name≠ "runtime.NumGoroutine"){g:RS->Option (List UInt8×RS)}(hr:∀(s:RS),∃fu,∀K:KR,C5 (F8 l lh []) h fu fn [s.box] [.ptr 0 0] K=(g s).bind fun r=>K [r.2.box] (.str r.1)):P9 NG W f (tRS g) :=
 E4 hW hl hh B3 (h:=h) hf hb hname (E3n g) fun bs xs r h=>by
  simp only[tRS]at h;split at h
  ·obtain⟨s,rfl,h⟩:=Q5 h;obtain⟨fu,hr⟩:=hr s;exact⟨fu,(hr _).trans h⟩
  ·cases h
theorem D45 (f:RS->Int->Option (Int×RS)):(C41 f).nat:=by
 intro R bs xs k;simp only[C41];split
 ·rw[R4];congr 1;funext s;rw[Ad];rfl
 ·rfl
theorem D22 (hW:Y0 NG W){l:List (FuncId×D5)}(hl:E0 NG W l){lh:List (FuncId×H7)}(hh:I9 NG W lh){h:B4}{f:FuncId}{fn:Func}(hf:Tryz.prog.funcs[f]? =some fn)(hb:fn.body.isSome=true)(hname:fn.name≠ "runtime.NumGoroutine"){g:RS->Int->Option (Int×RS)}(hr:∀(s:RS) (a:Int),∃fu,∀K:KR,C5 (F8 l lh []) h fu fn [s.box] [.ptr 0 0,.int .i64 a] K=(g s a).bind fun r=>K [r.2.box] (.int .i64 r.1)):P9 NG W f (C41 g) :=
 E4 hW hl hh B3 (h:=h) hf hb hname (D45 g) fun bs xs r h=>by
  simp only[C41]at h;split at h
  ·obtain⟨s,rfl,h⟩:=Q5 h;obtain⟨fu,hr⟩:=hr s _;exact⟨fu,(hr _).trans h⟩
  ·cases h
theorem D99 (f:RS->Option ((Int×Int)×RS)):(tRY f).nat:=by
 intro R bs xs k;simp only[tRY];split
 ·rw[R4];congr 1;funext s;rw[Ad];rfl
 ·rfl
theorem E4o (hW:Y0 NG W){l:List (FuncId×D5)}(hl:E0 NG W l){lh:List (FuncId×H7)}(hh:I9 NG W lh){h:B4}{f:FuncId}{fn:Func}(hf:Tryz.prog.funcs[f]? =some fn)(hb:fn.body.isSome=true)(hname:fn.name≠ "runtime.NumGoroutine"){g:RS->Option ((Int×Int)×RS)}(hr:∀(s:RS),∃fu,∀K:KR,C5 (F8 l lh []) h fu fn [s.box] [.ptr 0 0] K=(g s).bind fun r=>K [r.2.box] (.agg [.int .i64 r.1.1,.int .i64 r.1.2])):P9 NG W f (tRY g) :=
 E4 hW hl hh B3 (h:=h) hf hb hname (D99 g) fun bs xs r h=>by
  simp only[tRY]at h;split at h
  ·obtain⟨s,rfl,h⟩:=Q5 h;obtain⟨fu,hr⟩:=hr s;exact⟨fu,(hr _).trans h⟩
  ·cases h
theorem E0h (f:RS->Option (VR×RS)):(tRL f).nat:=by
 intro R bs xs k;simp only[tRL];split
 ·rw[R4];congr 1;funext s;rw[Ad];rfl
 ·rfl
theorem E4k (hW:Y0 NG W){l:List (FuncId×D5)}(hl:E0 NG W l){lh:List (FuncId×H7)}(hh:I9 NG W lh){h:B4}{f:FuncId}{fn:Func}(hf:Tryz.prog.funcs[f]? =some fn)(hb:fn.body.isSome=true)(hname:fn.name≠ "runtime.NumGoroutine"){g:RS->Option (VR×RS)}(hr:∀(s:RS),∃fu,∀K:KR,C5 (F8 l lh []) h fu fn [s.box] [.ptr 0 0] K=(g s).bind fun r=>K [r.2.box] (.tuple [.agg [.int .i64 r.1.vk,.int .i64 r.1.vn,.int .i64 r.1.vc,.str r.1.vs],.bool r.1.ok])):P9 NG W f (tRL g) :=
 E4 hW hl hh B3 (h:=h) hf hb hname (E0h g) fun bs xs r h=>by
  simp only[tRL]at h;split at h
  ·obtain⟨s,rfl,h⟩:=Q5 h;obtain⟨fu,hr⟩:=hr s;exact⟨fu,(hr _).trans h⟩
  ·cases h
theorem C3h (f:RS->Option (XR×RS)):(tRX f).nat:=by
 intro R bs xs k;simp only[tRX];split
 ·rw[R4];congr 1;funext s;rw[Ad];rfl
 ·rfl
theorem C09 (hW:Y0 NG W){l:List (FuncId×D5)}(hl:E0 NG W l){lh:List (FuncId×H7)}(hh:I9 NG W lh){h:B4}{f:FuncId}{fn:Func}(hf:Tryz.prog.funcs[f]? =some fn)(hb:fn.body.isSome=true)(hname:fn.name≠ "runtime.NumGoroutine"){g:RS->Option (XR×RS)}(hr:∀(s:RS),∃fu,∀K:KR,C5 (F8 l lh []) h fu fn [s.box] [.ptr 0 0] K=(g s).bind fun r=>K [r.2.box] (.agg r.1.cells)):P9 NG W f (tRX g) :=
 E4 hW hl hh B3 (h:=h) hf hb hname (C3h g) fun bs xs r h=>by
  simp only[tRX]at h;split at h
  ·obtain⟨s,rfl,h⟩:=Q5 h;obtain⟨fu,hr⟩:=hr s;exact⟨fu,(hr _).trans h⟩
  ·cases h
theorem B2g {f:FuncId}:P9 NG W f (tRX fun _=>none) where
 nat:=C3h _
 call:=by
  intro M β bs xs vs bs' r _ _ _ _ _ h;simp only[tRX]at h;split at h
  ·obtain⟨s,_,h⟩:=Q5 h
   cases h
  ·cases h
theorem B59 (f:RS->Int->Option (XR×RS)):(A3c f).nat:=by
 intro R bs xs k;simp only[A3c];split
 ·rw[R4];congr 1;funext s;rw[Ad];rfl
 ·rfl
theorem D8a (hW:Y0 NG W){l:List (FuncId×D5)}(hl:E0 NG W l){lh:List (FuncId×H7)}(hh:I9 NG W lh){h:B4}{f:FuncId}{fn:Func}(hf:Tryz.prog.funcs[f]? =some fn)(hb:fn.body.isSome=true)(hname:fn.name≠ "runtime.NumGoroutine"){g:RS->Int->Option (XR×RS)}(hr:∀(s:RS) (a:Int),∃fu,∀K:KR,C5 (F8 l lh []) h fu fn [s.box] [.ptr 0 0,.int .i64 a] K=(g s a).bind fun r=>K [r.2.box] (.agg r.1.cells)):P9 NG W f (A3c g) :=
 E4 hW hl hh B3 (h:=h) hf hb hname (B59 g) fun bs xs r h=>by
  simp only[A3c]at h;split at h
  ·obtain⟨s,rfl,h⟩:=Q5 h;obtain⟨fu,hr⟩:=hr s _;exact⟨fu,(hr _).trans h⟩
  ·cases h
theorem C7s {f:FuncId}:P9 NG W f (A3c fun _ _=>none) where
 nat:=B59 _
 call:=by
  intro M β bs xs vs bs' r _ _ _ _ _ h;simp only[A3c]at h;split at h
  ·obtain⟨s,_,h⟩:=Q5 h
   cases h
  ·cases h
theorem B23 (f:RS->XR->Int->Int->Option (XR×RS)):(B9a f).nat:=by
 intro R bs xs k;simp only[B9a];split
 ·rw[R4];congr 1;funext s;rw[F3];congr 1;funext e;rw[Ad];rfl
 ·rfl
theorem C4e {f:FuncId}:P9 NG W f (B9a fun _ _ _ _=>none) where
 nat:=B23 _
 call:=by
  intro M β bs xs vs bs' r _ _ _ _ _ h;simp only[B9a]at h;split at h
  ·obtain⟨s,_,h⟩:=Q5 h;obtain⟨e,_,h⟩:=I5 h
   cases h
  ·cases h
theorem E4g (f:List UInt8->Option Int):(tWi f).nat:=by
 intro R xs k;simp only[tWi];split
 ·rw[Ad];rfl
 ·rfl
theorem C1l (hW:Y0 NG W){l:List (FuncId×D5)}(hl:E0 NG W l){lh:List (FuncId×H7)}(hh:I9 NG W lh){h:B4}{f:FuncId}{fn:Func}(hf:Tryz.prog.funcs[f]? =some fn)(hb:fn.body.isSome=true)(hname:fn.name≠ "runtime.NumGoroutine"){g:List UInt8->Option Int}(hr:∀(s:List UInt8),∃fu,C6 (F8 l lh []) h fu false fn [.str s]=(g s).bind fun b=>some (.int .i64 b)):D8 NG W f (tWi g) :=
 bG hW hl hh B3 (h:=h) hf hb hname (E4g g) fun xs r h=>by
  simp only[tWi]at h;split at h
  ·obtain⟨fu,hr⟩:=hr _;exact⟨fu,hr.trans h⟩
  ·cases h
theorem D98 (f:List UInt8->Option VR):(tWV f).nat:=by
 intro R xs k;simp only[tWV];split
 ·rw[Ad];rfl
 ·rfl
theorem E4e (hW:Y0 NG W){l:List (FuncId×D5)}(hl:E0 NG W l){lh:List (FuncId×H7)}(hh:I9 NG W lh){h:B4}{f:FuncId}{fn:Func}(hf:Tryz.prog.funcs[f]? =some fn)(hb:fn.body.isSome=true)(hname:fn.name≠ "runtime.NumGoroutine"){g:List UInt8->Option VR}(hr:∀(s:List UInt8),∃fu,C6 (F8 l lh []) h fu false fn [.str s]=(g s).bind fun b=>some (.tuple [.agg [.int .i64 b.vk,.int .i64 b.vn,.int .i64 b.vc,.str b.vs],.bool b.ok])):D8 NG W f (tWV g) :=
 bG hW hl hh B3 (h:=h) hf hb hname (D98 g) fun xs r h=>by
  simp only[tWV]at h;split at h
  ·obtain⟨fu,hr⟩:=hr _;exact⟨fu,hr.trans h⟩
  ·cases h
theorem E67 (f:List UInt8->Option LX):(tLx f).nat:=by
 intro R xs k;simp only[tLx];split
 ·rw[Ad];rfl
 ·rfl
theorem E1m (f:List UInt8->Option LR):(tLr f).nat:=by
 intro R xs k;simp only[tLr];split
 ·rw[Ad];rfl
 ·rfl
end
end Go.Proofs.YtkpfigikffphdaaGreatDoor
end
section
namespace Go.Proofs.YtkpfigikffphdaaGreatDoor
open Go.RowKit
theorem jK {α:Type}{f:α->List PV}{sz:Nat}(hf:∀x,(f x).length=sz):∀{l:List α} {i:Nat} {x:α},l[i]? =some x->((l.flatMap f).drop (i * sz)).take sz=f x
 |y::l,0,x,h=>by
  simp only[List.getElem?_cons_zero,Ah]at h;subst h;rw[Nat.zero_mul,Bt,Bo,<-hf y,List.take_left]
 |y::l,i+1,x,h=>by
  simp only[Bz]at h;rw[Bo,Di,Nat.one_mul,Nat.add_comm,<-List.drop_drop,<-hf y,List.drop_left,hf y];exact jK hf h
def bE {α:Type}(sz:Nat)(g:List PV->Option α):Nat->List PV->Option (List α)
 |0,[]=>some []
 |0,_::_=>none
 |n+1,c=>(g (c.take sz)).bind fun x=>(bE sz g n (c.drop sz)).map (x :: ·)
theorem rG {α:Type}{sz:Nat}{g:List PV->Option α}{f:α->List PV}(hf:∀x,(f x).length=sz)(hg:∀x,g (f x)=some x):∀(l:List α),bE sz g l.length (l.flatMap f)=some l
 |[]=>rfl
 |x::l=>by
  rw[Ac,Bo,bE,<-hf x,List.take_left,List.drop_left,hg x,hf x,Aa,rG hf hg l];rfl
theorem T7 {α:Type}{sz:Nat}{g:List PV->Option α}{f:α->List PV}(hg:∀c x,g c=some x->c=f x):∀{n:Nat} {c:List PV} {l:List α},bE sz g n c=some l->n=l.length/\c=l.flatMap f
 |0,[],l,h=>by injection h with h;subst h;exact⟨rfl,rfl⟩
 |0,_::_,l,h=>by cases h
 |n+1,c,l,h=>by
  rw[bE]at h;obtain⟨x,h1,h2⟩:=Ab.1 h;obtain⟨t,h3,rfl⟩:=Am.1 h2;obtain⟨rfl,h4⟩:=T7 hg h3;refine⟨rfl,?_⟩;rw[Bo,<-hg _ _ h1,<-h4,List.take_append_drop]
end Go.Proofs.YtkpfigikffphdaaGreatDoor
end
section
set_option maxRecDepth 100000
namespace Go.Proofs.YtkpfigikffphdaaGreatDoor
open Go.RowKit
theorem B5 {α β:Type}{b:Bool}{x y:Option α}{k:α->Option β}:(bif b then x else y).bind k=bif b then x.bind k else y.bind k:=by cases b<;>rfl
theorem Y7 {α β:Type}{b:Bool}{x:Option α}{k:α->Option β}:(X0 b x).bind k=X0 b (x.bind k):=by cases b<;>rfl
theorem qI {α β:Type}{cs:List PV}{j:Nat}{kk:Int->Option α}{k:α->Option β}:(hdI cs j kk).bind k=hdI cs j fun a=>(kk a).bind k:=by simp only[hdI,Ad]
theorem B31 {α β:Type}{cs:List PV}{j:Nat}{kk:List UInt8->Option α}{k:α->Option β}:(hdS cs j kk).bind k=hdS cs j fun a=>(kk a).bind k:=by simp only[hdS,Ad]
theorem C93 {α β:Type}{cs:List PV}{j:Nat}{kk:Int->Option α}{k:α->Option β}:(hdJ cs j kk).bind k=hdJ cs j fun a=>(kk a).bind k:=by simp only[hdJ,Ad]
theorem B5w {α β:Type}{cs:List PV}{kk:TR->Option α}{k:α->Option β}:(hdT cs kk).bind k=hdT cs fun a=>(kk a).bind k:=by simp only[hdT,hdI,Ad]
def pB (a:List UInt8):List PV:=[.str a]
def stG:List PV->Option (List UInt8)
 |[.str a]=>some a
 |_=>none
def isI:List (List UInt8)->List UInt8->Int->Int
 |[],_,_=>-1
 |a::l,s,i=>bif s==a then i else isI l s (i+1)
def D1 (l:List (List UInt8))(s:List UInt8):Bool:=l.any fun a=>s==a
def A2r (n:Nat)(c:List PV)(s:List UInt8):Option Bool:=(bE 1 stG n c).bind fun l=>bif decide (l.length<=1000000)then some (D1 l s)else none
def B9h (n:Nat)(c:List PV)(s:List UInt8):Option Int:=(bE 1 stG n c).bind fun l=>bif decide (l.length<=1000000)then some (isI l s 0)else none
def atP (s:PS):Option (Int×PS):=bif((s.n:Int)==0)then some (s.e,s)else X0 (decide ((0:Int)<=0)&&decide ((0:Int)<s.n)) (hdI s.cs 1 fun a=>some (a,s))
def A0v (s:PS)(a:Int):Option PS:=bif decide (s.b<0)then some ⟨some true,0,[],s.e,s.o,a⟩else some s
def jH (s:PS):Option PS:=(atP s).bind fun r=>(A0v r.2 r.1).bind fun s=>some s
def isP (s:PS)(a:Int)(n:Nat)(ws:List PV):Option (Bool×PS) :=
 bif decide ((0:Int)<s.n)then X0 (decide ((0:Int)<=0)&&decide ((0:Int)<s.n)) (hdI s.cs 0 fun k=>bif k==a then X0 (decide ((0:Int)<=0)&&decide ((0:Int)<s.n)) (hdS s.cs 2 fun w=>(A2r n ws w).bind fun r=>some (r,s))else some (false,s))else some (false,s)
def A5e (s:PS)(w:List UInt8):Option (Bool×PS):=(isP s 1 1 [.str w]).bind fun r=>some (r.1,r.2)
def bP (s:PS)(n:Nat)(ws:List PV):Option (Bool×PS):=(isP s 3 n ws).bind fun r=>some (r.1,r.2)
def I6 (s:PS):Option (TR×PS) :=
 bif((s.n:Int)==0)then(jH s).bind fun s=>some (TR.zero,s)else X0 (decide ((0:Int)<=0)&&decide ((0:Int)<s.n)) (hdT s.cs fun t=>X0 (decide ((0:Int)<=1)&&decide ((1:Int)<=s.n)) (some (t,⟨s.nl,s.n-1,(s.cs.take (s.n * 7)).drop (1 * 7),s.e,s.o,s.b⟩)))
def iH (s:PS)(w:List UInt8):Option (Bool×PS):=(A5e s w).bind fun r=>bif !r.1 then some (false,r.2)else(I6 r.2).bind fun q=>some (true,q.2)
def O5 (s:PS)(w:List UInt8):Option PS:=(bP s 1 [.str w]).bind fun r=>bif !r.1 then(jH r.2).bind fun s=>some s else(I6 r.2).bind fun q=>some q.2
def sD (s:PS):Option (List UInt8×PS) :=
 bif !((s.n:Int)==0)then X0 (decide ((0:Int)<=0)&&decide ((0:Int)<s.n)) (hdI s.cs 0 fun k=>bif k !=0 then(jH s).bind fun s=>some ([],s)else(I6 s).bind fun q=>some (q.1.t,q.2))else(jH s).bind fun s=>some ([],s)
def gR (s:PS)(m:Int):Option (Int×PS) :=
 bif !((s.n:Int)==0)then X0 (decide ((0:Int)<=0)&&decide ((0:Int)<s.n)) (hdI s.cs 0 fun k=>bif !(k !=2)then
  X0 (decide ((0:Int)<=0)&&decide ((0:Int)<s.n)) (hdI s.cs 3 fun vk=>bif !(vk !=2)then
  X0 (decide ((0:Int)<=0)&&decide ((0:Int)<s.n)) (hdJ s.cs 1 fun vn=>bif decide (m<vn)then(jH s).bind fun s=>some (0,s)else(I6 s).bind fun q=>some (q.1.vn,q.2))
  else(jH s).bind fun s=>some (0,s))else(jH s).bind fun s=>some (0,s))else(jH s).bind fun s=>some (0,s)
def F5i:List PV:=[.str [],.str [66,79,79,76],.str [73,78,84],.str [68,69,67,73,77,65,76],.str [84,69,88,84],.str [66,89,84,69,83]]
def A1z (w:List UInt8):Option Int:=(B9h 6 F5i w).bind fun i=>some (if 0>i then 0 else i)
def A6j (w:List UInt8):Option VR :=
 bif w==[84,82,85,69]then(bif w==[84,82,85,69]then(bif w==[84,82,85,69]then some ⟨1,1,0,[],true⟩else some ⟨1,0,0,[],true⟩)else some ⟨0,0,0,[],w==[78,85,76,76]⟩)else bif w==[70,65,76,83,69]then(bif w==[84,82,85,69]then some ⟨1,1,0,[],true⟩else some ⟨1,0,0,[],true⟩)else some ⟨0,0,0,[],w==[78,85,76,76]⟩
def lK (s:PS):Option (VR×PS) :=
 bif((s.n:Int)==0)then some (⟨0,0,0,[],false⟩,s)else X0 (decide ((0:Int)<=0)&&decide ((0:Int)<s.n)) (hdT s.cs fun t =>
  bif t.k==2 then(I6 s).bind fun q=>some (⟨t.vk,t.vn,t.vc,t.vs,true⟩,q.2)else
  (A6j t.t).bind fun v=>bif(bif t.k !=1 then true else !v.ok)then some (⟨0,0,0,[],false⟩,s)else(I6 s).bind fun q=>some (⟨v.vk,v.vn,v.vc,v.vs,true⟩,q.2))
def tO (s:PS):Option ((Int×Int)×PS) :=
 bif !((s.n:Int)==0)then X0 (decide ((0:Int)<=0)&&decide ((0:Int)<s.n)) (hdI s.cs 0 fun k=>bif !(k !=1)then
  X0 (decide ((0:Int)<=0)&&decide ((0:Int)<s.n)) (hdS s.cs 2 fun w=>(A1z w).bind fun j=>bif j==0 then(jH s).bind fun s=>some ((0,0),s)else
  (I6 s).bind fun q=>(A1z q.1.t).bind fun j=>bif j==3 then(O5 q.2 [40]).bind fun s=>(gR s 6).bind fun m=>(O5 m.2 [41]).bind fun s=>some ((j,m.1),s)else some ((j,0),q.2))
  else(jH s).bind fun s=>some ((0,0),s))else(jH s).bind fun s=>some ((0,0),s)
def B30:List (List UInt8)->PS->Option PS
 |[],s=>some s
 |w::ws,s=>(iH s w).bind fun r=>bif !r.1 then(jH r.2).bind fun s=>B30 ws s else B30 ws r.2
structure D0k (NG:Nat)(W:World->Prop)(fF:List UInt8->Option (Option Bool×Nat×List PV)):Prop where
 w:Y0 NG W
 idx:D8 NG W 230 (tCi B9h)
 con:D8 NG W 184 (tCn A2r)
 fields:D8 NG W 198 (tWs fF)
 bool:D8 NG W 277 (E8 [] I4 0 Tryz.f277)
section
variable {NG:Nat} {W:World->Prop} {fF:List UInt8->Option (Option Bool × Nat × List PV)} (D:D0k NG W fF)
include D
theorem E81:P9 NG W 96 (tSI atP):=E0y D.w A2 A7 Tryz.func96 rfl (by decide) fun s=>⟨0,fun K=>(E8c 0 s K).trans (by simp only[atP,B5,Y7,qI,Aa])⟩
theorem C6c:P9 NG W 95 (C6v A0v):=D2e D.w A2 A7 Tryz.func95 rfl (by decide) fun s a=>⟨0,fun K=>(B7r 0 s a K).trans (by simp only[A0v,B5,Aa])⟩
theorem aM:P9 NG W 52 (tSU jH):=E5p D.w A2 (A3 (E81 D) (A3 (C6c D) A7)) Tryz.func52 rfl (by decide) fun s=>⟨0,fun K=>(D80 _ _ 0 s K).trans (by simp only[jH,Ad,Aa])⟩
theorem C0s:P9 NG W 101 (B18 isP):=D1o D.w (A0 D.con A2) A7 Tryz.func101 rfl (by decide) fun s a nl n ws=>⟨0,fun K=>(F2q _ 0 s a nl n ws K).trans (by simp only[isP,B5,Y7,qI,B31,Ad,Aa])⟩
theorem A9b:P9 NG W 114 (pX A5e):=B2c D.w A2 (A3 (C0s D) A7) Tryz.func114 rfl (by decide) fun s w=>⟨0,fun K=>(E51 _ 0 s w K).trans (by simp only[A5e,Ad,Aa])⟩
theorem fC:P9 NG W 128 (tX bP):=D5r D.w A2 (A3 (C0s D) A7) Tryz.func128 rfl (by decide) fun s nl n ws=>⟨0,fun K=>(D7t _ 0 s nl n ws K).trans (by simp only[bP,Ad,Aa])⟩
theorem Q9:P9 NG W 102 (tST I6):=E28 D.w A2 (A3 (aM D) A7) Tryz.func102 rfl (by decide) fun s=>⟨0,fun K=>(C9t _ 0 s K).trans (by simp only[I6,B5,Y7,B5w,Ad,Aa])⟩
theorem mT:P9 NG W 64 (pX iH):=B2c D.w A2 (A3 (A9b D) (A3 (Q9 D) A7)) Tryz.func64 rfl (by decide) fun s w=>⟨0,fun K=>(D6c _ _ 0 s w K).trans (by simp only[iH,B5,Ad,Aa])⟩
theorem zH:P9 NG W 126 (wT O5):=D8m D.w A2 (A3 (fC D) (A3 (aM D) (A3 (Q9 D) A7))) Tryz.func126 rfl (by decide) fun s w=>⟨0,fun K=>(B06 _ _ _ 0 s w K).trans (by simp only[O5,B5,Ad,Aa])⟩
theorem A0r:P9 NG W 115 (tSS sD):=C3g D.w A2 (A3 (aM D) (A3 (Q9 D) A7)) Tryz.func115 rfl (by decide) fun s=>⟨0,fun K=>(D0e _ _ 0 s K).trans (by simp only[sD,B5,Y7,qI,Ad,Aa])⟩
theorem A4o:P9 NG W 135 (B9m gR):=D1j D.w A2 (A3 (aM D) (A3 (Q9 D) A7)) Tryz.func135 rfl (by decide) fun s a=>⟨0,fun K=>(B6t _ _ 0 s a K).trans (by simp only[gR,B5,Y7,qI,C93,Ad,Aa])⟩
theorem E3h:D8 NG W 200 (tWi A1z):=C1l D.w (A0 D.idx A2) A7 Tryz.func200 rfl (by decide) fun s=>⟨0,(D1e _ 0 s).trans (by simp only[A1z,F5i,Ad,Aa])⟩
theorem E3y:D8 NG W 256 (tWV A6j):=E4e D.w (A0 D.bool A2) A7 Tryz.func256 rfl (by decide) fun s=>⟨0,(D8h 0 s).trans (by simp only[A6j,C9k,D8i,B5,Aa])⟩
theorem B8s:P9 NG W 229 (tSL lK):=E58 D.w (A0 (E3y D) A2) (A3 (Q9 D) A7) Tryz.func229 rfl (by decide) fun s=>⟨0,fun K=>(B48 _ _ 0 s K).trans (by simp only[lK,B5,Y7,B5w,Ad,Aa])⟩
theorem D28:P9 NG W 120 (tSY tO):=E2w D.w (A0 (E3h D) A2) (A3 (aM D) (A3 (Q9 D) (A3 (zH D) (A3 (A4o D) A7)))) Tryz.func120 rfl (by decide) fun s=>⟨0,fun K=>(C4j _ _ _ _ _ 0 s K).trans (by simp only[tO,B5,Y7,qI,B31,Ad,Aa])⟩
end
def sI (fF:List UInt8->Option (Option Bool×Nat×List PV))(s:PS)(w:List UInt8):Option PS:=(fF w).bind fun r=>(bE 1 stG r.2.1 r.2.2).bind fun l=>bif decide (l.length<=1000000)then B30 l s else none
theorem A0y (a:List UInt8):(pB a).length=1:=rfl
theorem A0t (l:List PV)(a:List UInt8)(h:stG l=some a):l=pB a:=by
 unfold stG at h;split at h
 ·injection h with h;subst h;rfl
 ·cases h
theorem C0r (ff:List UInt8->Option (Option Bool×Nat×List PV))(fu:Nat)(nl:Option Bool)(l:List (List UInt8))(hl:l.length<=1000000)(K:KR):∀(k i n:Nat) (s:PS),i+k=l.length->k<n->
  waL ff iH jH fu K n (D15 nl l.length (l.flatMap pB) (l.length:Int) (i:Int) s)=(B30 (l.drop i) s).bind fun s=>K [s.box] (.tuple [])
 |k,i,0,s,_,h=>by omega
 |0,i,n+1,s,hi,hn=>by
  unfold waL;rw[R6,C2r,B1 (decide_eq_false (by omega)),List.drop_of_length_le (by omega)];rfl
 |k+1,i,n+1,s,hi,hn=>by
  have hc:=Ag (l:=l) (i:=i) (by omega);rw[List.drop_eq_getElem_cons (show i<l.length by omega)];generalize l[i]=a at hc;have ih:=fun s=>C0r ff fu nl l hl K k (i+1) n s (by omega) (by omega);unfold waL at ih ⊢;rw[R6,C2r,A4 (decide_eq_true (by omega)),X0,A4 (by rw[decide_eq_true (by omega),decide_eq_true (by omega)];rfl),At,jK A0y hc,B2 (by omega) (by omega)];simp only[pB,List.head?_cons,Aa,PV.asStr,B30];rw[Ad];congr 1;funext r;rw[B5,Ad]
  have e:((i:Int)+1)=((i+1:Nat):Int):=by omega
  rw[e];congr 1
  ·congr 1;funext s;exact ih s
  ·exact ih r.2
structure PF where
 chain:PS->Int->Option (XR×PS)
 neg:PS->Option (XR×PS)
 comp:PS->Option (XR×PS)
 sum:PS->Option (XR×PS)
 fact:PS->Option (XR×PS)
 atom:PS->Option (XR×PS)
 cast:PS->Option (XR×PS)
 call:PS->Option (XR×PS)
 expr:PS->Option (XR×PS)
def A81 (part:PS->Option (XR×PS))(n:Nat):Nat->XR->PS->Option (XR×PS)
 |0,_,_=>none
 |m+1,e,s=>(isP s (B3z n) (rV n).length (rV n)).bind fun r=>bif r.1 then(I6 r.2).bind fun t=>(part t.2).bind fun y=>A81 part n m (Z9 t.1.a t.1.t e y.1) y.2 else some (e,r.2)
def A3o (P:PF)(n:Nat):PS->Option (XR×PS):=match n with
 |0=>fun s=>P.chain s 1
 |1=>P.neg
 |2=>fun s=>P.chain s 3
 |_=>P.fact
def oR (P:PF)(s:PS)(a:Int):Option (XR×PS):=if a=0\/a=1\/a=2\/a=3 then(A3o P a.toNat s).bind fun e=>A81 (A3o P a.toNat) a.toNat (s.n+2) e.1 e.2 else none
def xs0 (e:XR)(s:PS):Option (XR×PS):=some (e,s)
def aT (fF:List UInt8->Option (Option Bool×Nat×List PV))(P:PF):PF where
 chain:=oR P
 neg :=fun s=>(A5e s [78,79,84]).bind fun r=>bif !r.1 then(P.comp r.2).bind fun q=>some (q.1,q.2)else
  mH jH r.2 (fun s kk=>(I6 s).bind fun t=>(P.neg t.2).bind fun e=>kk (wW t.1.a [78,79,84] e.1) e.2) (fun s=>some (XR.zero,s)) fun x s=>some (x,s)
 fact:=fun s=>(bP s 1 [.str [45]]).bind fun r=>bif !r.1 then(P.atom r.2).bind fun q=>some (q.1,q.2)else
  mH jH r.2 (fun s kk=>(I6 s).bind fun t=>(P.fact t.2).bind fun e=>kk (wW t.1.a [45] e.1) e.2) (fun s=>some (XR.zero,s)) fun x s=>some (x,s)
 cast:=fun s=>(I6 s).bind fun t=>dJ bP jH I6 O5 t.2 (fun s kk=>(P.expr s).bind fun e=>(sI fF e.2 [65,83]).bind fun s=>(tO s).bind fun y=>kk (gG t.1.a y.1.1 y.1.2 e.1) y.2) (fun s=>some (XR.zero,s)) fun x s=>some (x,s)
 call:=fun s=>(I6 s).bind fun t=>dJ bP jH I6 O5 t.2 (fun s kk=>bif t.1.t==[67,79,85,78,84]then(bP s 1 [.str [42]]).bind fun r=>(bif r.1 then(I6 r.2).bind fun q=>kk (call0 t.1.a t.1.t) q.2 else(P.expr r.2).bind fun e=>kk (S2 t.1.a t.1.t e.1) e.2)else(P.expr s).bind fun e=>kk (S2 t.1.a t.1.t e.1) e.2)
  (fun s=>some (call0 t.1.a t.1.t,s)) fun x s=>some (x,s)
 atom:=fun s=>(atP s).bind fun a=>(bP a.2 1 [.str [40]]).bind fun r=>bif r.1 then dJ bP jH I6 O5 r.2 (fun s kk=>(P.expr s).bind fun e=>kk e.1 e.2) (fun s=>some (XR.zero,s)) (fun x s=>some (x,s))else
  (A5e r.2 [67,65,83,84]).bind fun r=>bif r.1 then(P.cast r.2).bind fun e=>some (e.1,e.2)else
  (isP r.2 1 4 [.str [67,79,85,78,84],.str [83,85,77],.str [77,73,78],.str [77,65,88]]).bind fun r=>bif r.1 then(P.call r.2).bind fun e=>some (e.1,e.2)else
  (lK r.2).bind fun v=>bif v.1.ok then some (pN a.1 v.1.vk v.1.vn v.1.vc v.1.vs,v.2)else
  (sD v.2).bind fun n=>(bP n.2 1 [.str [46]]).bind fun r=>bif r.1 then(I6 r.2).bind fun t=>(sD t.2).bind fun m=>some (dX a.1 n.1 m.1,m.2)else some (dX a.1 [] n.1,r.2)
 comp:=fun s=>(P.sum s).bind fun e=>(bP e.2 6 F5b).bind fun r=>bif r.1 then(I6 r.2).bind fun t=>(P.sum t.2).bind fun y=>some (Z9 t.1.a t.1.t e.1 y.1,y.2)else
  (A5e r.2 [73,83]).bind fun r=>bif !r.1 then some (e.1,r.2)else(I6 r.2).bind fun t=>(iH t.2 [78,79,84]).bind fun n=>(sI fF n.2 [78,85,76,76]).bind fun s=>some (fS t.1.a n.1 e.1,s)
 sum:=fun s=>(P.chain s 2).bind fun e=>some (e.1,e.2)
 expr:=fun s=>(P.chain s 0).bind fun e=>some (e.1,e.2)
def pf0:PF:=⟨fun _ _=>none,fun _=>none,fun _=>none,fun _=>none,fun _=>none,fun _=>none,fun _=>none,fun _=>none,fun _=>none⟩
def nX (fF:List UInt8->Option (Option Bool×Nat×List PV)):Nat->PF
 |0=>pf0
 |d+1=>aT fF (nX fF d)
theorem B39 (P:PF)(n:Nat)(fu:Nat)(K:KR)(hs:∀(e:XR) (s:PS) (G:St->Option (List (List PV)×PV)),gJ (A4h P.chain P.neg P.fact isP I6) hCh fu (C4m P.chain P.neg P.fact isP I6 K) fCh [1,1,1,1,1,0,0] (fun _=>none) (sR n e s) (fun st=>C2 (hCh.loop.lookup 1) st G)=
   (isP s (B3z n) (rV n).length (rV n)).bind fun r=>bif r.1 then(I6 r.2).bind fun t=>(A3o P n t.2).bind fun y=>G (sR n (Z9 t.1.a t.1.t e y.1) y.2)else K [r.2.box] (.agg e.cells)) :
  ∀(m:Nat) (e:XR) (s:PS) (q:XR×PS),A81 (A3o P n) n m e s=some q->chL P.chain P.neg P.fact isP I6 fu K m (sR n e s)=K [q.2.box] (.agg q.1.cells)
 |0,e,s,q,h=>by cases h
 |m+1,e,s,q,h=>by
  unfold chL;rw[R6,hs];rw[A81]at h;obtain⟨r,h1,h⟩:=Ab.1 h;rw[h1,Aa]
  cases hr:r.1 with
  |false =>
   rw[hr,cond_false]at h;injection h with h;subst h;rfl
  |true =>
   rw[hr,cond_true]at h;obtain⟨t,h2,h⟩:=Ab.1 h;obtain⟨y,h3,h⟩:=Ab.1 h;rw[cond_true,h2,Aa,h3,Aa];exact B39 P n fu K hs m _ _ q h
theorem C6l {NG:Nat}{W:World->Prop}(hW:Y0 NG W){P:PF}(hh:I9 NG W (F6d P.chain P.neg P.fact isP I6))(hl:D8 NG W 100 E8a):P9 NG W 53 (A58 (oR P)) :=
 E4 hW (A0 hl A2) hh B3 (h:=hCh) Tryz.func53 rfl (by decide) (B2d _) fun bs xs r h=>by
  simp only[A58]at h;split at h
  ·rename_i a;obtain⟨s,hbs,h2⟩:=H3 h;subst hbs;obtain⟨q,hq,h3⟩:=Ab.1 h2;unfold oR at hq;obtain⟨ha,hq⟩:=A5 hq;obtain⟨e,he,hq⟩:=Ab.1 hq;refine⟨s.n+2,Eq.trans ?_ h3⟩;rcases ha with rfl|rfl|rfl|rfl
   ·exact(D9g P.chain P.neg P.fact isP I6 _ s _).trans (by rw[show P.chain s (IntKind.i64.wrap (0+1))=some e from he,Aa];exact B39 P 0 _ _ (fun e s G=>D5o _ _ _ _ _ _ e s _ G) _ _ _ q hq)
   ·exact(E3t P.chain P.neg P.fact isP I6 _ s _).trans (by rw[show P.neg s=some e from he,Aa];exact B39 P 1 _ _ (fun e s G=>D65 _ _ _ _ _ _ e s _ G) _ _ _ q hq)
   ·exact(E1p P.chain P.neg P.fact isP I6 _ s _).trans (by rw[show P.chain s (IntKind.i64.wrap (2+1))=some e from he,Aa];exact B39 P 2 _ _ (fun e s G=>D40 _ _ _ _ _ _ e s _ G) _ _ _ q hq)
   ·exact(E2j P.chain P.neg P.fact isP I6 _ s _).trans (by rw[show P.fact s=some e from he,Aa];exact B39 P 3 _ _ (fun e s G=>D3i _ _ _ _ _ _ e s _ G) _ _ _ q hq)
  ·cases h
structure POK (NG:Nat)(W:World->Prop)(P:PF):Prop where
 chain:P9 NG W 53 (A58 P.chain)
 neg:P9 NG W 98 (rS P.neg)
 comp:P9 NG W 179 (rS P.comp)
 sum:P9 NG W 224 (rS P.sum)
 fact:P9 NG W 99 (rS P.fact)
 atom:P9 NG W 182 (rS P.atom)
 cast:P9 NG W 227 (rS P.cast)
 call:P9 NG W 228 (rS P.call)
 expr:P9 NG W 22 (rS P.expr)
theorem F9e {NG:Nat}{W:World->Prop}:POK NG W pf0:=⟨C5i,fV,fV,fV,fV,fV,fV,fV,fV⟩
section
variable {NG:Nat} {W:World->Prop} {fF:List UInt8->Option (Option Bool × Nat × List PV)} (D:D0k NG W fF)
include D
theorem A9a:P9 NG W 118 (wT (sI fF)) :=
 E4 D.w (A0 D.fields A2) (A3 (mT D) (A3 (aM D) A7)) B3 (h:=hWa) Tryz.func118 rfl (by decide) (B62 _) fun bs xs r h=>by
  simp only[wT]at h;split at h
  ·rename_i w;obtain⟨s,hbs,h2⟩:=H3 h;subst hbs;obtain⟨q,hq,h3⟩:=Ab.1 h2;unfold sI at hq;obtain⟨l0,hl0,hq⟩:=Ab.1 hq;obtain⟨l,hl,hq⟩:=Ab.1 hq;obtain⟨hle,hq⟩:=B8 hq;obtain⟨e1,e2⟩:=T7 A0t hl;refine⟨l.length+1,Eq.trans ?_ h3⟩;refine(F2i fF iH jH _ s w _).trans ?_;rw[hl0,Aa,e1,e2];refine(C0r fF _ _ l (of_decide_eq_true hle) _ l.length 0 _ s (by omega) (by omega)).trans ?_;rw[Bt,hq];rfl
  ·cases h
theorem E9e:D8 NG W 100 E8a:=C0 D.w A2 Tryz.func100 rfl (by decide)
theorem B0w {ld:List (FuncId×H7)}(hd:I9 NG W ld):P9 NG W 180 (C2o jH ld) :=
 D8f D.w A2 (A3 (aM D) hd) B3 (C88 (C7q D.w A2 A7 B3 Tryz.func225 rfl (by decide)) D6u) Tryz.func180 rfl (by decide)
theorem A8q {ld:List (FuncId×H7)}(hd:I9 NG W ld):P9 NG W 226 (C11 bP jH I6 O5 ld) :=
 hH D.w A2 (A3 (fC D) (A3 (aM D) (A3 (B0w D (A3 (hH D.w A2 (A3 (Q9 D) (A3 (zH D) hd)) B3 Tryz.func253 rfl (by decide)) A7)) A7))) B3 Tryz.func226 rfl (by decide)
theorem F92 {P:PF}(h:POK NG W P):POK NG W (aT fF P) where
 chain:=C6l D.w (A3 (hH D.w A2 (A3 h.chain A7) B3 Tryz.func97 rfl (by decide)) (A3 h.neg (A3 h.fact (A3 (C0s D) (A3 (Q9 D) A7))))) (E9e D)
 neg:=jM D.w A2 (A3 (A9b D) (A3 h.comp (A3 (B0w D (A3 (hH D.w A2 (A3 (Q9 D) (A3 h.neg A7)) B3 Tryz.func181 rfl (by decide)) A7)) A7))) Tryz.func98 rfl (by decide)
  fun s=>⟨0,fun K=>(E2y _ _ _ _ _ 0 s K).trans (by simp only[aT,mH,B5,Ad,Aa])⟩
 fact:=jM D.w A2 (A3 (fC D) (A3 h.atom (A3 (B0w D (A3 (hH D.w A2 (A3 (Q9 D) (A3 h.fact A7)) B3 Tryz.func183 rfl (by decide)) A7)) A7))) Tryz.func99 rfl (by decide)
  fun s=>⟨0,fun K=>(D4q _ _ _ _ _ 0 s K).trans (by simp only[aT,mH,B5,Ad,Aa])⟩
 cast:=jM D.w A2 (A3 (Q9 D) (A3 (A8q D (A3 (hH D.w A2 (A3 h.expr (A3 (A9a D) (A3 (D28 D) A7))) B3 Tryz.func254 rfl (by decide)) A7)) A7)) Tryz.func227 rfl (by decide)
  fun s=>⟨0,fun K=>(C7m _ _ _ _ _ _ _ 0 s K).trans (by simp only[aT,dJ,mH,B5,Ad,Aa])⟩
 call:=jM D.w A2 (A3 (Q9 D) (A3 (A8q D (A3 (hH D.w A2 (A3 (fC D) (A3 (Q9 D) (A3 h.expr A7))) B3 Tryz.func255 rfl (by decide)) A7)) A7)) Tryz.func228 rfl (by decide)
  fun s=>⟨0,fun K=>(D0v _ _ _ _ _ 0 s K).trans (by simp only[aT,dJ,mH,B5,Ad,Aa])⟩
 atom:=jM D.w A2 (A3 (E81 D) (A3 (fC D) (A3 (A8q D (A3 h.expr A7)) (A3 (A9b D) (A3 (C0s D) (A3 h.cast (A3 h.call (A3 (B8s D) (A3 (A0r D) (A3 (Q9 D) A7)))))))))) Tryz.func182 rfl (by decide)
  fun s=>⟨0,fun K=>(D87 _ _ _ _ _ _ _ _ _ _ _ _ 0 s K).trans (by simp only[aT,dJ,mH,B5,Ad,Aa])⟩
 comp:=jM D.w A2 (A3 h.sum (A3 (fC D) (A3 (Q9 D) (A3 (A9b D) (A3 (mT D) (A3 (A9a D) A7)))))) Tryz.func179 rfl (by decide)
  fun s=>⟨0,fun K=>(C59 _ _ _ _ _ _ 0 s K).trans (by simp only[aT,B5,Ad,Aa])⟩
 sum:=jM D.w A2 (A3 h.chain A7) Tryz.func224 rfl (by decide)
  fun s=>⟨0,fun K=>(E5o _ 0 s K).trans (by simp only[aT,Ad,Aa])⟩
 expr:=jM D.w A2 (A3 h.chain A7) Tryz.func22 rfl (by decide)
  fun s=>⟨0,fun K=>(D0l _ 0 s K).trans (by simp only[aT,Ad,Aa])⟩
theorem pok:∀d,POK NG W (nX fF d)
 |0=>F9e
 |d+1=>F92 D (pok d)
end
inductive J3 (α:Type) where
 |bad (a:Int)
 |ok (x:α) (R:List TR)
def J3.bind {α β:Type}:J3 α->(α->List TR->J3 β)->J3 β
 |.bad a,_=>.bad a
 |.ok x R,k=>k x R
def bB (e:Int):List TR->Int
 |[]=>e
 |t::_=>t.a
def yP:List TR->List UInt8
 |[]=>[]
 |t::_=>t.t
def A8 (a:Int)(ws:List (List UInt8)):List TR->Bool
 |[]=>false
 |t::_=>t.k==a&&D1 ws t.t
abbrev O7:List UInt8:=[78,85,76,76]
abbrev sA:List UInt8:=[84,82,85,69]
abbrev kW:List UInt8:=[70,65,76,83,69]
abbrev G4:List UInt8:=[78,79,84]
abbrev wX:List UInt8:=[73,83]
abbrev zJ:List UInt8:=[65,83]
abbrev aU:List UInt8:=[67,65,83,84]
abbrev L0:List UInt8:=[67,79,85,78,84]
abbrev J1:List (List UInt8):=[L0,[83,85,77],[77,73,78],[77,65,88]]
abbrev bN:List (List UInt8):=[[61],[60,62],[60],[60,61],[62],[62,61]]
abbrev F5d:List (List UInt8):=[[],[66,79,79,76],[73,78,84],[68,69,67,73,77,65,76],[84,69,88,84],[66,89,84,69,83]]
abbrev opW (n:Nat):List (List UInt8):=match n with|0=>[[79,82]]|1=>[[65,78,68]]|2=>[[43],[45]]|_=>[[42],[47],[37]]
abbrev opK (n:Nat):Int:=match n with|0=>1|1=>1|_=>3
section
variable (e:Int)
def O9 (a:Int)(w:List UInt8)(T:List TR):J3 Unit:=bif A8 a [w] T then .ok () T.tail else .bad (bB e T)
def iF:List TR->J3 (List UInt8)
 |[]=>.bad e
 |t::R=>bif t.k==0 then .ok t.t R else .bad t.a
def A5g (m:Int):List TR->J3 Int
 |[]=>.bad e
 |t::R=>bif t.k==2 then bif t.vk==2 then bif decide (t.vn<=m)then .ok t.vn R else .bad t.a else .bad t.a else .bad t.a
def A7s (w:List UInt8):Int:=if 0>isI F5d w 0 then 0 else isI F5d w 0
def U7:List TR->J3 (Int×Int)
 |[]=>.bad e
 |t::R=>bif t.k==1 then bif A7s t.t==0 then .bad t.a else bif A7s t.t==3 then(O9 e 3 [40] R).bind fun _ R=>(A5g e 6 R).bind fun n R=>(O9 e 3 [41] R).bind fun _ R=>.ok (A7s t.t,n) R else .ok (A7s t.t,0) R else .bad t.a
def oN:List TR->Option VR
 |[]=>none
 |t::_=>bif t.k==2 then some ⟨t.vk,t.vn,t.vc,t.vs,true⟩else bif t.k==1 then bif t.t==sA then some ⟨1,1,0,[],true⟩else bif t.t==kW then some ⟨1,0,0,[],true⟩else bif t.t==O7 then some ⟨0,0,0,[],true⟩else none else none
structure GF where
 expr:List TR->J3 XR
 neg:List TR->J3 XR
 fact:List TR->J3 XR
variable (low:Option GF)
def sJ (T:List TR)(body:GF->J3 XR):J3 XR:=match low with
 |none=>.bad (bB e T)
 |some G=>body G
def Y3 (T:List TR)(body:GF->List TR->J3 XR):J3 XR :=
 bif A8 3 [[40]] T then sJ e low T fun G=>(body G T.tail).bind fun x R=>(O9 e 3 [41] R).bind fun _ R=>.ok x R else .bad (bB e T)
def A5q (T:List TR):J3 XR:=Y3 e low T.tail fun G R=>(G.expr R).bind fun x R=>(O9 e 1 zJ R).bind fun _ R=>(U7 e R).bind fun y R=>.ok (gG (bB e T) y.1 y.2 x) R
def zG (T:List TR):J3 XR:=Y3 e low T.tail fun G R=>bif yP T==L0 then bif A8 3 [[42]] R then .ok (call0 (bB e T) (yP T)) R.tail else(G.expr R).bind fun x R=>.ok (S2 (bB e T) (yP T) x) R else(G.expr R).bind fun x R=>.ok (S2 (bB e T) (yP T) x) R
def gF (T:List TR):J3 XR :=
 bif A8 3 [[40]] T then Y3 e low T fun G R=>G.expr R else bif A8 1 [aU] T then A5q e low T else bif A8 1 J1 T then zG e low T else
 match oN T with
 |some v=>.ok (pN (bB e T) v.vk v.vn v.vc v.vs) T.tail
 |none=>(iF e T).bind fun n R=>bif A8 3 [[46]] R then(iF e R.tail).bind fun m R=>.ok (dX (bB e T) n m) R else .ok (dX (bB e T) [] n) R
def G3 (T:List TR):J3 XR:=bif A8 3 [[45]] T then sJ e low T fun G=>(G.fact T.tail).bind fun x R=>.ok (wW (bB e T) [45] x) R else gF e low T
def J4 (n:Nat)(part:List TR->J3 XR):Nat->XR->List TR->J3 XR
 |0,x,T=>.ok x T
 |m+1,x,T=>bif A8 (opK n) (opW n) T then(part T.tail).bind fun y R=>J4 n part m (Z9 (bB e T) (yP T) x y) R else .ok x T
def A1p (n:Nat)(part:List TR->J3 XR)(T:List TR):J3 XR:=(part T).bind (J4 e n part 5000)
def uX:List TR->J3 XR:=A1p e 3 (G3 e low)
def tW:List TR->J3 XR:=A1p e 2 (uX e low)
def fR (x:XR)(T:List TR):J3 XR :=
 bif A8 3 bN T then(tW e low T.tail).bind fun y R=>.ok (Z9 (bB e T) (yP T) x y) R else
 bif A8 1 [wX] T then(O9 e 1 O7 (bif A8 1 [G4] T.tail then T.tail.tail else T.tail)).bind fun _ R=>.ok (fS (bB e T) (A8 1 [G4] T.tail) x) R else .ok x T
def nR (T:List TR):J3 XR:=(tW e low T).bind fun x R=>fR e low x R
def bS (T:List TR):J3 XR:=bif A8 1 [G4] T then sJ e low T fun G=>(G.neg T.tail).bind fun x R=>.ok (wW (bB e T) G4 x) R else nR e low T
def sW:List TR->J3 XR:=A1p e 1 (bS e low)
def T9:List TR->J3 XR:=A1p e 0 (sW e low)
end
def nW (e:Int):Nat->Option GF
 |0=>none
 |k+1=>some ⟨T9 e (nW e k),bS e (nW e k),G3 e (nW e k)⟩
def W3:List UInt8->Bool
 |[]=>false
 |c::_=>decide (65<=c.toNat)&&decide (c.toNat<=90)
structure dK (T:List TR):Prop where
 len:T.length<=5000
 at0:∀t∈T,0<=t.a
 key:∀t∈T,t.k=1->W3 t.t=true
 sign:∀t∈T,t.k=3->W3 t.t=false
theorem dK.suf {T R:List TR}(h:dK T)(hs:R <:+ T):dK R:=⟨Nat.le_trans hs.length_le h.len,fun t ht=>h.at0 t (hs.subset ht),fun t ht=>h.key t (hs.subset ht),fun t ht=>h.sign t (hs.subset ht)⟩
theorem dK.tail {T:List TR}(h:dK T):dK T.tail:=h.suf (Ck T)
theorem dK.nxt0 {e:Int}(he:0<=e){T:List TR}(h:dK T):0<=bB e T:=by
 cases T with
 |nil=>exact he
 |cons t R=>exact h.at0 t (An ..)
def PG (e:Int)(nl:Option Bool)(o:Int)(T:List TR):PS:=⟨nl,T.length,T.flatMap TR.cells,e,o,-1⟩
def PB (e o a:Int):PS:=⟨some true,0,[],e,o,a⟩
def V0 {α:Type}(e o a:Int)(r:Option (α×PS)):Prop:=∃y,r=some (y,PB e o a)
def E3 {α:Type}(e:Int)(nl:Option Bool)(o:Int)(T:List TR)(g:J3 α)(r:Option (α×PS)):Prop:=match g with
 |.bad a=>0<=a/\V0 e o a r
 |.ok x R=>R <:+ T/\r=some (x,PG e nl o R)
structure cU {α:Type}(e o:Int)(f:PS->Option (α×PS))(g:List TR->J3 α):Prop where
 good:∀nl T,dK T->E3 e nl o T (g T) (f (PG e nl o T))
 badd:∀a,0<=a->V0 e o a (f (PB e o a))
theorem V0.ret {α:Type}{e o a:Int}(x:α):V0 e o a (some (x,PB e o a)):=⟨x,rfl⟩
theorem V0.bind {α β:Type}{e o o' a:Int}{r:Option (α×PS)}{k:α×PS->Option (β×PS)}(h:V0 e o a r)(hk:∀x,V0 e o' a (k (x,PB e o a))):V0 e o' a (r.bind k):=by
 obtain⟨y,rfl⟩:=h;exact hk y
theorem E3.bind {α β:Type}{e:Int}{nl:Option Bool}{o o':Int}{T:List TR}{g:J3 α}{r:Option (α×PS)}{kg:α->List TR->J3 β}{k:α×PS->Option (β×PS)}
  (h:E3 e nl o T g r) (hk:∀x R,R <:+ T->E3 e nl o' R (kg x R) (k (x,PG e nl o R))) (hb:∀x a,0<=a->V0 e o' a (k (x,PB e o a))):E3 e nl o' T (g.bind kg) (r.bind k):=by
 cases g with
 |bad a =>
  obtain⟨ha,y,rfl⟩:=h;exact⟨ha,hb y a ha⟩
 |ok x R =>
  obtain⟨hs,rfl⟩:=h;have:=hk x R hs;simp only[J3.bind,Aa];unfold E3 at this ⊢;split at this
  ·exact this
  ·exact⟨this.1.trans hs,this.2⟩
theorem E3.ret {α:Type}{e:Int}{nl:Option Bool}{o:Int}{T:List TR}(x:α):E3 e nl o T (.ok x T) (some (x,PG e nl o T)):=⟨List.suffix_rfl,rfl⟩
theorem E3.suf {α:Type}{e:Int}{nl:Option Bool}{o:Int}{T R:List TR}{g:J3 α}{r:Option (α×PS)}(h:E3 e nl o R g r)(hs:R <:+ T):E3 e nl o T g r:=by
 unfold E3 at h ⊢;split at h
 ·exact h
 ·exact⟨h.1.trans hs,h.2⟩
theorem dL {β:Type}{r:Option PS}{k:PS->Option β}:r.bind k=(r.map fun s=>((),s)).bind fun q=>k q.2:=by cases r<;>rfl
section
variable {e:Int} {nl:Option Bool} {o:Int}
theorem E6d (T:List TR):atP (PG e nl o T)=some (bB e T,PG e nl o T):=by
 cases T with
 |nil=>rfl
 |cons t R =>
  unfold atP;rw[B1 (by rfl),X0,A4 (by simp[PG])];rfl
theorem E7h (a:Int):atP (PB e o a)=some (e,PB e o a):=rfl
theorem zC (T:List TR):jH (PG e nl o T)=some (PB e o (bB e T)):=by
 unfold jH;rw[E6d];rfl
theorem B5a {a:Int}(ha:0<=a):jH (PB e o a)=some (PB e o a):=by
 unfold jH;rw[E7h,Aa];unfold A0v;rw[B1 (by exact decide_eq_false (by show ¬a<0;omega))];rfl
theorem rP (t:TR)(R:List TR):(decide ((0:Int)<=0)&&decide ((0:Int)<(PG e nl o (t::R)).n))=true:=by simp[PG]
theorem A3r {a:Int}{n:Nat}{ws:List PV}{l:List (List UInt8)}(hd:bE 1 stG n ws=some l)(hl:decide (l.length<=1000000)=true)(T:List TR):isP (PG e nl o T) a n ws=some (A8 a l T,PG e nl o T):=by
 cases T with
 |nil=>rfl
 |cons t R =>
  unfold isP;rw[A4 (by simp[PG]),X0,rP,cond_true,X0,cond_true];show(bif t.k==a then(A2r n ws t.t).bind fun r=>some (r,PG e nl o (t::R))else some (false,PG e nl o (t::R)))=_;unfold A2r;rw[A8,hd,Aa,hl,cond_true,Aa]
  cases t.k==a<;>rfl
theorem E83 {a b:Int}{n:Nat}{ws:List PV}:isP (PB e o b) a n ws=some (false,PB e o b):=rfl
theorem B14 (w:List UInt8)(T:List TR):A5e (PG e nl o T) w=some (A8 1 [w] T,PG e nl o T):=by
 unfold A5e;rw[A3r (l:=[w]) rfl rfl];rfl
theorem A8p {w:List UInt8}{b:Int}:A5e (PB e o b) w=some (false,PB e o b):=rfl
theorem mZ {n:Nat}{ws:List PV}{l:List (List UInt8)}(hd:bE 1 stG n ws=some l)(hl:decide (l.length<=1000000)=true)(T:List TR):bP (PG e nl o T) n ws=some (A8 3 l T,PG e nl o T):=by
 unfold bP;rw[A3r hd hl];rfl
theorem nC {n:Nat}{ws:List PV}{b:Int}:bP (PB e o b) n ws=some (false,PB e o b):=rfl
theorem A6e (t:TR):t.cells.length=7:=rfl
theorem uZ (t:TR)(R:List TR):I6 (PG e nl o (t::R))=some (t,PG e nl o R):=by
 unfold I6;rw[B1 (by rfl),X0,rP,cond_true];show X0 (decide ((0:Int)<=1)&&decide ((1:Int)<=((t::R).length:Nat))) (some (t,(⟨nl,R.length+1-1,(((t::R).flatMap TR.cells).take ((R.length+1) * 7)).drop (1 * 7),e,o,-1⟩:PS)))=_
 rw[X0,A4 (by simp;omega),List.take_of_length_le (by
  have:∀l:List TR,(l.flatMap TR.cells).length=l.length * 7:=fun l=>by
   induction l with
   |nil=>rfl
   |cons a l ih=>rw[Bo,List.length_append,ih,A6e,Ac];omega
  rw[this,Ac]
  exact Ak _),Bo]
 rfl
theorem pO {a:Int}{ws:List (List UInt8)}{T:List TR}(h:A8 a ws T=true):∃t R,T=t::R:=by
 cases T with
 |nil=>cases h
 |cons t R=>exact⟨t,R,rfl⟩
theorem cD {a:Int}{ws:List (List UInt8)}{T:List TR}(h:A8 a ws T=true):∃t,I6 (PG e nl o T)=some (t,PG e nl o T.tail)/\t.a=bB e T/\t.t=yP T:=by
 obtain⟨t,R,rfl⟩:=pO h;exact⟨t,uZ t R,rfl,rfl⟩
theorem C1b (w:List UInt8)(T:List TR):iH (PG e nl o T) w=some (A8 1 [w] T,PG e nl o (bif A8 1 [w] T then T.tail else T)):=by
 unfold iH;rw[B14,Aa]
 cases h:A8 1 [w] T with
 |false=>rfl
 |true =>
  obtain⟨t,ht,-⟩:=cD (e:=e) (nl:=nl) (o:=o) h;simp only[Au,cond_false,ht,Aa,cond_true]
theorem E3p {w:List UInt8}{b:Int}:iH (PB e o b) w=some (false,PB e o b):=rfl
theorem sX (he:0<=e)(w:List UInt8){T:List TR}(hT:dK T):E3 e nl o T (O9 e 3 w T) ((O5 (PG e nl o T) w).map fun s=>((),s)):=by
 unfold O5 O9;rw[mZ (l:=[w]) rfl rfl,Aa]
 cases h:A8 3 [w] T with
 |false =>
  rw[show(bif !(false,PG e nl o T).1 then(jH (false,PG e nl o T).2).bind fun s=>some s else(I6 (false,PG e nl o T).2).bind fun q=>some q.2)=(jH (PG e nl o T)).bind fun s=>some s from rfl,zC];exact⟨hT.nxt0 he,(),rfl⟩
 |true =>
  obtain⟨t,ht,-⟩:=cD (e:=e) (nl:=nl) (o:=o) h;simp only[Au,cond_false,ht,Aa,cond_true];exact⟨Ck T,rfl⟩
theorem sY {w:List UInt8}{a:Int}(ha:0<=a):O5 (PB e o a) w=some (PB e o a):=by
 unfold O5;rw[nC,Aa];simp only[Ar,cond_true,B5a ha,Aa]
def aZ (fF:List UInt8->Option (Option Bool×Nat×List PV))(w:List UInt8):Prop:=∃nl,fF w=some (nl,1,[.str w])
variable {fF:List UInt8->Option (Option Bool × Nat × List PV)}
theorem C22 {w:List UInt8}(h:aZ fF w)(s:PS):sI fF s w=(iH s w).bind fun r=>bif !r.1 then(jH r.2).bind fun s=>some s else some r.2:=by
 obtain⟨nl,h⟩:=h;unfold sI;rw[h];rfl
theorem C8y (he:0<=e){w:List UInt8}(h:aZ fF w){T:List TR}(hT:dK T):E3 e nl o T (O9 e 1 w T) ((sI fF (PG e nl o T) w).map fun s=>((),s)):=by
 rw[C22 h,C1b,Aa];unfold O9
 cases h:A8 1 [w] T with
 |false =>
  simp only[Ar,cond_true,cond_false,zC,Aa];exact⟨hT.nxt0 he,(),rfl⟩
 |true =>
  simp only[Au,cond_true,cond_false];exact⟨Ck T,rfl⟩
theorem F2f {w:List UInt8}(h:aZ fF w){a:Int}(ha:0<=a):sI fF (PB e o a) w=some (PB e o a):=by
 rw[C22 h,E3p,Aa];simp only[Ar,cond_true,B5a ha,Aa]
theorem xV (he:0<=e):cU e o sD (iF e) where
 good:=fun nl T hT=>by
  cases T with
  |nil=>exact⟨he,[],rfl⟩
  |cons t R =>
   unfold sD;rw[A4 (by rfl),X0,rP,cond_true,iF];show E3 e nl o (t::R) _ (bif t.k !=0 then(jH (PG e nl o (t::R))).bind fun s=>some ([],s)else(I6 (PG e nl o (t::R))).bind fun q=>some (q.1.t,q.2));rw[zC,uZ]
   cases h:t.k==0 with
   |true=>rw[bne,h];exact⟨Ev t R,rfl⟩
   |false=>rw[bne,h];exact⟨hT.at0 t (An ..),[],rfl⟩
 badd:=fun a ha=>⟨[],by unfold sD;rw[B1 (by rfl),B5a ha];rfl⟩
theorem B35 (he:0<=e)(m:Int):cU e o (fun s=>gR s m) (A5g e m) where
 good :=fun nl T hT=>by
  cases T with
  |nil=>exact⟨he,0,rfl⟩
  |cons t R =>
   unfold gR;rw[A4 (by rfl),X0,rP,cond_true,A5g];show E3 e nl o (t::R) _ (bif !(t.k !=2)then(bif !(t.vk !=2)then(bif decide (m<t.vn)then(jH (PG e nl o (t::R))).bind fun s=>some (0,s)else(I6 (PG e nl o (t::R))).bind fun q=>some (q.1.vn,q.2))else(jH (PG e nl o (t::R))).bind fun s=>some (0,s))else(jH (PG e nl o (t::R))).bind fun s=>some (0,s));rw[zC,uZ];have hb:E3 e nl o (t::R) (.bad t.a) (some ((0:Int),PB e o (bB e (t::R)))):=⟨hT.at0 t (An ..),0,rfl⟩
   cases h:t.k==2 with
   |false=>rw[bne,h];exact hb
   |true =>
    cases h1:t.vk==2 with
    |false=>rw[bne,h,bne,h1];exact hb
    |true =>
     rw[bne,h,bne,h1]
     by_cases h2:t.vn<=m
     ·rw[decide_eq_true h2,decide_eq_false (by omega)];exact⟨Ev t R,rfl⟩
     ·rw[decide_eq_false h2,decide_eq_true (by omega)];exact hb
 badd:=fun a ha=>⟨0,by show gR _ _=_;unfold gR;rw[B1 (by rfl),B5a ha];rfl⟩
theorem D2m (w:List UInt8):A1z w=some (A7s w):=rfl
theorem uE (he:0<=e):cU e o tO (U7 e) where
 good :=fun nl T hT=>by
  cases T with
  |nil=>exact⟨he,(0,0),rfl⟩
  |cons t R =>
   unfold tO;rw[A4 (by rfl),X0,rP,cond_true,U7]
   show E3 e nl o (t::R) _ (bif !(t.k !=1)then((A1z t.t).bind fun j=>bif j==0 then(jH (PG e nl o (t::R))).bind fun s=>some ((0,0),s)else
    (I6 (PG e nl o (t::R))).bind fun q=>(A1z q.1.t).bind fun j=>bif j==3 then(O5 q.2 [40]).bind fun s=>(gR s 6).bind fun m=>(O5 m.2 [41]).bind fun s=>some ((j,m.1),s)else some ((j,0),q.2))else(jH (PG e nl o (t::R))).bind fun s=>some ((0,0),s))
   rw[zC,uZ];simp only[D2m,Aa];have hb:E3 e nl o (t::R) (.bad t.a) (some (((0:Int),(0:Int)),PB e o (bB e (t::R)))):=⟨hT.at0 t (An ..),_,rfl⟩
   cases h:t.k==1 with
   |false=>rw[bne,h];exact hb
   |true =>
    rw[bne,h]
    cases h1:A7s t.t==0 with
    |true=>exact hb
    |false =>
     cases h3:A7s t.t==3 with
     |false=>exact⟨Ev t R,rfl⟩
     |true =>
      have hR:=hT.suf (Ev t R);simp only[Au,Ar,cond_true,cond_false];rw[dL];refine E3.suf (E3.bind (sX he [40] hR) (fun _ R1 h1=>?_) (fun _ a ha=>?_)) (Ev t R)
      ·refine E3.bind ((B35 he 6).good nl R1 (hR.suf h1)) (fun m R2 h2=>?_) (fun m a ha=>?_)
       ·rw[dL];refine E3.bind (sX he [41] ((hR.suf h1).suf h2)) (fun _ R3 h3=>E3.ret _) (fun _ a ha=>V0.ret _)
       ·rw[dL,sY ha];exact V0.ret _
      ·refine V0.bind ((B35 he 6).badd a ha) fun m=>?_;rw[dL,sY ha];exact V0.ret _
 badd:=fun a ha=>⟨(0,0),by unfold tO;rw[B1 (by rfl),B5a ha];rfl⟩
theorem D43 (w:List UInt8):A6j w=some (bif w==sA then⟨1,1,0,[],true⟩else bif w==kW then⟨1,0,0,[],true⟩else⟨0,0,0,[],w==O7⟩):=by
 unfold A6j
 cases w==sA with
 |true=>rfl
 |false=>cases w==kW<;>rfl
theorem C63 (T:List TR):lK (PG e nl o T)=some (match oN T with|some v=>(v,PG e nl o T.tail)|none=>(⟨0,0,0,[],false⟩,PG e nl o T)):=by
 cases T with
 |nil=>rfl
 |cons t R =>
  unfold lK;rw[B1 (by rfl),X0,rP,cond_true]
  show(bif t.k==2 then(I6 (PG e nl o (t::R))).bind fun q=>some ((⟨t.vk,t.vn,t.vc,t.vs,true⟩:VR),q.2)else
   (A6j t.t).bind fun v=>bif(bif t.k !=1 then true else !v.ok)then some ((⟨0,0,0,[],false⟩:VR),PG e nl o (t::R))else(I6 (PG e nl o (t::R))).bind fun q=>some ((⟨v.vk,v.vn,v.vc,v.vs,true⟩:VR),q.2))=_
  rw[uZ,D43,oN]
  cases h2:t.k==2 with
  |true=>rfl
  |false =>
   cases h1:t.k==1 with
   |false=>rw[bne,h1];rfl
   |true =>
    rw[bne,h1]
    cases t.t==sA with
    |true=>rfl
    |false =>
     cases t.t==kW with
     |true=>rfl
     |false=>cases t.t==O7<;>rfl
theorem C67 {a:Int}:lK (PB e o a)=some (⟨0,0,0,[],false⟩,PB e o a):=rfl
theorem C3d {T:List TR}{v:VR}(h:oN T=some v):v.ok=true/\∃t R,T=t::R:=by
 cases T with
 |nil=>cases h
 |cons t R =>
  refine⟨?_,t,R,rfl⟩;rw[oN]at h
  cases h2:t.k==2 with
  |true=>rw[h2]at h;injection h with h;subst h;rfl
  |false =>
   rw[h2]at h
   cases h1:t.k==1 with
   |false=>rw[h1]at h;cases h
   |true =>
    rw[h1]at h
    cases h3:t.t==sA with
    |true=>rw[h3]at h;injection h with h;subst h;rfl
    |false =>
     rw[h3]at h
     cases h4:t.t==kW with
     |true=>rw[h4]at h;injection h with h;subst h;rfl
     |false =>
      rw[h4]at h
      cases h5:t.t==O7 with
      |true=>rw[h5]at h;injection h with h;subst h;rfl
      |false=>rw[h5]at h;cases h
end
inductive TX where
 |mk (k:Int) (op:List UInt8) (vk vn vc:Int) (vs tb nm:List UInt8) (nt:Bool) (tk ts:Int) (kids:List TX)
def xrG (cs:List PV):Option XR:=lT (.agg cs) some
theorem A1t (x:XR):xrG x.cells=some x:=rfl
theorem jS (c:List PV)(x:XR)(h:xrG c=some x):c=x.cells:=by
 obtain⟨e,h1,h2⟩:=I5 h;injection h1 with h1;injection h2 with h2;subst h2;exact h1
theorem tQ (x:XR):x.cells.length=13:=rfl
def sG (x:XR):Bool:=decide (x.vs.length<=1000000)&&(decide (x.tb.length<=1000000)&&(decide (x.nm.length<=1000000)&&decide (x.kn<=1000000)))
def er:Nat->XR->Option TX
 |0,_=>none
 |d+1,x=>bif sG x then(bE 13 xrG x.kn x.kc).bind fun l=>(F7 (er d) l).map fun ks=>.mk x.k x.op x.vk x.vn x.vc x.vs x.tb x.nm x.nt x.tk x.ts ks else none
def Alk (x y:XR):Prop:=∀d,er d x=er d y
theorem Alk.symm {x y:XR}(h:Alk x y):Alk y x:=fun d=>(h d).symm
theorem Alk.trans {x y z:XR}(h:Alk x y)(k:Alk y z):Alk x z:=fun d=>(h d).trans (k d)
theorem K7 {α β:Type}(f:α->Option β)(x:α)(l:List α):F7 f (x::l)=(f x).bind fun y=>(F7 f l).bind fun ys=>some (y::ys):=by
 rw[F7]
 cases f x with
 |none=>rfl
 |some y=>cases F7 f l<;>rfl
theorem B43 (x:XR):bE 13 xrG 1 x.cells=some [x]:=by
 have:=rG tQ A1t [x]
 rwa [Bo,Fe,Bf]at this
theorem F5c (x y:XR):bE 13 xrG 2 (x.cells++y.cells)=some [x,y]:=by
 have:=rG tQ A1t [x,y]
 rwa [Bo,Bo,Fe,Bf]at this
theorem Alk.lit {a b vk vn vc:Int}{vs:List UInt8}:Alk (pN a vk vn vc vs) (pN b vk vn vc vs):=fun d=>by cases d<;>rfl
def shT (c:Int)(t:TR):TR:=⟨t.k,t.a+c,t.t,t.vk,t.vn,t.vc,t.vs⟩
structure ZOK (Z:List TR):Prop where
 no1:∀ws,A8 1 ws Z=false
 no3:∀ws,D1 ws [41]=false->A8 3 ws Z=false
section
variable (c:Int) (Z:List TR)
def uN {α:Type}(ρ:α->α->Prop)(r r':J3 α):Prop:=∀x R,r=.ok x R->∃x',r'=.ok x' (R.map (shT c)++Z)/\ρ x x'
def F0g {α:Type}(ρ:α->α->Prop)(g g':List TR->J3 α):Prop:=∀T,uN c Z ρ (g T) (g' (T.map (shT c)++Z))
def F8k (low low':Option GF):Prop:=∀G,low=some G->∃G',low'=some G'/\F0g c Z Alk G.expr G'.expr/\F0g c Z Alk G.neg G'.neg/\F0g c Z Alk G.fact G'.fact
end
section
variable {c:Int} {Z:List TR}
theorem uN.bad {α:Type}{ρ:α->α->Prop}{a:Int}{r':J3 α}:uN c Z ρ (.bad a) r':=fun x R h=>by cases h
theorem uN.ok {α:Type}{ρ:α->α->Prop}{x x':α}{R:List TR}(h:ρ x x'):uN c Z ρ (.ok x R) (.ok x' (R.map (shT c)++Z)):=fun y Q hy=>by
 injection hy with h1 h2;subst h1 h2;exact⟨x',rfl,h⟩
theorem uN.bind {α β:Type}{ρ:α->α->Prop}{σ:β->β->Prop}{r r':J3 α}{k k':α->List TR->J3 β}(h:uN c Z ρ r r')(hk:∀x x' R,ρ x x'->uN c Z σ (k x R) (k' x' (R.map (shT c)++Z))) :
  uN c Z σ (r.bind k) (r'.bind k'):=fun y Q hy=>by
 cases r with
 |bad a=>cases hy
 |ok x R =>
  obtain⟨x',h1,h2⟩:=h x R rfl;rw[h1];exact hk x x' R h2 y Q hy
variable (hZ:ZOK Z) {e e':Int}
variable {low low':Option GF} (hl:F8k c Z low low')
include hZ hl
omit hl in
omit hl in
omit hl in
end
theorem C1c:∀{d:Nat} {x:XR} {t:TX},er d x=some t->er (d+1) x=some t
 |0,x,t,h=>by cases h
 |d+1,x,t,h=>by
  rw[er]at h ⊢;obtain⟨h0,h⟩:=B8 h;obtain⟨l,h1,h⟩:=Ab.1 h;obtain⟨ts,h2,h3⟩:=Am.1 h;rw[h0,cond_true,h1,Aa,A0g (fun x y hxy=>C1c hxy) h2,<-h3];rfl
theorem A66 {d d':Nat}(h:d<=d'){x:XR}{t:TX}(he:er d x=some t):er d' x=some t:=by
 obtain⟨k,rfl⟩:=Nat.le.dest h;clear h
 induction k with
 |zero=>exact he
 |succ k ih=>exact C1c ih
def mI (d:Nat)(x:XR):Prop:=∃t,er d x=some t
theorem mI.le {d d':Nat}(h:d<=d'){x:XR}(hx:mI d x):mI d' x:=let⟨t,ht⟩:=hx;⟨t,A66 h ht⟩
theorem mI.of1 {d:Nat}{x y:XR}(h:mI d x)(hs:sG y=true)(h1:bE 13 xrG y.kn y.kc=some [x]):mI (d+1) y:=by
 obtain⟨t,ht⟩:=h;refine⟨.mk y.k y.op y.vk y.vn y.vc y.vs y.tb y.nm y.nt y.tk y.ts [t],?_⟩;rw[er,hs,cond_true,h1,Aa,K7,ht];rfl
theorem mI.of2 {d:Nat}{x z y:XR}(h:mI d x)(k:mI d z)(hs:sG y=true)(h1:bE 13 xrG y.kn y.kc=some [x,z]):mI (d+1) y:=by
 obtain⟨t,ht⟩:=h;obtain⟨u,hu⟩:=k;refine⟨.mk y.k y.op y.vk y.vn y.vc y.vs y.tb y.nm y.nt y.tk y.ts [t,u],?_⟩;rw[er,hs,cond_true,h1,Aa,K7,ht,Aa,K7,hu];rfl
theorem mI.un {d:Nat}{a:Int}{op:List UInt8}{x:XR}(h:mI d x):mI (d+1) (wW a op x):=h.of1 (by rfl) (B43 x)
theorem mI.null {d:Nat}{a:Int}{nt:Bool}{x:XR}(h:mI d x):mI (d+1) (fS a nt x):=h.of1 (by rfl) (B43 x)
theorem mI.cast {d:Nat}{a tk ts:Int}{x:XR}(h:mI d x):mI (d+1) (gG a tk ts x):=h.of1 (by rfl) (B43 x)
theorem mI.call {d:Nat}{a:Int}{op:List UInt8}{x:XR}(h:mI d x):mI (d+1) (S2 a op x):=h.of1 (by rfl) (B43 x)
theorem mI.bin {d:Nat}{a:Int}{op:List UInt8}{x y:XR}(h:mI d x)(k:mI d y):mI (d+1) (Z9 a op x y):=h.of2 k (by rfl) (F5c x y)
theorem mI.call0 {a:Int}{op:List UInt8}:mI 1 (call0 a op):=⟨_,rfl⟩
theorem mI.leaf {y:XR}(hs:sG y=true)(h1:bE 13 xrG y.kn y.kc=some []):mI 1 y:=by
 refine⟨.mk y.k y.op y.vk y.vn y.vc y.vs y.tb y.nm y.nt y.tk y.ts [],?_⟩;rw[er,hs,cond_true,h1];rfl
def mK (T:List TR):Prop:=∀t∈T,t.t.length<=1000000/\t.vs.length<=1000000
theorem mK.tail {T:List TR}(h:mK T):mK T.tail:=fun t ht=>h t (List.mem_of_mem_tail ht)
def EP (T:List TR)(r:J3 XR):Prop:=∀x R,r=.ok x R->mI (T.length-R.length) x/\R.length<T.length/\mK R
def EQ {α:Type}(T:List TR)(P:α->Prop)(r:J3 α):Prop:=∀x R,r=.ok x R->P x/\R.length<T.length/\mK R
theorem EP.bad {T:List TR}{a:Int}:EP T (.bad a):=fun x R h=>by cases h
theorem EQ.bad {α:Type}{T:List TR}{P:α->Prop}{a:Int}:EQ T P (.bad a:J3 α):=fun x R h=>by cases h
theorem EP.ok {T R:List TR}{x:XR}(h:mI (T.length-R.length) x)(hl:R.length<T.length)(hs:mK R):EP T (.ok x R):=fun y Q hy=>by
 injection hy with h1 h2;subst h1 h2;exact⟨h,hl,hs⟩
theorem EQ.ok {α:Type}{T R:List TR}{P:α->Prop}{x:α}(h:P x)(hl:R.length<T.length)(hs:mK R):EQ T P (.ok x R):=fun y Q hy=>by
 injection hy with h1 h2;subst h1 h2;exact⟨h,hl,hs⟩
theorem EP.bind {T T':List TR}{r:J3 XR}{k:XR->List TR->J3 XR}(h:EP T r)(hk:∀x R,mI (T.length-R.length) x->R.length<T.length->mK R->EP T' (k x R)):EP T' (r.bind k):=fun y Q hy=>by
 cases r with
 |bad a=>cases hy
 |ok x R =>
  obtain⟨h1,h2,h3⟩:=h x R rfl;exact hk x R h1 h2 h3 y Q hy
theorem EQ.bindP {α:Type}{T T':List TR}{P:α->Prop}{r:J3 α}{k:α->List TR->J3 XR}(h:EQ T P r)(hk:∀x R,P x->R.length<T.length->mK R->EP T' (k x R)):EP T' (r.bind k):=fun y Q hy=>by
 cases r with
 |bad a=>cases hy
 |ok x R =>
  obtain⟨h1,h2,h3⟩:=h x R rfl;exact hk x R h1 h2 h3 y Q hy
theorem EQ.bind {α β:Type}{T T':List TR}{P:α->Prop}{S:β->Prop}{r:J3 α}{k:α->List TR->J3 β}(h:EQ T P r)(hk:∀x R,P x->R.length<T.length->mK R->EQ T' S (k x R)):EQ T' S (r.bind k):=fun y Q hy=>by
 cases r with
 |bad a=>cases hy
 |ok x R =>
  obtain⟨h1,h2,h3⟩:=h x R rfl;exact hk x R h1 h2 h3 y Q hy
theorem EP.bif {T:List TR}{b:Bool}{r s:J3 XR}(h1:b=true->EP T r)(h2:b=false->EP T s):EP T (bif b then r else s):=by
 cases b with
 |true=>exact h1 rfl
 |false=>exact h2 rfl
theorem EQ.bif {α:Type}{T:List TR}{P:α->Prop}{b:Bool}{r s:J3 α}(h1:b=true->EQ T P r)(h2:b=false->EQ T P s):EQ T P (bif b then r else s):=by
 cases b with
 |true=>exact h1 rfl
 |false=>exact h2 rfl
theorem kL {a:Int}{ws:List (List UInt8)}{T:List TR}(h:A8 a ws T=true):T.tail.length+1=T.length:=by
 obtain⟨t,R,rfl⟩:=pO h;rfl
section
variable {e:Int}
theorem A4r (a:Int)(w:List UInt8){T:List TR}(hs:mK T):EQ T (fun _=>True) (O9 e a w T):=by
 unfold O9;refine EQ.bif (fun h=>EQ.ok trivial ?_ hs.tail) (fun _=>EQ.bad);have:=kL h;omega
theorem D6x {T:List TR}(hs:mK T):EQ T (fun n=>n.length<=1000000) (iF e T):=by
 cases T with
 |nil=>exact EQ.bad
 |cons t R=>exact EQ.bif (fun _=>EQ.ok (hs t (An ..)).1 (Dy _) hs.tail) (fun _=>EQ.bad)
theorem F4o (m:Int){T:List TR}(hs:mK T):EQ T (fun _=>True) (A5g e m T):=by
 cases T with
 |nil=>exact EQ.bad
 |cons t R=>exact EQ.bif (fun _=>EQ.bif (fun _=>EQ.bif (fun _=>EQ.ok trivial (Dy _) hs.tail) (fun _=>EQ.bad)) (fun _=>EQ.bad)) (fun _=>EQ.bad)
theorem E56 {T:List TR}(hs:mK T):EQ T (fun _=>True) (U7 e T):=by
 cases T with
 |nil=>exact EQ.bad
 |cons t R =>
  refine EQ.bif (fun _=>EQ.bif (fun _=>EQ.bad) (fun _=>EQ.bif (fun _=>?_) (fun _=>EQ.ok trivial (Dy _) hs.tail))) (fun _=>EQ.bad);refine EQ.bind (A4r 3 [40] hs.tail) fun _ R1 _ h1 s1=>EQ.bind (F4o 6 s1) fun n R2 _ h2 s2=>EQ.bind (A4r 3 [41] s2) fun _ R3 _ h3 s3=>EQ.ok trivial ?_ s3;simp only[List.tail_cons,Ac]at h1 ⊢;omega
variable {low:Option GF} (hl:∀G,low=some G->∀T,mK T->EP T (G.expr T)/\EP T (G.neg T)/\EP T (G.fact T))
include hl
theorem B8j {T T':List TR}{b:GF->J3 XR}(hb:∀G,(∀T,mK T->EP T (G.expr T)/\EP T (G.neg T)/\EP T (G.fact T))->EP T' (b G)):EP T' (sJ e low T b):=by
 unfold sJ
 cases low with
 |none=>exact EP.bad
 |some G=>exact hb G (hl G rfl)
theorem A3i {T:List TR}(hs:mK T){b:GF->List TR->J3 XR}{m:Nat}(hb:∀G,(∀T,mK T->EP T (G.expr T)/\EP T (G.neg T)/\EP T (G.fact T))->∀R,mK R->∀x Q,b G R=.ok x Q->mI (R.length-Q.length+m) x/\Q.length<R.length/\mK Q)(hm:m<=2):EP T (Y3 e low T b):=by
 unfold Y3;refine EP.bif (fun h=>?_) (fun _=>EP.bad);have ht:=kL h;refine B8j hl fun G hG=>?_;intro y Q hy
 cases hr:b G T.tail with
 |bad a=>rw[hr]at hy;cases hy
 |ok x R1 =>
  rw[hr]at hy;obtain⟨h1,h2,h3⟩:=hb G hG T.tail hs.tail x R1 hr;have hw:=A4r (e:=e) 3 [41] h3;simp only[J3.bind]at hy
  cases hq:O9 e 3 [41] R1 with
  |bad a=>rw[hq]at hy;cases hy
  |ok u R2 =>
   rw[hq]at hy;obtain⟨-,h4,h5⟩:=hw u R2 hq;injection hy with e1 e2;subst e1 e2;exact⟨h1.le (by omega),by omega,h5⟩
theorem F1e {T:List TR}(hs:mK T):EP T (A5q e low T):=by
 unfold A5q
 have key:EP T.tail (Y3 e low T.tail fun G R=>(G.expr R).bind fun x R=>(O9 e 1 zJ R).bind fun _ R=>(U7 e R).bind fun y R=>.ok (gG (bB e T) y.1 y.2 x) R):=by
  refine A3i hl hs.tail (m:=1) (fun G hG R hR x Q hx=>?_) (by omega)
  have:EP R ((G.expr R).bind fun x R=>(O9 e 1 zJ R).bind fun _ R=>(U7 e R).bind fun y R=>.ok (gG (bB e T) y.1 y.2 x) R):=by
   refine EP.bind (hG R hR).1 fun x R1 h1 l1 s1=>EQ.bindP (A4r 1 zJ s1) fun _ R2 _ l2 s2=>EQ.bindP (E56 s2) fun y R3 _ l3 s3=>EP.ok ?_ (by omega) s3;exact h1.cast.le (by omega)
  obtain⟨a,b,c⟩:=this x Q hx;exact⟨a.le (by omega),b,c⟩
 intro x R hx;obtain⟨a,b,c⟩:=key x R hx
 have:T.tail.length<=T.length:=by simp
 exact⟨a.le (by omega),by omega,c⟩
theorem F0h {T:List TR}(hs:mK T):EP T (zG e low T):=by
 unfold zG
 have key:EP T.tail (Y3 e low T.tail fun G R=>bif yP T==L0 then bif A8 3 [[42]] R then .ok (call0 (bB e T) (yP T)) R.tail else(G.expr R).bind fun x R=>.ok (S2 (bB e T) (yP T) x) R else(G.expr R).bind fun x R=>.ok (S2 (bB e T) (yP T) x) R):=by
  refine A3i hl hs.tail (m:=1) (fun G hG R hR x Q hx=>?_) (by omega)
  have hc:∀x Q,((G.expr R).bind fun x R=>.ok (S2 (bB e T) (yP T) x) R:J3 XR)=.ok x Q->mI (R.length-Q.length+1) x/\Q.length<R.length/\mK Q:=fun x Q hx=>by
   cases hr:G.expr R with
   |bad a=>rw[hr]at hx;cases hx
   |ok y R1 =>
    rw[hr]at hx;obtain⟨h1,h2,h3⟩:=(hG R hR).1 y R1 hr;injection hx with e1 e2;subst e1 e2;exact⟨h1.call,h2,h3⟩
  cases h1:yP T==L0 with
  |false=>rw[h1,cond_false]at hx;exact hc x Q hx
  |true =>
   rw[h1,cond_true]at hx
   cases h2:A8 3 [[42]] R with
   |false=>rw[h2,cond_false]at hx;exact hc x Q hx
   |true =>
    rw[h2,cond_true]at hx;injection hx with e1 e2;subst e1 e2;have:=kL h2;exact⟨mI.call0.le (by omega),by omega,hR.tail⟩
 intro x R hx;obtain⟨a,b,c⟩:=key x R hx
 have:T.tail.length<=T.length:=by simp
 exact⟨a.le (by omega),by omega,c⟩
theorem F01 {T:List TR} (hs:mK T):EP T (gF e low T):=by
 unfold gF;refine EP.bif (fun _=>A3i hl hs (m:=0) (fun G hG R hR x Q hx=>(hG R hR).1 x Q hx) (by omega)) (fun _=>EP.bif (fun _=>F1e hl hs) (fun _=>EP.bif (fun _=>F0h hl hs) (fun _=>?_)))
 cases T with
 |nil=>exact EP.bad
 |cons t R =>
  cases hlit:oN (t ::R)with
  |some v =>
   refine EP.ok ?_ (Dy _) hs.tail
   have hv :v.vs.length<=1000000:=by
    rw [oN]at hlit
    cases h2:t.k ==2 with
    |true=>rw [h2]at hlit;injection hlit with hlit;subst hlit;exact(hs t (An ..)).2
    |false =>
     rw [h2]at hlit
     cases h1:t.k ==1 with
     |false=>rw [h1]at hlit;cases hlit
     |true =>
      rw [h1]at hlit
      cases h3:t.t ==sA with
      |true=>rw [h3]at hlit;injection hlit with hlit;subst hlit;exact Bh _
      |false =>
       rw [h3]at hlit
       cases h4:t.t ==kW with
       |true=>rw [h4]at hlit;injection hlit with hlit;subst hlit;exact Bh _
       |false =>
        rw [h4]at hlit
        cases h5:t.t ==O7 with
        |true=>rw [h5]at hlit;injection hlit with hlit;subst hlit;exact Bh _
        |false=>rw [h5]at hlit;cases hlit
   refine(mI.leaf ?_ rfl).le (by simp);unfold sG pN;simp only [Ae,decide_eq_true_eq];exact⟨hv,Bh _,Bh _,Bh _⟩
  |none =>
   have hcol:∀(tb nm:List UInt8),tb.length<=1000000->nm.length<=1000000->mI 1 (dX (bB e (t ::R)) tb nm):=fun tb nm h1 h2=>by
    refine mI.leaf ?_ rfl;unfold sG dX;simp only [Ae,decide_eq_true_eq];exact⟨Bh _,h1,h2,Bh _⟩
   refine EQ.bindP (D6x hs) fun n R1 h1 l1 s1=>EP.bif (fun h=>?_) (fun _=>EP.ok ((hcol [] n (Bh _) h1).le (by omega)) l1 s1);have:=kL h;refine EQ.bindP (D6x s1.tail) fun m R2 h2 l2 s2=>EP.ok ((hcol n m h1 h2).le (by omega)) (by omega) s2
theorem D3z {T:List TR}(hs:mK T):EP T (G3 e low T):=by
 unfold G3;refine EP.bif (fun h=>B8j hl fun G hG=>?_) (fun _=>F01 hl hs);have:=kL h;exact EP.bind (hG _ hs.tail).2.2 fun x R h1 l1 s1=>EP.ok (h1.un.le (by omega)) (by omega) s1
omit hl in
theorem D3w {n:Nat}{p:List TR->J3 XR}(hp:∀T,mK T->EP T (p T))(T:List TR):∀(m:Nat) (x:XR) (R:List TR),mI (T.length-R.length) x->R.length<T.length->mK R->EP T (J4 e n p m x R)
 |0,x,R,h,l,s=>EP.ok h l s
 |m+1,x,R,h,l,s=>by
  unfold J4;refine EP.bif (fun ht=>?_) (fun _=>EP.ok h l s);have:=kL ht;refine EP.bind (hp _ s.tail) fun y R1 h1 l1 s1=>D3w hp T m _ R1 ?_ (by omega) s1;exact((h.le (d':=T.length-R1.length-1) (by omega)).bin (h1.le (by omega))).le (by omega)
omit hl in
theorem C15 {n:Nat}{p:List TR->J3 XR}(hp:∀T,mK T->EP T (p T)){T:List TR}(hs:mK T):EP T (A1p e n p T):=by
 unfold A1p;exact EP.bind (hp T hs) fun x R h l s=>D3w hp T _ x R h l s
theorem F77 {T:List TR}(hs:mK T):EP T (uX e low T):=C15 (fun T hs=>D3z hl hs) hs
theorem E6s {T:List TR}(hs:mK T):EP T (tW e low T):=C15 (fun T hs=>F77 hl hs) hs
theorem F18 {T:List TR}(hs:mK T):EP T (nR e low T):=by
 unfold nR;refine EP.bind (E6s hl hs) fun x R h l s=>?_;unfold fR;refine EP.bif (fun ht=>?_) (fun _=>EP.bif (fun ht=>?_) (fun _=>EP.ok h l s))
 ·have:=kL ht;refine EP.bind (E6s hl s.tail) fun y R1 h1 l1 s1=>EP.ok ?_ (by omega) s1;exact((h.le (d':=T.length-R1.length-1) (by omega)).bin (h1.le (by omega))).le (by omega)
 ·have:=kL ht
  have key:∀Q:List TR,mK Q->Q.length<R.length->EP T ((O9 e 1 O7 Q).bind fun _ R1=>.ok (fS (bB e R) (A8 1 [G4] R.tail) x) R1):=fun Q hQ lQ =>
   EQ.bindP (A4r 1 O7 hQ) fun _ R1 _ l1 s1=>EP.ok (h.null.le (by omega)) (by omega) s1
  cases h2:A8 1 [G4] R.tail with
  |true =>
   rw[h2]at key;rw[cond_true];exact key _ s.tail.tail (by have:=kL h2;omega)
  |false =>
   rw[h2]at key;rw[cond_false];exact key _ s.tail (by omega)
theorem E6k {T:List TR}(hs:mK T):EP T (bS e low T):=by
 unfold bS;refine EP.bif (fun h=>B8j hl fun G hG=>?_) (fun _=>F18 hl hs);have:=kL h;exact EP.bind (hG _ hs.tail).2.1 fun x R h1 l1 s1=>EP.ok (h1.un.le (by omega)) (by omega) s1
theorem F54 {T:List TR}(hs:mK T):EP T (sW e low T):=C15 (fun T hs=>E6k hl hs) hs
theorem D01 {T:List TR}(hs:mK T):EP T (T9 e low T):=C15 (fun T hs=>F54 hl hs) hs
end
theorem E85 (e:Int):∀(k:Nat) (G:GF),nW e k=some G->∀T,mK T->EP T (G.expr T)/\EP T (G.neg T)/\EP T (G.fact T)
 |0,G,h=>by cases h
 |k+1,G,h=>fun T hs=>by
  rw[nW]at h;injection h with h;subst h;have ih:=E85 e k;exact⟨D01 ih hs,E6k ih hs,D3z ih hs⟩
end Go.Proofs.YtkpfigikffphdaaGreatDoor
end
section
set_option maxRecDepth 1000000
namespace Go.Proofs.YtkpfigikffphdaaGreatDoor
open Go.RowKit Go.Lib
set_option maxHeartbeats 1000000 in
theorem B25 (x:ByteArray) (w:World):Calls Tryz.prog 251 #[.string x] w fun e w'=>e=.returned (.bool false)/\w'=w:=by
 go_enter Tryz.func251,Tryz.ntmps251
 go_wp2
 go_ret
 exact⟨by simp,rfl⟩
set_option maxHeartbeats 1000000 in
theorem iC (x:ByteArray) (w:World):Calls Tryz.prog 222 #[.string x] w fun e w'=>e=.returned (.bool false)/\w'=w:=by
 go_enter Tryz.func222,Tryz.ntmps222
 go_wp2
 go_ret
 exact⟨by simp,rfl⟩
set_option maxHeartbeats 1000000 in
theorem iY (x y:ByteArray) (w:World):Calls Tryz.prog 221 #[.string x,.string y] w fun e w'=>e=.returned (.bool (Op.bytesLess x.toList y.toList))/\w'=w:=by
 go_enter Tryz.func221,Tryz.ntmps221
 go_wp2_with (go_at_call 251;refine(B25 _ _).mono ?_;rintro e w' ⟨rfl,rfl⟩)
 go_ret
 exact⟨rfl,rfl⟩
set_option maxHeartbeats 4000000 in
set_option maxRecDepth 1000000 in
theorem C4c (b off n c:Nat) (Sx:Nat->ByteArray) (x:ByteArray) (w:World) (hbig:n<4611686018427387904) (hc:∀j,j<n->w.cell? ⟨b,off+j,none⟩=some (.string (Sx j))) :
  Calls Tryz.prog 175 #[.slice (some ⟨b,off,none⟩) n c,.string x] w fun e w' =>
   e=.returned (.tuple #[.int .i64 (Lib.bsGo (fun t=>Op.bytesLess (Sx t).toList x.toList) n 0 n:Nat),.bool (decide (Lib.bsGo (fun t=>Op.bytesLess (Sx t).toList x.toList) n 0 n<n/\Sx (Lib.bsGo (fun t=>Op.bytesLess (Sx t).toList x.toList) n 0 n)=x))])/\∃q,w'=w.drewN q:=by
 have mixed:=Go.Proofs.YtkpfigikffphdaaGreatDoor.mixed;obtain⟨I,hI⟩:∃I,Lib.bsGo (fun t=>Op.bytesLess (Sx t).toList x.toList) n 0 n=I:=⟨_,rfl⟩;rw[hI]
 go_enter Tryz.func175,Tryz.ntmps175
 go_wp2
 go_loopg [7,8] n (fun g s7 s8 wr=>∃lo hi q:Nat,s7=.int .i64 lo/\s8=.int .i64 hi/\lo<=hi/\hi<=n/\hi-lo<=g/\wr=w.drewN q/\Lib.bsGo (fun t=>Op.bytesLess (Sx t).toList x.toList) g lo hi=I)
 case atStart=>exact⟨0,n,0,rfl,rfl,Bh _,Ak _,by omega,rfl,hI⟩
 case round =>
  obtain⟨lo,hi,q,rfl,rfl,hlh,hin,hg,rfl,hb⟩:=hrel
  by_cases hlt:lo<hi
  ·have cm:w.cell? ⟨b,off+(lo+hi)/2,none⟩=some (.string (Sx ((lo+hi)/2))):=hc _ (by omega);clear hc;obtain⟨g',rfl⟩:∃g',gk=g'+1:=⟨gk-1,by omega⟩;simp only[Lib.bsGo,hlt,if_true]at hb;obtain⟨y,hy⟩:∃y,Sx ((lo+hi)/2)=y:=⟨_,rfl⟩;rw[hy]at cm;simp only[hy]at hb
   cases hyx:Op.bytesLess y.toList x.toList<;>simp only[hyx,if_true,Bp,if_false]at hb
   ·go_wp2_with (first|(go_at_call 221;refine(iY _ _ _).mono ?_;rintro e w' ⟨rfl,rfl⟩)|(go_at_call 222;refine(iC _ _).mono ?_;rintro e w' ⟨rfl,rfl⟩))
    go_roundg ((lo+hi)/2-lo)
    case measure=>omega
    case rel=>exact⟨lo,(lo+hi)/2,_,rfl,by rw[show((lo:Int)+(hi:Int))/2=(((lo+hi)/2:Nat):Int)by omega],by omega,by omega,Ak _,rfl,by rw[<-hb];exact Lib.bsGo_fuel _ _ _ _ _ (Ak _) (by omega)⟩
   ·go_wp2_with (first|(go_at_call 221;refine(iY _ _ _).mono ?_;rintro e w' ⟨rfl,rfl⟩)|(go_at_call 222;refine(iC _ _).mono ?_;rintro e w' ⟨rfl,rfl⟩))
    go_roundg (hi-((lo+hi)/2+1))
    case measure=>omega
    case rel=>exact⟨(lo+hi)/2+1,hi,_,by rw[show((lo:Int)+(hi:Int))/2+1=(((lo+hi)/2+1:Nat):Int)by omega],rfl,by omega,hin,Ak _,rfl,by rw[<-hb];exact Lib.bsGo_fuel _ _ _ _ _ (Ak _) (by omega)⟩
  ·have :hi=lo:=by omega
   subst this
   have hIe:I=hi:=by
    rw[<-hb]
    cases gk<;>simp[Lib.bsGo]
   by_cases hn:hi<n
   ·have cl:w.cell? ⟨b,off+hi,none⟩=some (.string (Sx hi)):=hc _ hn;clear hc hb hI;obtain⟨y,hy⟩:∃y,Sx hi=y:=⟨_,rfl⟩;rw[hy]at cl
    by_cases hyx:y=x
    ·go_wp2_with (first|(go_at_call 221;refine(iY _ _ _).mono ?_;rintro e w' ⟨rfl,rfl⟩)|(go_at_call 222;refine(iC _ _).mono ?_;rintro e w' ⟨rfl,rfl⟩))
     go_ret2
     refine⟨?_,_,rfl⟩
     try rw[hIe]
     rw[hy,decide_eq_true (show hi<n/\y=x from⟨hn,hyx⟩)]
     first|rfl|simp[*]
    ·have hne:(y.toList==x.toList)=false:=by
      rw[beq_eq_false_iff_ne];intro h;apply hyx;rw[Lib.toList_data,Lib.toList_data]at h
      cases y with
      |mk yd=>cases x with
       |mk xd=>exact congrArg ByteArray.mk (Array.toList_inj.1 h)
     go_wp2_with (first|(go_at_call 221;refine(iY _ _ _).mono ?_;rintro e w' ⟨rfl,rfl⟩)|(go_at_call 222;refine(iC _ _).mono ?_;rintro e w' ⟨rfl,rfl⟩))
     all_goals
      (go_ret2
       refine⟨?_,_,rfl⟩
       try rw[hIe]
       rw[hy,decide_eq_false (show ¬(hi<n/\y=x)from fun h=>hyx h.2)]
       first|rfl|simp[*])
   ·clear hc hb hI
    go_wp2_with (first|(go_at_call 221;refine(iY _ _ _).mono ?_;rintro e w' ⟨rfl,rfl⟩)|(go_at_call 222;refine(iC _ _).mono ?_;rintro e w' ⟨rfl,rfl⟩))
    go_ret2
    refine⟨?_,_,rfl⟩
    try rw[hIe]
    rw[decide_eq_false (show ¬(hi<n/\Sx hi=x)from fun h=>hn h.1)]
    first|rfl|simp[*]
def E86:PV->List UInt8
 |.str s=>s
 |_=>[]
def A6w:PV->Bool
 |.str _=>true
 |_=>false
def vN (keys:List PV)(t:Nat):List UInt8:=E86 (keys.getD t .undef)
def fY (keys:List PV)(x:List UInt8):Nat:=Lib.bsGo (fun t=>Op.bytesLess (vN keys t) x) keys.length 0 keys.length
theorem C6g {M:C4}{keys:List PV}{cs:List Value}(hr:D7 M keys cs)(hs:keys.all A6w=true){t:Nat}(ht:t<keys.length):cs[t]? =some (.string ⟨(vN keys t).toArray⟩):=by
 obtain⟨u,h1,_,h3⟩:=hr.get (Ag ht);rw[h1];have:=List.all_eq_true.1 hs _ (List.getElem_mem ht);unfold vN;rw[List.getD_eq_getElem?_getD,Ag ht,Option.getD_some]
 revert h3 this
 cases keys[t]<;>intro h3 h4<;>simp only[A6w,B7,E86,Bp]at h3 h4 ⊢;rw[h3]
theorem F59 (s:List UInt8):(ByteArray.mk s.toArray).toList=s:=by rw[Lib.toList_data]
theorem below_drewN (w:World)(q B:Nat):Below B w (w.drewN q):=⟨rfl,rfl,rfl,Ak _,fun _ _=>rfl⟩
def E1u:D5:=⟨fun xs k=>match xs with|[.sl _ 1 n keys,.str x]=>bif keys.all A6w&&(decide (keys.length=n)&&(decide (0<n)&&decide (n<=1000000)))then k (.tuple [.int .i64 (fY keys x:Nat),.bool (decide (fY keys x<n)&&vN keys (fY keys x)==x)])else none|_=>none,false⟩
theorem F43 {NG:Nat}{W:World->Prop}:D8 NG W 175 E1u:=by
 refine W7 Tryz.func175 (by kernel_rfl) (by decide) ?_ rfl ?_
 ·intro R xs k;simp only[E1u];split
  ·rename_i n keys x;rcases(keys.all A6w&&(decide (keys.length=n)&&(decide (0<n)&&decide (n<=1000000))))with _|_<;>rfl
  ·rfl
 ·intro xs r M vs hW h hr;simp only[E1u]at h;split at h
  ·rename_i nl n keys x;rcases hb:(keys.all A6w&&(decide (keys.length=n)&&(decide (0<n)&&decide (n<=1000000))))with _|_<;>rw[hb]at h
   ·cases h
   simp only[cond_true,Ah]at h;subst h;simp only[Ae,decide_eq_true_eq]at hb;obtain⟨b1,rfl,b3,b4⟩:=hb;obtain⟨v,u,rfl,g1,g2⟩:=A7a hr;simp only[B7]at g1 g2;subst g2;obtain⟨A,c,cs,rfl,j1,j2,j3,j4,j5,j6,j7⟩:=g1;have hl:=j6.length;obtain rfl|⟨b,o,rfl,hat⟩:=j7
   ·simp only[List.length_nil]at hl;omega
   have key:=C4c b o keys.length c (fun t=>⟨(vN keys t).toArray⟩) ⟨x.toArray⟩ M.w (by omega) (fun j hj=>(hat j _ (C6g j6 b1 hj)).1);simp only[F59]at key;refine key.mono ?_
   rintro e w' ⟨rfl,q,rfl⟩
   refine⟨_,rfl,below_drewN _ _ _,fun U' hm=>?_⟩;simp only[B7,K9];refine⟨[_,_],rfl,_,_,rfl,rfl,_,_,rfl,?_,rfl⟩;show Value.bool _=Value.bool _;congr 1;show decide (fY keys x<keys.length/\(⟨(vN keys (fY keys x)).toArray⟩:ByteArray)=⟨x.toArray⟩)=_;rw[Bool.eq_iff_iff];simp
  ·cases h
end Go.Proofs.YtkpfigikffphdaaGreatDoor
end
section
namespace Go.Proofs.YtkpfigikffphdaaGreatDoor
open Go.RowKit
def sN:Nat:=3+1
noncomputable def Wd (w:World):Prop:=Lib.TabIs Tryz.prog w "internal/strconv.uint64pow10" .u64 Lib.pow10Tab
theorem F6k:Tryz.prog.globalNamed "internal/strconv.uint64pow10" =some 3:=by kernel_rfl
theorem D9l {w:World}(h:Wd w):sN<=w.heap.size:=by
 unfold Wd Lib.TabIs World.var? at h;rw[F6k]at h;simp only[Aa]at h;unfold sN;rcases e:w.heap[3]? with _|o
 ·rw[e]at h;cases h
 ·exact(Array.getElem?_eq_some_iff.1 e).1
theorem lE:Y0 sN Wd:=by
 intro w w' h hW
 have hg:Tryz.prog.globalNamed "internal/strconv.uint64pow10" =some 3:=by kernel_rfl
 unfold Wd Lib.TabIs World.var? at hW ⊢;rw[hg]at hW ⊢;rw[<-hW];simp only[Aa];rw[h _ (of_decide_eq_true (by kernel_rfl))]
theorem J7 {R:Type}{b:Bool}{x:PV}{k:PV->Option R}:(bif b then k x else none)=(bif b then some x else none).bind k:=by cases b<;>rfl
def bJ (c:Int):Nat->List UInt8->Int
 |_,[]=>-1
 |i,x::xs=>bif decide ((x.toNat:Int)=c)then(i:Int)else bJ c (i+1) xs
theorem A1n (s:ByteArray)(c:UInt8):∀(l:List UInt8) (i:Nat),(∀j,j<l.length->s[i+j]! =l.getD j 0)->(match(List.range' i l.length).find? fun i=>s[i]! ==c with|some i=>(i:Int)|none=>-1)=bJ c.toNat i l
 |[],i,h=>rfl
 |x::l,i,h=>by
  have h0:=h 0 (by simp);simp only[Nat.add_zero,List.getD_cons_zero]at h0;simp only[Ac,List.range'_succ,List.find?_cons,h0,bJ]
  by_cases e:x=c
  ·subst e;simp
  ·have e2:(x==c)=false:=by simpa using e
   have e3:¬((x.toNat:Int)=(c.toNat:Int)):=fun h=>e (UInt8.toNat_inj.1 (by omega));rw[e2,decide_eq_false e3];simp only[cond_false];have:=A1n s c l (i+1) (fun j hj=>by have:=h (j+1) (by simpa using hj);simpa [Nat.add_assoc,Nat.add_comm 1 j]using this);exact this
theorem B4b (l:List UInt8)(c:UInt8):firstIdx ⟨l.toArray⟩ c=bJ c.toNat 0 l:=by
 unfold firstIdx
 have:=A1n ⟨l.toArray⟩ c l 0 (fun j hj=>by
  rw[Nat.zero_add]
  have hs:j<(⟨l.toArray⟩:ByteArray).size:=by simpa [ByteArray.size]using hj
  rw[getElem!_pos (⟨l.toArray⟩:ByteArray) j hs]
  simp[ByteArray.getElem_eq_getElem_data,List.getD,hj])
 rw[<-List.range_eq_range']at this;rw[<-this];rfl
def aC:D5:=⟨fun xs k=>match xs with
 |[.str s,.int .u8 c]=>bif decide (0<=c)&&decide (c<=255)then k (.int .i64 (bJ c 0 s))else none
 |_=>none,false⟩
theorem sZ:D8 sN Wd 304 aC:=by
 refine E2x ?_ rfl ?_
 ·intro R xs k;simp only[aC];split
  ·exact J7
  ·rfl
 ·intro xs r M vs h hr;simp only[aC]at h;split at h
  ·rename_i s c;rcases hb:(decide (0<=c)&&decide (c<=255))with _|_<;>rw[hb]at h
   ·cases h
   ·simp only[cond_true,Ah]at h;subst h;simp only[Ae,decide_eq_true_eq]at hb;obtain⟨v,u,rfl,h1,h2⟩:=A7a hr;simp only[B7]at h1 h2;subst h1 h2;refine⟨_,?_,rfl⟩;rw[run_callFunc_extern Tryz.func304 (by kernel_rfl) (by kernel_rfl) (by kernel_rfl) (e:=Extern.BytealgIndexByte.indexByte) (by kernel_rfl)];show((Extern.BytealgIndexByte.indexByte #[.string ⟨s.toArray⟩,.int .u8 c]).run _ _).andThen _=_;rw[run_indexByte_string,B4b]
    have e:((c.toNat.toUInt8).toNat:Int)=c:=by
     simp;omega
    rw[e];rfl
  ·cases h
def sQ:Nat->Nat->List UInt8
 |0,_=>[]
 |k+1,u=>bif decide (u<10)then [UInt8.ofNat (48+u)]else sQ k (u/10)++[UInt8.ofNat (48+u%10)]
theorem A8u:∀(k u:Nat),u<10^(k+1)->sQ (k+1) u=Lib.decDigits u
 |k,u,h=>by
  rw[Lib.decDigits,sQ]
  by_cases hu:u<10
  ·rw[decide_eq_true hu,dif_pos hu];rfl
  ·rw[decide_eq_false hu,dif_neg hu,cond_false]
   match k,h with
   |0,h=>omega
   |k+1,h=>rw[A8u k (u/10) (by rw[Ee]at h;omega)]
def zP (n:Int):List UInt8:=bif decide (n<0)then 45::sQ 20 n.natAbs else sQ 20 n.toNat
theorem D79 (n:Int)(h0:-9223372036854775808<=n)(h1:n<=9223372036854775807):zP n=Lib.itoa n:=by
 unfold zP Lib.itoa
 by_cases h:n<0
 ·rw[decide_eq_true h,if_pos h,cond_true,A8u 19 _ (by omega)]
 ·rw[decide_eq_false h,if_neg h,cond_false,A8u 19 _ (by omega)]
def A22:D5:=⟨fun xs k=>match xs with
 |[.int .i64 n]=>bif decide (-9223372036854775808<=n)&&decide (n<=9223372036854775807)then k (.str (zP n))else none
 |_=>none,false⟩
theorem C3q:D8 sN Wd 89 A22:=by
 refine W7 Tryz.func89 (by kernel_rfl) (by decide) ?_ rfl ?_
 ·intro R xs k;simp only[A22];split
  ·exact J7
  ·rfl
 ·intro xs r M vs hW h hr;simp only[A22]at h;split at h
  ·rename_i n;rcases hb:(decide (-9223372036854775808<=n)&&decide (n<=9223372036854775807))with _|_<;>rw[hb]at h
   ·cases h
   ·simp only[cond_true,Ah]at h;subst h;simp only[Ae,decide_eq_true_eq]at hb;obtain⟨v,rfl,h1⟩:=A23 hr;simp only[B7]at h1;subst h1;refine(Any.strconv_Itoa Tryz.laysM171 n hb.1 hb.2 M.w hW).mono ?_
    rintro e w' ⟨rfl,k,os,rfl⟩
    refine⟨_,rfl,?_,fun U' _=>?_⟩
    ·exact(Go.below_drewN (Below.refl _ _) k).trans ⟨rfl,rfl,rfl,by simp[Sort.grow],fun b hb=>by simp only[Sort.grow];rw[Array.getElem?_append_left (Nat.lt_of_lt_of_le hb (Go.below_drewN (Below.refl M.w.heap.size _) k).size)]⟩
    ·simp only[B7];rw[D79 n hb.1 hb.2]
  ·cases h
end Go.Proofs.YtkpfigikffphdaaGreatDoor
namespace Go.Proofs.YtkpfigikffphdaaGreatDoor
open Go.RowKit
def uA (a b:Int):Int:=bif decide (a<b)then -1 else bif decide (b<a)then 1 else 0
def N2 (h l:Int):Int:=h * 18446744073709551616+l
def hiI (n:Int):Int:=n/18446744073709551616%18446744073709551616
def loI (n:Int):Int:=n%18446744073709551616
end Go.Proofs.YtkpfigikffphdaaGreatDoor
namespace Go.Proofs.YtkpfigikffphdaaGreatDoor
open Go.RowKit
theorem v1 {q:Nat}:hiI (2 * q)=hiI (2 * q+1:Nat):=by unfold hiI;omega
theorem v2 {q:Nat}:loI (2 * q)+1=loI (2 * q+1:Nat):=by unfold loI;omega
theorem v3 {r b:Nat}(hb:b<=1):N2 (hiI (2 * r)) (loI (2 * r)+b)=(2 * (r:Int)+b)%340282366920938463463374607431768211456:=by unfold N2 hiI loI;omega
theorem v4 {y:Int}{z:Nat}(h:(y-z)%340282366920938463463374607431768211456=0):hiI y=hiI z/\loI y=loI z:=by unfold hiI loI;omega
theorem v5 {r b:Nat}(hb:b<=1):hiI (2 * r)=hiI (2 * r+b:Nat):=by unfold hiI;omega
theorem v6 {r b:Nat}(hb:b<=1):loI (2 * r)+b=loI (2 * r+b:Nat):=by unfold loI;omega
theorem v7 {q:Nat}:hiI (2 * q)=hiI (2 * q+0:Nat):=by unfold hiI;omega
theorem v8 {q:Nat}:loI (2 * q)=loI (2 * q+0:Nat):=by unfold loI;omega
end Go.Proofs.YtkpfigikffphdaaGreatDoor
namespace Go.Proofs.YtkpfigikffphdaaGreatDoor
open Go.RowKit
theorem w1 {q:Int}:IntKind.u64.wrap (hiI q+(loI q+1+0)/18446744073709551616)=hiI (q+1):=by rw[F58];unfold hiI loI;omega
theorem w2 {q:Int}:(loI q+1+0)%18446744073709551616=loI (q+1):=by unfold loI;omega
def gD (n:Int)(m:Bool):Int:=bif m then -n else n
def T3 (n:Int):Bool:=decide (n < -9223372036854775808)||decide (9223372036854775807<n)
def C8g (n:Int):Int:=bif T3 n then 0 else n
end Go.Proofs.YtkpfigikffphdaaGreatDoor
end
section
namespace Go.Proofs.YtkpfigikffphdaaGreatDoor
open Go.RowKit
def mG (x:Int):Bool:=decide (-9223372036854775808<=x)&&decide (x<=9223372036854775807)
theorem aK {x:Int}:mG x=true↔ -9223372036854775808<=x/\x<=9223372036854775807:=by
 simp only[mG,Ae,decide_eq_true_eq]
def dZ (s:Int):Bool:=decide (0<=s)&&decide (s<=6)
theorem iS {s:Int}:dZ s=true↔0<=s/\s<=6:=by simp only[dZ,Ae,decide_eq_true_eq]
def A1c:D5:=⟨fun xs k=>match xs with|[.int .i64 s]=>k (.bool (dZ s))|_=>none,false⟩
theorem C7u (l:List (FuncId×D5))(s:Int)(fuel:Nat):C6 (en l) ⟨[],[]⟩ fuel false Tryz.f163 [.int .i64 s]=some (.bool (decide (0<=s)&&decide (s<=6))):=by kernel_rfl
theorem D58:D8 sN Wd 163 A1c:=by
 refine oI lE A2 (h:=⟨[],[]⟩) Tryz.func163 rfl (by decide) ?_ ?_
 ·intro R xs k;simp only[A1c];split<;>rfl
 ·intro xs r h;simp only[A1c]at h;split at h
  ·exact⟨0,(C7u [] _ 0).trans h⟩
  ·cases h
def A0m:D5:=⟨fun xs k=>match xs with|[.int .i64 s]=>k (.bool (dZ s))|_=>none,false⟩
theorem C6k (l:List (FuncId×D5))(s:Int)(fuel:Nat):C6 (en l) ⟨[],[]⟩ fuel false Tryz.f92 [.int .i64 s]=some (.bool (decide (0<=s)&&decide (s<=6))):=by kernel_rfl
theorem D1m:D8 sN Wd 92 A0m:=by
 refine oI lE A2 (h:=⟨[],[]⟩) Tryz.func92 rfl (by decide) ?_ ?_
 ·intro R xs k;simp only[A0m];split<;>rfl
 ·intro xs r h;simp only[A0m]at h;split at h
  ·exact⟨0,(C6k [] _ 0).trans h⟩
  ·cases h
theorem A7p {a b:Int}(h:a<b):uA a b=-1:=by unfold uA;rw[decide_eq_true h];rfl
theorem A14 {a b:Int}(h:b<a):uA a b=1:=by unfold uA;rw[decide_eq_false (by omega),decide_eq_true h];rfl
theorem A6h (a:Int):uA a a=0:=by unfold uA;rw[decide_eq_false (by omega)];rfl
theorem B80 (a b:Int):(a<b/\uA a b=-1)\/(a=b/\uA a b=0)\/(b<a/\uA a b=1):=by
 rcases Int.lt_trichotomy a b with h|h|h
 ·exact .inl ⟨h,A7p h⟩
 ·subst h;exact .inr (.inl ⟨rfl,A6h _⟩)
 ·exact .inr (.inr ⟨h,A14 h⟩)
def dg:Nat->Nat->List Nat
 |0,_=>[]
 |k+1,n=>(n%10)::dg k (n/10)
def A7l:Nat->Nat->Nat
 |0,_=>0
 |f+1,n=>if n=0 then 0 else A7l f (n/10)+1
def D9 (n:Nat):Nat:=A7l n n
theorem A70:∀(f g n:Nat),n<=f->n<=g->A7l f n=A7l g n
 |0,0,n,_,_=>rfl
 |0,g+1,n,h,_=>by
  have:n=0:=by omega
  subst this;rfl
 |f+1,0,n,_,h=>by
  have:n=0:=by omega
  subst this;rfl
 |f+1,g+1,n,h,k=>by
  unfold A7l;split
  ·rfl
  ·rw[A70 f g (n/10) (by omega) (by omega)]
def dgs (n:Nat):List Nat:=dg (D9 n) n
theorem lV:D9 0=0:=rfl
theorem iZ {n:Nat}(h:n≠0):D9 n=D9 (n/10)+1:=by
 obtain⟨m,rfl⟩:=Nat.exists_eq_succ_of_ne_zero h;unfold D9;show(if m+1=0 then 0 else A7l m ((m+1)/10)+1)=_;rw[if_neg (by omega),A70 m ((m+1)/10) _ (by omega) (Ak _)]
theorem A2a:∀(k n:Nat),(dg k n).length=k
 |0,_=>rfl
 |k+1,n=>by simp[dg,A2a k]
theorem cC:∀(k n:Nat),D9 n<=k↔n<10^k
 |0,n=>by
  by_cases h:n=0
  ·subst h;simp[lV]
  ·rw[iZ h];simp;omega
 |k+1,n=>by
  by_cases h:n=0
  ·subst h;simp[lV];exact Nat.pos_of_ne_zero (by simp)
  ·rw[iZ h,Nat.add_le_add_iff_right,cC k,Ee];exact En (by decide)
theorem zE (n:Nat):n<10^D9 n:=(cC _ _).1 (Ak _)
theorem wY {a b:Nat}(h:a<=b):D9 a<=D9 b:=(cC _ _).2 (Nat.lt_of_le_of_lt h (zE b))
theorem bC (n i:Nat):n/10^(i+1)=n/10^i/10:=by rw[Ee,Nat.div_div_eq_div_mul]
theorem A3v (n i:Nat):n/10/10^i=n/10^(i+1):=by rw[Ee,Nat.div_div_eq_div_mul,Eu]
theorem B8q:∀(k n i:Nat),i<k->(dg k n)[i]? =some (n/10^i%10)
 |k+1,n,0,_=>by simp[dg]
 |k+1,n,i+1,h=>by
  simp only[dg,Bz];rw[B8q k (n/10) i (by omega),A3v]
theorem uJ:∀(k n:Nat),dg (k+1) n=dg k n++[n/10^k%10]
 |0,n=>by simp[dg]
 |k+1,n=>by
  show(n%10)::dg (k+1) (n/10)=((n%10)::dg k (n/10))++_;rw[uJ k (n/10),A3v];rfl
theorem E5f:∀(k n:Nat),(dg (k+1) n).take k=dg k n:=by
 intro k n;rw[uJ,List.take_left' (A2a k n)]
def A77 (d:Nat):PV:=.int .i64 (d:Int)
def I7 (l:List Nat):List PV:=l.map A77
def L6 (n:Nat):List PV:=I7 (dgs n)
def big (n:Nat):PV:=.sl (some (n==0)) 1 (D9 n) (L6 n)
def A04:List PV->Option Nat
 |[]=>some 0
 |.int .i64 d::l=>if 0<=d/\d<10 then(A04 l).map fun n=>d.toNat+10 * n else none
 |_=>none
theorem C1i:∀(k n:Nat),A04 (I7 (dg k n))=some (n%10^k)
 |0,n=>by simp[dg,I7,A04];omega
 |k+1,n=>by
  have h:n%10<10:=Nat.mod_lt _ (by decide);show(if 0<=((n%10:Nat):Int)/\((n%10:Nat):Int)<10 then(A04 (I7 (dg k (n/10)))).map fun m=>((n%10:Nat):Int).toNat+10 * m else none)=_;rw[if_pos (by omega),C1i k (n/10)];simp only[Option.map_some,At,Ah];rw[Ee,Eu (10^k) 10,Nat.mod_mul]
def vE (len:Nat)(c:List PV):Option Nat:=(A04 c).bind fun n=>if len=D9 n/\c.length=D9 n then some n else none
theorem oK (n:Nat):vE (D9 n) (L6 n)=some n:=by
 unfold vE L6 dgs;rw[C1i,Nat.mod_eq_of_lt (zE n)];simp[I7,A2a]
theorem wU:∀{c:List PV} {n:Nat},A04 c=some n->c=I7 (dg c.length n)/\n<10^c.length
 |[],n,h=>by simp[A04]at h;subst h;exact⟨rfl,by simp⟩
 |x::l,n,h=>by
  unfold A04 at h;split at h
  ·rename_i e;cases e
  ·rename_i d l' e;injection e with e1 e2;subst e1 e2;split at h
   ·rename_i hd;obtain⟨m,hm,rfl⟩:=Am.1 h;obtain⟨i1,i2⟩:=wU hm;refine⟨?_,?_⟩
    ·show _=I7 ((d.toNat+10 * m)%10::dg _ ((d.toNat+10 * m)/10));rw[show(d.toNat+10 * m)%10=d.toNat by omega,show(d.toNat+10 * m)/10=m by omega];show _::_=A77 _::I7 _;rw[<-i1];congr 1;unfold A77;rw[show((d.toNat:Nat):Int)=d by omega]
    ·simp only[Ac,Ee];omega
   ·cases h
  ·cases h
theorem pF {len:Nat}{c:List PV}{n:Nat}(h:vE len c=some n):len=D9 n/\c=L6 n:=by
 unfold vE at h;obtain⟨m,hm,h⟩:=Ab.1 h;split at h
 ·rename_i hl;injection h with h;subst h;obtain⟨i1,_⟩:=wU hm;rw[hl.2]at i1;exact⟨hl.1,i1⟩
 ·cases h
def ixI {R:Type}(len:Nat)(c:List PV)(i:Int)(K:Int->Option R):Option R :=
 bif decide (0<=i)&&decide (i<(len:Int))then((c.drop (i.toNat * 1)).take 1).head?.bind fun v=>(PV.asInt .i64 v).bind K else none
theorem D3s {R:Type}{len:Nat}{l:List Nat}{i:Int}{d:Nat}{K:Int->Option R}(h0:0<=i)(hl:i<(len:Int))(hd:l[i.toNat]? =some d):ixI len (I7 l) i K=K d:=by
 unfold ixI;rw[A4 (by rw[decide_eq_true h0,decide_eq_true hl];rfl),Nat.mul_one]
 have:(((I7 l).drop i.toNat).take 1).head? =some (A77 d):=by
  rw[List.head?_take,if_neg (by decide),List.head?_drop,I7,List.getElem?_map,hd];rfl
 rw[this];rfl
theorem eZ {R:Type}{n:Nat}{i:Int}{K:Int->Option R}(h0:0<=i)(hl:i<(D9 n:Int)):ixI (D9 n) (L6 n) i K=K ((n/10^i.toNat%10:Nat):Int) :=
 D3s h0 hl (B8q _ _ _ (by omega))
def room {R:Type}(l m:Nat)(x:Option R):Option R:=bif decide (l+m<=9223372036854775807)&&decide ((l+m) * 8<=140737488355328)then x else none
theorem A0a {R:Type}{l m:Nat}{x:Option R}(h:l+m<=10000):room l m x=x:=by
 unfold room;exact A4 (by rw[decide_eq_true (by omega),decide_eq_true (by omega)];rfl)
theorem D2b (n:Nat):(n==0)=(D9 n==0):=by
 by_cases h:n=0
 ·subst h;rw[lV]
 ·rw[beq_eq_false_iff_ne.2 h,iZ h];rfl
theorem A4q {n i:Nat}:n/10^i=0↔D9 n<=i:=by rw[cC,Nat.div_eq_zero_iff_lt (Nat.pow_pos (by decide))]
def hOf:B4:=⟨[],[(0,⟨[(0,false),(3,true)],[]⟩)]⟩
def D9p (x:Int)(nl:Option Bool)(l:Nat)(c:List PV):St:=frame 20 [(0,(.int .i64 x,0)),(3,(.sl nl 1 l c,25))] []
noncomputable def B0y (fu n:Nat)(st:St):Option PV:=N3 (en []) hOf fu false Tryz.f188 [1,1,0,0] 0 n st
theorem F11 (fu:Nat)(n:Int):C6 (en []) hOf fu false Tryz.f188 [.int .i64 n]=B0y fu fu (D9p n (some true) 0 []):=by kernel_rfl
def D3u (x:Int)(nl:Option Bool)(l:Nat)(c:List PV)(G:Int->Option Bool->Nat->List PV->Option PV):Option PV :=
 bif !(x==0)then
  bif decide (x.tmod 10<0)then room l 1 (G (IntKind.i64.wrap (x.tdiv 10)) (nl.map (·&& false)) (l+1) (c++[.int .i64 (IntKind.i64.wrap (0-x.tmod 10))]))
  else room l 1 (G (IntKind.i64.wrap (x.tdiv 10)) (nl.map (·&& false)) (l+1) (c++[.int .i64 (x.tmod 10)]))
 else some (.sl nl 1 l c)
theorem E26 (fu:Nat)(x:Int)(nl:Option Bool)(l:Nat)(c:List PV)(K:St->Option PV):P1 (en []) hOf fu false Tryz.f188 [1,1,0,0] (D9p x nl l c) (fun st=>C2 (hOf.loop.lookup 0) st K)=
 D3u x nl l c (fun a b d e=>K (D9p a b d e)):=by kernel_rfl
theorem C0f (fu N:Nat):∀(m i n:Nat) (x:Int),x.natAbs=N/10^i->D9 (N/10^i)=m->m<n->i+m<=9000->-9223372036854775808<=x->x<=9223372036854775807->
  B0y fu n (D9p x (some (i==0)) i (I7 (dg i N)))=some (.sl (some (i+m==0)) 1 (i+m) (I7 (dg (i+m) N)))
 |m,i,0,x,_,_,h,_,_,_=>by omega
 |m,i,n+1,x,hx,hm,hn,hi,h0,h1=>by
  unfold B0y;rw[B6,E26,D3u]
  by_cases h:x=0
  ·subst h
   have hz:N/10^i=0:=by rw[<-hx];rfl
   rw[hz,lV]at hm;subst hm;rfl
  ·rw[A4 (by simpa using h)]
   have hz:N/10^i≠0:=by rw[<-hx];omega
   have hm':=iZ hz;rw[<-bC]at hm';have e1:=Int.natAbs_tmod x 10
   have e2:(x.tdiv 10).natAbs=N/10^(i+1):=by rw[bC,<-hx];exact Int.natAbs_tdiv x 10
   rw[hx,show(10:Int).natAbs=10 from rfl]at e1
   have hq:-9223372036854775808<=x.tdiv 10/\x.tdiv 10<=9223372036854775807:=by
    have hle:(x.tdiv 10).natAbs * 10<=x.natAbs:=by rw[e2,hx,bC];exact Nat.div_mul_le_self _ _
    clear e1 e2;generalize x.tdiv 10=q at *;omega
   have ih:=C0f fu N (m-1) (i+1) n (x.tdiv 10) e2 (by omega) (by omega) (by omega) hq.1 hq.2;unfold B0y at ih;rw[show i+1+(m-1)=i+m by omega,uJ,show(i+1==0)=false from rfl]at ih
   have hd:∀y:Int,y=((N/10^i%10:Nat):Int)->I7 (dg i N)++[PV.int .i64 y]=I7 (dg i N++[N/10^i%10]):=by
    intro y hy;rw[hy];simp[I7,A77]
   have hnl:(some (i==0)).map (fun b:Bool=>b&&false)=some false:=by simp
   rw[A0a (by omega),A0a (by omega),B2 hq.1 hq.2,hnl]
   by_cases hs:x.tmod 10<0
   ·rw[A4 (decide_eq_true hs),B2 (by omega) (by omega),hd _ (by omega)];exact ih
   ·rw[B1 (decide_eq_false hs),hd _ (by omega)];exact ih
def D4f:D5:=⟨fun xs k=>match xs with|[.int .i64 n]=>bif mG n then k (big n.natAbs)else none|_=>none,false⟩
theorem E72:D8 sN Wd 188 D4f:=by
 refine oI lE A2 (h:=hOf) Tryz.func188 rfl (by decide) ?_ ?_
 ·intro R xs k;simp only[D4f];split
  ·exact J7
  ·rfl
 ·intro xs r h;simp only[D4f]at h;split at h
  ·rename_i n;rcases hb:mG n with _|_<;>rw[hb]at h
   ·cases h
   ·simp only[cond_true,Ah]at h;subst h;rw[aK]at hb;refine⟨10000,(F11 10000 n).trans ?_⟩;have hl:D9 n.natAbs<=20:=(cC _ _).2 (by omega);have:=C0f 10000 n.natAbs (D9 n.natAbs) 0 10000 n (by simp) (by simp) (by omega) (by omega) hb.1 hb.2;rw[Nat.zero_add,<-D2b]at this;exact this
  ·cases h
def D0d:B4:=⟨[],[(0,⟨[(0,false),(1,false),(5,false)],[]⟩)]⟩
def C24 (n0:Option Bool)(l0:Nat)(c0:List PV)(n1:Option Bool)(l1:Nat)(c1:List PV)(i:Int):St:=frame 41 [(0,(.sl n0 1 l0 c0,0)),(1,(.sl n1 1 l1 c1,0)),(5,(.int .i64 i,0))] []
noncomputable def wA (fu n:Nat)(st:St):Option PV:=N3 (en []) D0d fu false Tryz.f190 [1,1,0,1,0] 0 n st
theorem E5k (fu:Nat)(n0:Option Bool)(l0:Nat)(c0:List PV)(n1:Option Bool)(l1:Nat)(c1:List PV):C6 (en []) D0d fu false Tryz.f190 [.sl n0 1 l0 c0,.sl n1 1 l1 c1]=
 bif !((l0:Int)==(l1:Int))then bif decide ((l0:Int)<(l1:Int))then some (.int .i64 (-1))else some (.int .i64 1)else wA fu fu (C24 n0 l0 c0 n1 l1 c1 (IntKind.i64.wrap ((l0:Int)-1))):=by kernel_rfl
def B10 (l0:Nat)(c0:List PV)(l1:Nat)(c1:List PV)(i:Int)(G:Int->Option PV):Option PV :=
 bif decide (0<=i)then ixI l0 c0 i fun a=>ixI l1 c1 i fun b=>bif decide (a<b)then some (.int .i64 (-1))else ixI l0 c0 i fun a=>ixI l1 c1 i fun b=>bif decide (b<a)then some (.int .i64 1)else G (IntKind.i64.wrap (i-1))
 else some (.int .i64 0)
theorem B1c (fu:Nat)(n0:Option Bool)(l0:Nat)(c0:List PV)(n1:Option Bool)(l1:Nat)(c1:List PV)(i:Int)(K:St->Option PV) :
 P1 (en []) D0d fu false Tryz.f190 [1,1,0,1,0] (C24 n0 l0 c0 n1 l1 c1 i) (fun st=>C2 (D0d.loop.lookup 0) st K)=B10 l0 c0 l1 c1 i (fun j=>K (C24 n0 l0 c0 n1 l1 c1 j)):=by kernel_rfl
theorem B5p (fu:Nat){A B:Nat}(hl:D9 A=D9 B)(n0 n1:Option Bool):∀(m n:Nat),m<=D9 A->m<n->m<=9000->A/10^m=B/10^m->
  wA fu n (C24 n0 (D9 A) (L6 A) n1 (D9 B) (L6 B) ((m:Int)-1))=some (.int .i64 (uA A B))
 |m,0,_,h,_,_=>by omega
 |0,n+1,_,_,_,h=>by
  unfold wA;rw[B6,B1c,B10,B1 (by decide)];simp only[Nat.pow_zero,Nat.div_one]at h;rw[h,A6h]
 |m+1,n+1,hm,hn,hb,h=>by
  unfold wA;rw[B6,B1c,B10]
  have e:((m+1:Nat):Int)-1=(m:Int):=by omega
  rw[e,A4 (decide_eq_true (by omega)),eZ (by omega) (by omega),eZ (by omega) (by omega),eZ (by omega) (by omega),eZ (by omega) (by omega),At,B2 (by omega) (by omega)];rw[bC,bC]at h
  have up:∀{X Y:Nat},X/10^m<Y/10^m->X<Y:=by
   intro X Y k;rcases Nat.lt_or_ge X Y with q|q
   ·exact q
   ·have:=Nat.div_le_div_right (c:=10^m) q;omega
  by_cases k1:A/10^m<B/10^m
  ·rw[A4 (decide_eq_true (by omega)),A7p (by have:=up k1;omega)]
  ·rw[B1 (decide_eq_false (by omega))]
   by_cases k2:B/10^m<A/10^m
   ·rw[A4 (decide_eq_true (by omega)),A14 (by have:=up k2;omega)]
   ·rw[B1 (decide_eq_false (by omega))];have:=B5p fu hl n0 n1 m n (by omega) (by omega) (by omega) (by omega);unfold wA at this;exact this
def C27:D5:=⟨fun xs k=>match xs with|[.sl _ 1 l0 c0,.sl _ 1 l1 c1]=>(vE l0 c0).bind fun A=>(vE l1 c1).bind fun B=>bif decide (D9 A<=5000)&&decide (D9 B<=5000)then k (.int .i64 (uA A B))else none|_=>none,false⟩
theorem A6q {R:Type}{a b:Option Nat}{g:Nat->Nat->Bool}{v:Nat->Nat->PV}{k:PV->Option R} :
  (a.bind fun A=>b.bind fun B=>bif g A B then k (v A B)else none)=(a.bind fun A=>b.bind fun B=>bif g A B then some (v A B)else none).bind k:=by
 cases a with
 |none=>rfl
 |some a=>cases b with
  |none=>rfl
  |some b=>exact J7
theorem A6m {a b:Option Nat}{g:Nat->Nat->Bool}{v:Nat->Nat->PV}{r:PV}(h:(a.bind fun A=>b.bind fun B=>bif g A B then some (v A B)else none)=some r):∃A B,a=some A/\b=some B/\g A B=true/\r=v A B:=by
 obtain⟨A,h1,h⟩:=Ab.1 h;obtain⟨B,h2,h⟩:=Ab.1 h
 cases hg:g A B<;>rw[hg]at h
 ·cases h
 ·injection h with h;exact⟨A,B,h1,h2,hg,h.symm⟩
theorem F1s:D8 sN Wd 190 C27:=by
 refine oI lE A2 (h:=D0d) Tryz.func190 rfl (by decide) ?_ ?_
 ·intro R xs k;simp only[C27];split
  ·exact A6q
  ·rfl
 ·intro xs r h;simp only[C27]at h;split at h
  ·rename_i n0 l0 c0 n1 l1 c1;obtain⟨A,B,h1,h2,hg,rfl⟩:=A6m h;obtain⟨rfl,rfl⟩:=pF h1;obtain⟨rfl,rfl⟩:=pF h2;simp only[Ae,decide_eq_true_eq]at hg;refine⟨10000,(E5k 10000 n0 _ _ n1 _ _).trans ?_⟩
   have up:∀{X Y:Nat},D9 X<D9 Y->X<Y:=by
    intro X Y k;rcases Nat.lt_or_ge X Y with q|q
    ·exact q
    ·have:=wY q;omega
   by_cases e:D9 A=D9 B
   ·rw[B1 (by simp[e]),B2 (by omega) (by omega)];exact B5p 10000 e n0 n1 (D9 A) 10000 (Ak _) (by omega) (by omega) (by rw[A4q.2 (Ak _),e,A4q.2 (Ak _)])
   ·rw[A4 (by simp;omega)]
    by_cases k:D9 A<D9 B
    ·rw[A4 (decide_eq_true (by omega)),A7p (by have:=up k;omega)]
    ·rw[B1 (decide_eq_false (by omega)),A14 (by have:=up (show D9 B<D9 A by omega);omega)]
  ·cases h
end Go.Proofs.YtkpfigikffphdaaGreatDoor
namespace Go.Proofs.YtkpfigikffphdaaGreatDoor
open Go.RowKit
theorem D86 {A B k:Nat}(h1:D9 A<=k)(h2:D9 B<=k):D9 (A+B)<=k+1:=by
 refine(cC _ _).2 ?_;have h1:=(cC _ _).1 h1;have h2:=(cC _ _).1 h2;rw[Ee];omega
def A6u:B4:=⟨[],[(0,⟨[(0,false),(1,false),(5,true),(6,false),(7,false)],[]⟩)]⟩
def A1f (n0:Option Bool)(l0:Nat)(c0:List PV)(n1:Option Bool)(l1:Nat)(c1:List PV)(nl:Option Bool)(l:Nat)(c:List PV)(s i:Int):St :=
 frame 52 [(0,(.sl n0 1 l0 c0,0)),(1,(.sl n1 1 l1 c1,0)),(5,(.sl nl 1 l c,59)),(6,(.int .i64 s,0)),(7,(.int .i64 i,0))] []
noncomputable def uY (fu n:Nat)(st:St):Option PV:=N3 (en []) A6u fu false Tryz.f189 [1,1,1,0,1,0] 0 n st
theorem D5e (fu:Nat)(n0:Option Bool)(l0:Nat)(c0:List PV)(n1:Option Bool)(l1:Nat)(c1:List PV):C6 (en []) A6u fu false Tryz.f189 [.sl n0 1 l0 c0,.sl n1 1 l1 c1]=
 uY fu fu (A1f n0 l0 c0 n1 l1 c1 (some true) 0 [] 0 0):=by kernel_rfl
def C2y (nl:Option Bool)(l:Nat)(c:List PV)(i:Int)(G:Option Bool->Nat->List PV->Int->Int->Option PV)(s:Int):Option PV :=
 room l 1 (G (nl.map (·&& false)) (l+1) (c++[.int .i64 (s.tmod 10)]) (IntKind.i64.wrap (s.tdiv 10)) (IntKind.i64.wrap (i+1)))
def B1z (l0:Nat)(c0:List PV)(l1:Nat)(c1:List PV)(s i:Int)(E:Int->Option PV):Option PV :=
 bif decide (i<(l0:Int))then ixI l0 c0 i fun a=>bif decide (i<(l1:Int))then ixI l1 c1 i fun b=>E (IntKind.i64.wrap (IntKind.i64.wrap (s+a)+b))else E (IntKind.i64.wrap (s+a))
 else bif decide (i<(l1:Int))then ixI l1 c1 i fun b=>E (IntKind.i64.wrap (s+b))else E s
def B4s (l0:Nat)(c0:List PV)(l1:Nat)(c1:List PV)(nl:Option Bool)(l:Nat)(c:List PV)(s i:Int)(G:Option Bool->Nat->List PV->Int->Int->Option PV):Option PV :=
 bif !decide (i<(l0:Int))then bif decide (i<(l1:Int))||decide (0<s)then B1z l0 c0 l1 c1 s i (C2y nl l c i G)else some (.sl nl 1 l c)
 else B1z l0 c0 l1 c1 s i (C2y nl l c i G)
theorem C81 (fu:Nat)(n0:Option Bool)(l0:Nat)(c0:List PV)(n1:Option Bool)(l1:Nat)(c1:List PV)(nl:Option Bool)(l:Nat)(c:List PV)(s i:Int)(K:St->Option PV) :
 P1 (en []) A6u fu false Tryz.f189 [1,1,1,0,1,0] (A1f n0 l0 c0 n1 l1 c1 nl l c s i) (fun st=>C2 (A6u.loop.lookup 0) st K)=
 B4s l0 c0 l1 c1 nl l c s i (fun a b d e f=>K (A1f n0 l0 c0 n1 l1 c1 a b d e f)):=by kernel_rfl
theorem F03 {A B i:Nat}{s:Int}(hs:0<=s)(hs2:s<=10000)(E:Int->Option PV):B1z (D9 A) (L6 A) (D9 B) (L6 B) s (i:Int) E=E (s+((A/10^i%10:Nat):Int)+((B/10^i%10:Nat):Int)):=by
 unfold B1z
 have hA:¬(i:Int)<(D9 A:Int)->A/10^i%10=0:=fun h=>by rw[A4q.2 (by omega)]
 have hB:¬(i:Int)<(D9 B:Int)->B/10^i%10=0:=fun h=>by rw[A4q.2 (by omega)]
 by_cases ka:(i:Int)<(D9 A:Int)
 ·rw[A4 (decide_eq_true ka),eZ (by omega) ka,At]
  by_cases kb:(i:Int)<(D9 B:Int)
  ·rw[A4 (decide_eq_true kb),eZ (by omega) kb,At,B2 (x:=s+_) (by omega) (by omega),B2 (by omega) (by omega)]
  ·rw[B1 (decide_eq_false kb),hB kb,B2 (by omega) (by omega)];simp
 ·rw[B1 (decide_eq_false ka),hA ka]
  by_cases kb:(i:Int)<(D9 B:Int)
  ·rw[A4 (decide_eq_true kb),eZ (by omega) kb,At,B2 (by omega) (by omega)];simp
  ·rw[B1 (decide_eq_false kb),hB kb];simp
theorem F6i {A B:Nat}(i:Nat):A/10^i+B/10^i<=(A+B)/10^i/\(A+B)/10^i<=A/10^i+B/10^i+1:=by
 have hp:0<10^i:=Nat.pow_pos (by decide);have h1:=Nat.div_add_mod A (10^i);have h2:=Nat.div_add_mod B (10^i);have h3:=Nat.mod_lt A hp;have h4:=Nat.mod_lt B hp;generalize 10^i=p at *;refine⟨(Nat.le_div_iff_mul_le hp).2 ?_,Nat.le_of_lt_succ ((En hp).2 ?_)⟩
 ·rw[Di,Eu _ p,Eu _ p];omega
 ·show A+B<(A/p+B/p+2) * p;rw[Di,Di,Eu (A/p) p,Eu (B/p) p];omega
theorem A5x (fu A B:Nat)(n0 n1:Option Bool)(hA:D9 A<=6000)(hB:D9 B<=6000)(hS:D9 (A+B)<=7000):∀(m i n:Nat),i+m=D9 (A+B)->m<n->
  uY fu n (A1f n0 (D9 A) (L6 A) n1 (D9 B) (L6 B) (some (i==0)) i (I7 (dg i (A+B))) (((A+B)/10^i-A/10^i-B/10^i:Nat):Int) (i:Int))=some (big (A+B))
 |m,i,0,_,h=>by omega
 |m,i,n+1,hi,hn=>by
  have hc:=F6i (A:=A) (B:=B) i;unfold uY;rw[B6,C81,B4s]
  have go:0<m->B1z (D9 A) (L6 A) (D9 B) (L6 B) (((A+B)/10^i-A/10^i-B/10^i:Nat):Int) (i:Int) (C2y (some (i==0)) i (I7 (dg i (A+B))) (i:Int)
    (fun a b d e f=>N3 (en []) A6u fu false Tryz.f189 [1,1,1,0,1,0] 0 n (A1f n0 (D9 A) (L6 A) n1 (D9 B) (L6 B) a b d e f)))=some (big (A+B)):=by
   intro hm;have ih:=A5x fu A B n0 n1 hA hB hS (m-1) (i+1) n (by omega) (by omega);unfold uY at ih;rw[F03 (by omega) (by omega),C2y,A0a (by omega),<-ih];have d1:=bC A i;have d2:=bC B i;have d3:=bC (A+B) i;generalize(A+B)/10^(i+1)=z' at *;generalize A/10^(i+1)=x' at *;generalize B/10^(i+1)=y' at *
   have e1:I7 (dg i (A+B))++[PV.int .i64 (((A+B)/10^i%10:Nat):Int)]=I7 (dg (i+1) (A+B)):=by rw[uJ];simp[I7,A77]
   rw[<-e1];generalize(A+B)/10^i=z at *;generalize A/10^i=x at *;generalize B/10^i=y at *
   have e2:(((z-x-y:Nat):Int)+((x%10:Nat):Int)+((y%10:Nat):Int)).tmod 10=((z%10:Nat):Int):=by
    rw[Int.tmod_eq_emod_of_nonneg (by omega)];omega
   have e3:(((z-x-y:Nat):Int)+((x%10:Nat):Int)+((y%10:Nat):Int)).tdiv 10=((z'-x'-y':Nat):Int):=by
    rw[Int.tdiv_eq_ediv_of_nonneg (by omega)];omega
   rw[e2,e3,B2 (by omega) (by omega),B2 (x:=(i:Int)+1) (by omega) (by omega)];simp
  have hz:m=0->(A+B)/10^i=0:=fun h=>A4q.2 (by omega)
  by_cases hm:m=0
  ·have z0:=hz hm;have:=wY (show A<=A+B by omega);have:=wY (show B<=A+B by omega);rw[A4 (by rw[decide_eq_false (by omega)];rfl),B1 (by rw[decide_eq_false (by omega),z0];simp)];subst hm
   have:i=D9 (A+B):=by omega
   rw[this];unfold big;rw[<-D2b];rfl
  ·by_cases ka:(i:Int)<(D9 A:Int)
   ·rw[decide_eq_true ka];exact go (by omega)
   ·rw[A4 (by rw[decide_eq_false ka];rfl)]
    by_cases kb:(i:Int)<(D9 B:Int)
    ·rw[decide_eq_true kb];exact go (by omega)
    ·have h1:=A4q (n:=A) (i:=i);have h2:=A4q (n:=B) (i:=i);have h3:=A4q (n:=A+B) (i:=i);rw[A4 (by rw[Bool.or_eq_true,decide_eq_true_eq,decide_eq_true_eq];omega)];exact go (by omega)
def A92:D5:=⟨fun xs k=>match xs with|[.sl _ 1 l0 c0,.sl _ 1 l1 c1]=>(vE l0 c0).bind fun A=>(vE l1 c1).bind fun B=>bif decide (D9 A<=5000)&&decide (D9 B<=5000)then k (big (A+B))else none|_=>none,false⟩
theorem E5g:D8 sN Wd 189 A92:=by
 refine oI lE A2 (h:=A6u) Tryz.func189 rfl (by decide) ?_ ?_
 ·intro R xs k;simp only[A92];split
  ·exact A6q
  ·rfl
 ·intro xs r h;simp only[A92]at h;split at h
  ·rename_i n0 l0 c0 n1 l1 c1;obtain⟨A,B,h1,h2,hg,rfl⟩:=A6m h;obtain⟨rfl,rfl⟩:=pF h1;obtain⟨rfl,rfl⟩:=pF h2;simp only[Ae,decide_eq_true_eq]at hg;refine⟨10000,(D5e 10000 n0 _ _ n1 _ _).trans ?_⟩;have hS:=D86 hg.1 hg.2;have:=A5x 10000 A B n0 n1 (by omega) (by omega) (by omega) (D9 (A+B)) 0 10000 (by omega) (by omega);simp only[Nat.pow_zero,Nat.div_one]at this;rw[show A+B-A-B=0 by omega]at this;exact this
  ·cases h
end Go.Proofs.YtkpfigikffphdaaGreatDoor
namespace Go.Proofs.YtkpfigikffphdaaGreatDoor
open Go.RowKit
def D4x {R:Type}(l0:Nat)(c0:List PV)(l1:Nat)(c1:List PV)(k:Nat->Option R):Option R:=(vE l0 c0).bind fun A=>(vE l1 c1).bind fun B=>bif decide (D9 A<=5000)&&decide (D9 B<=5000)then k (A+B)else none
def D8y {R:Type}(l0:Nat)(c0:List PV)(l1:Nat)(c1:List PV)(k:Int->Option R):Option R:=(vE l0 c0).bind fun A=>(vE l1 c1).bind fun B=>bif decide (D9 A<=5000)&&decide (D9 B<=5000)then k (uA A B)else none
theorem D03 {R:Type}{A B:Nat}{k:Nat->Option R}(hA:D9 A<=5000)(hB:D9 B<=5000):D4x (D9 A) (L6 A) (D9 B) (L6 B) k=k (A+B):=by
 unfold D4x;rw[oK,oK];exact A4 (by rw[decide_eq_true hA,decide_eq_true hB];rfl)
theorem C2h {R:Type}{A B:Nat}{k:Int->Option R}(hA:D9 A<=5000)(hB:D9 B<=5000):D8y (D9 A) (L6 A) (D9 B) (L6 B) k=k (uA A B):=by
 unfold D8y;rw[oK,oK];exact A4 (by rw[decide_eq_true hA,decide_eq_true hB];rfl)
theorem C89:(D9 1,L6 1)=(1,[PV.int .i64 1]):=rfl
noncomputable def E0a:List (FuncId×D5):=[(188,D4f),(189,A92),(190,C27)]
theorem E31:E0 sN Wd E0a:=A0 E72 (A0 E5g (A0 F1s A2))
def D3h:B4:=⟨[],[(0,⟨[(0,false),(1,false),(7,false),(8,false)],[]⟩)]⟩
def B4d (n0:Option Bool)(l0:Nat)(c0:List PV)(m:Bool)(x i:Int):St:=frame 41 [(0,(.sl n0 1 l0 c0,0)),(1,(.bool m,0)),(7,(.int .i64 x,0)),(8,(.int .i64 i,0))] []
noncomputable def rQ (fu n:Nat)(st:St):Option PV:=N3 (en E0a) D3h fu false Tryz.f107 [1,1,1,1,1,0,1,0] 0 n st
def B0c:Nat:=(9223372036854775807:Int).natAbs
def D31 (l0:Nat)(c0:List PV)(m:Bool)(L:Option PV):Option PV :=
 bif m then D4x (D9 B0c) (L6 B0c) 1 [.int .i64 1] fun Y=>D8y l0 c0 (D9 Y) (L6 Y) fun z=>bif decide (0<z)then some (.tuple [.int .i64 0,.bool false])else L
 else D8y l0 c0 (D9 B0c) (L6 B0c) fun z=>bif decide (0<z)then some (.tuple [.int .i64 0,.bool false])else L
theorem E2v (fu:Nat)(n0:Option Bool)(l0:Nat)(c0:List PV)(m:Bool):C6 (en E0a) D3h fu false Tryz.f107 [.sl n0 1 l0 c0,.bool m]=
 D31 l0 c0 m (rQ fu fu (B4d n0 l0 c0 m 0 (IntKind.i64.wrap ((l0:Int)-1)))):=by kernel_rfl
def A9k (l0:Nat)(c0:List PV)(m:Bool)(x i:Int)(G:Int->Int->Option PV):Option PV :=
 bif decide (0<=i)then
  bif m then ixI l0 c0 i fun v=>G (IntKind.i64.wrap (IntKind.i64.wrap (10 * x)-v)) (IntKind.i64.wrap (i-1))
  else ixI l0 c0 i fun v=>G (IntKind.i64.wrap (IntKind.i64.wrap (10 * x)+v)) (IntKind.i64.wrap (i-1))
 else some (.tuple [.int .i64 x,.bool true])
theorem B5c (fu:Nat)(n0:Option Bool)(l0:Nat)(c0:List PV)(m:Bool)(x i:Int)(K:St->Option PV) :
 P1 (en E0a) D3h fu false Tryz.f107 [1,1,1,1,1,0,1,0] (B4d n0 l0 c0 m x i) (fun st=>C2 (D3h.loop.lookup 0) st K)=A9k l0 c0 m x i (fun y j=>K (B4d n0 l0 c0 m y j)):=by kernel_rfl
theorem B2m (fu:Nat)(X:Nat)(n0:Option Bool)(m:Bool)(hX:T3 (gD X m)=false):∀(k n:Nat),k<=D9 X->k<n->k<=9000->
  rQ fu n (B4d n0 (D9 X) (L6 X) m (gD ((X/10^k:Nat):Int) m) ((k:Int)-1))=some (.tuple [.int .i64 (gD X m),.bool true])
 |k,0,_,h,_=>by omega
 |0,n+1,_,_,_=>by
  unfold rQ;rw[B6,B5c,A9k,B1 (by decide)];simp
 |k+1,n+1,hk,hn,hb=>by
  unfold rQ
  have e:((k+1:Nat):Int)-1=(k:Int):=by omega
  rw[B6,B5c,A9k,e,A4 (decide_eq_true (by omega)),eZ (by omega) (by omega),eZ (by omega) (by omega),At,B2 (x:=(k:Int)-1) (by omega) (by omega)];have ih:=B2m fu X n0 m hX k n (by omega) (by omega) (by omega);unfold rQ at ih;have hle:X/10^k<=X:=Nat.div_le_self _ _;have hd:=bC X k;unfold T3 at hX;simp only[Bool.or_eq_false_iff,decide_eq_false_iff_not]at hX;rw[hd,<-ih];generalize X/10^k=q at *
  cases m
  ·simp only[cond_false,gD]at hX ⊢;rw[B2 (x:=10 * _) (by omega) (by omega),B2 (by omega) (by omega),show 10 * ((q/10:Nat):Int)+((q%10:Nat):Int)=(q:Int)by omega]
  ·simp only[cond_true,gD]at hX ⊢;rw[B2 (x:=10 * _) (by omega) (by omega),B2 (by omega) (by omega),show 10 * -((q/10:Nat):Int)-((q%10:Nat):Int)=-(q:Int)by omega]
def C00:D5:=⟨fun xs k=>match xs with|[.sl _ 1 l0 c0,.bool m]=>(vE l0 c0).bind fun X=>bif decide (D9 X<=5000)then k (.tuple [.int .i64 (C8g (gD X m)),.bool (!T3 (gD X m))])else none|_=>none,false⟩
theorem A71 {R:Type}{a:Option Nat}{g:Nat->Bool}{v:Nat->PV}{k:PV->Option R} :
  (a.bind fun A=>bif g A then k (v A)else none)=(a.bind fun A=>bif g A then some (v A)else none).bind k:=by
 cases a with
 |none=>rfl
 |some a=>exact J7
theorem A5u {a:Option Nat}{g:Nat->Bool}{v:Nat->PV}{r:PV}(h:(a.bind fun A=>bif g A then some (v A)else none)=some r):∃A,a=some A/\g A=true/\r=v A:=by
 obtain⟨A,h1,h⟩:=Ab.1 h
 cases hg:g A<;>rw[hg]at h
 ·cases h
 ·injection h with h;exact⟨A,h1,hg,h.symm⟩
theorem C2g:B0c=9223372036854775807:=rfl
theorem F2e:D8 sN Wd 107 C00:=by
 refine oI lE E31 (h:=D3h) Tryz.func107 rfl (by decide) ?_ ?_
 ·intro R xs k;simp only[C00];split
  ·exact A71
  ·rfl
 ·intro xs r h;simp only[C00]at h;split at h
  ·rename_i n0 l0 c0 m;obtain⟨X,h1,hg,rfl⟩:=A5u h;obtain⟨rfl,rfl⟩:=pF h1;simp only[decide_eq_true_eq]at hg;refine⟨10000,(E2v 10000 n0 _ _ m).trans ?_⟩
   have hm:D9 B0c<=5000:=by decide
   have hm1:D9 (B0c+1)<=5000:=by decide
   have key:∀(Y:Nat),D9 Y<=5000->(T3 (gD X m)=decide ((Y:Int)<X))->
     (bif decide (0<uA X Y)then some (PV.tuple [.int .i64 0,.bool false])else rQ 10000 10000 (B4d n0 (D9 X) (L6 X) m 0 (IntKind.i64.wrap ((D9 X:Int)-1))))=some (.tuple [.int .i64 (C8g (gD X m)),.bool (!T3 (gD X m))]):=by
    intro Y hY ho
    by_cases hc:(Y:Int)<X
    ·rw[A14 hc,A4 (by decide)];unfold C8g;rw[ho,decide_eq_true hc];rfl
    ·rw[decide_eq_false hc]at ho;have hz:X/10^D9 X=0:=A4q.2 (Ak _);have:=B2m 10000 X n0 m ho (D9 X) 10000 (Ak _) (by omega) (by omega);rw[hz,show gD ((0:Nat):Int) m=0 by cases m<;>rfl]at this
     have hcc:¬0<uA X Y:=by
      rcases B80 X Y with⟨k,e⟩|⟨k,e⟩|⟨k,e⟩<;>omega
     rw[B1 (decide_eq_false hcc),B2 (by omega) (by omega),this];unfold C8g;rw[ho];rfl
   unfold D31
   cases m
   ·rw[cond_false,C2h hg hm];refine key B0c hm ?_;rw[C2g];unfold T3 gD;simp only[cond_false];rw[decide_eq_false (show ¬(X:Int)< -9223372036854775808 by omega)];rfl
   ·have e1:=C89;injection e1 with e1 e2;rw[cond_true,<-e1,<-e2,D03 hm (by decide),C2h hg hm1];refine key (B0c+1) hm1 ?_;rw[C2g];unfold T3 gD;simp only[cond_true];rw[decide_eq_false (show ¬9223372036854775807 < -(X:Int)by omega),Bool.or_false];congr 1;simp only[eq_iff_iff];omega
  ·cases h
theorem B73 {n:Nat}(h:n<10^20):D9 n<=20:=(cC _ _).2 h
theorem D34 {n:Int}(h:mG n=true):D9 n.natAbs<=20:=B73 (by rw[aK]at h;omega)
end Go.Proofs.YtkpfigikffphdaaGreatDoor
namespace Go.Proofs.YtkpfigikffphdaaGreatDoor
open Go.RowKit
end Go.Proofs.YtkpfigikffphdaaGreatDoor
namespace Go.Proofs.YtkpfigikffphdaaGreatDoor
open Go.RowKit
theorem F02 {q:Nat}(h:q<10)(k:q%10=0):q=0:=by omega
def B51:B4:=⟨[],[(0,⟨[(0,false)],[]⟩)]⟩
def A7r (n0:Option Bool)(l0:Nat)(c0:List PV):St:=frame 21 [(0,(.sl n0 1 l0 c0,0))] []
noncomputable def pS (fu n:Nat)(st:St):Option PV:=N3 (en []) B51 fu false Tryz.f108 [1,0,0] 0 n st
theorem D1i (fu:Nat)(n0:Option Bool)(l0:Nat)(c0:List PV):C6 (en []) B51 fu false Tryz.f108 [.sl n0 1 l0 c0]=pS fu fu (A7r n0 l0 c0):=by kernel_rfl
def A33 (n0:Option Bool)(l0:Nat)(c0:List PV)(G:Nat->List PV->Option PV):Option PV :=
 bif decide (0<(l0:Int))then ixI l0 c0 (IntKind.i64.wrap ((l0:Int)-1)) fun v =>
  bif v==0 then bif decide (0<=IntKind.i64.wrap ((l0:Int)-1))&&decide (IntKind.i64.wrap ((l0:Int)-1)<=(l0:Int))then G ((IntKind.i64.wrap ((l0:Int)-1)).toNat-0) ((c0.take ((IntKind.i64.wrap ((l0:Int)-1)).toNat * 1)).drop (0 * 1))else none
  else some (.sl n0 1 l0 c0)
 else some (.sl n0 1 l0 c0)
theorem A5z (fu:Nat)(n0:Option Bool)(l0:Nat)(c0:List PV)(K:St->Option PV) :
 P1 (en []) B51 fu false Tryz.f108 [1,0,0] (A7r n0 l0 c0) (fun st=>C2 (B51.loop.lookup 0) st K)=A33 n0 l0 c0 (fun l c=>K (A7r n0 l c)):=by kernel_rfl
theorem A6z (fu:Nat)(n0:Option Bool)(N:Nat):∀(k n:Nat),N<10^k->k<n->k<=9000->pS fu n (A7r n0 k (I7 (dg k N)))=some (.sl n0 1 (D9 N) (L6 N))
 |k,0,_,h,_=>by omega
 |0,n+1,h,_,_=>by
  have h0:N=0:=by simp at h;exact h
  subst h0;unfold pS;rw[B6,A5z,A33,B1 (by decide)];rfl
 |k+1,n+1,h,hn,hb=>by
  unfold pS;rw[B6,A5z,A33,B2 (by omega) (by omega),show((k+1:Nat):Int)-1=(k:Int)by omega,A4 (decide_eq_true (by omega)),D3s (d:=N/10^k%10) (by omega) (by omega) (B8q _ _ _ (by omega))];have hlt:N/10^k<10:=(En (Nat.pow_pos (by decide))).2 (by rw[Ee]at h;omega)
  by_cases hz:N/10^k%10=0
  ·have h0:N/10^k=0:=F02 hlt hz;have hN:N<10^k:=(cC _ _).1 (A4q.1 h0);rw[hz,A4 (by decide),A4 (by rw[decide_eq_true (by omega),decide_eq_true (by omega)];rfl)];have ih:=A6z fu n0 N k n hN (by omega) (by omega);unfold pS at ih
   have e:((I7 (dg (k+1) N)).take ((k:Int).toNat * 1)).drop (0 * 1)=I7 (dg k N):=by
    simp only[At,Nat.mul_one,Bt,I7];rw[<-List.map_take,E5f]
   rw[e];exact ih
  ·rw[B1 (by simp only[beq_eq_false_iff_ne];omega)]
   have h1:D9 N=k+1:=by
    have a:=(cC (k+1) N).2 h;have b:¬D9 N<=k:=fun q=>hz (by rw[A4q.2 q]);omega
   unfold L6 dgs;rw[h1]
def B0k:D5:=⟨fun xs k=>match xs with|[.sl n0 1 l0 c0]=>(A04 c0).bind fun N=>bif l0==c0.length&&decide (l0<=6000)then k (.sl n0 1 (D9 N) (L6 N))else none|_=>none,false⟩
theorem E4c:D8 sN Wd 108 B0k:=by
 refine oI lE A2 (h:=B51) Tryz.func108 rfl (by decide) ?_ ?_
 ·intro R xs k;simp only[B0k];split
  ·exact A71
  ·rfl
 ·intro xs r h;simp only[B0k]at h;split at h
  ·rename_i n0 l0 c0;obtain⟨N,h1,hg,rfl⟩:=A5u h;simp only[Ae,beq_iff_eq,decide_eq_true_eq]at hg;obtain⟨e1,e2⟩:=wU h1;refine⟨10000,(D1i 10000 n0 l0 c0).trans ?_⟩;rw[<-hg.1]at e1 e2;have:=A6z 10000 n0 N l0 10000 e2 (by omega) (by omega);rw[<-e1]at this;exact this
  ·cases h
def F14 {R:Type}(l0:Nat)(c0:List PV)(k:Nat->Option R):Option R:=(A04 c0).bind fun N=>bif l0==c0.length&&decide (l0<=6000)then k N else none
end Go.Proofs.YtkpfigikffphdaaGreatDoor
namespace Go.Proofs.YtkpfigikffphdaaGreatDoor
open Go.RowKit
end Go.Proofs.YtkpfigikffphdaaGreatDoor
namespace Go.Proofs.YtkpfigikffphdaaGreatDoor
open Go.RowKit
end Go.Proofs.YtkpfigikffphdaaGreatDoor
end
