/-
  Lemmas, part Y1: what the claim needs of the texts of wip/tpl.
-/
import Derived.ProofKit
import Derived.ChangeArms
import Derived.Deep.Slices
import Derived.Test.YthjmjoioagocdaaGreatDoorZpTA
import Derived.Test.YthjmjoioagocdaaGreatDoorZpKA
set_option linter.unusedVariables false
set_option linter.unusedSimpArgs false
section
set_option maxRecDepth 100000
namespace Go.Proofs.YthjmjoioagocdaaGreatDoor
open Go.ChangeShapes Go.WideShapes Go.ChangeAt Go.RowKit Go.Deep
def memU (w:World)(U:Nat→Nat):Mem:=⟨w,U,⟨0,fun _ _=>none⟩⟩
def RelU (w:World)(ps:List PV)(cs:List Value):Prop:=∃ B:Nat,∀ U:Nat→Nat,(∀ b,B≤U b)→RelL (memU w U) ps cs
theorem RelU.of {w:World}{ps:List PV}{cs:List Value}(h:∀ M,RelL M ps cs):RelU w ps cs:=⟨0,fun U _=>h _⟩
theorem RelU.append {w:World}{ps qs:List PV}{cs ds:List Value}(h:RelU w ps cs)(k:RelU w qs ds):RelU w (ps++qs) (cs++ds):=by
 obtain⟨A,h⟩:=h
 obtain⟨B,k⟩:=k
 exact⟨max A B,fun U hU=>(h U fun b=>Nat.le_trans (Nat.le_max_left _ _) (hU b)).append (k U fun b=>Nat.le_trans (Nat.le_max_right _ _) (hU b))⟩
theorem rows_rel {w:World}{base size:Nat}{a:Addr}{α:Type}{f:α→List PV}{Pa:α→Prop}:∀ (k i:Nat),(∀ j,i≤j→j<i+k→∃ cs',w.cells? base (a.add (j * size)) size=some cs'∧∃ x,Pa x∧RelU w (f x) cs') →
  ∃ (l:List α) (vs:List Value),l.length=k∧(∀ x∈l,Pa x)∧vs.length=k * size∧RelU w (l.flatMap f) vs∧∀ j u,vs[j]? = some u→w.cell? (a.add (i * size+j))=some u
 |0,i,_=>⟨[],[],rfl,by simp,by simp,.of fun _=>rfl,by simp⟩
 |k+1,i,h=>by
  obtain⟨cs,h1,x,px,hx⟩:=h i (Nat.le_refl _) (by omega)
  obtain⟨l,vs,e1,e2,e3,e4,e5⟩:=rows_rel k (i+1) (fun j h1 h2=>h j (by omega) (by omega))
  obtain⟨_,hl,hg⟩:=World.cells?_some h1
  refine⟨x::l,cs++vs,by simp[e1],?_,by rw[List.length_append,hl,e3,Nat.add_mul];omega,?_,fun j u hu=>?_⟩
  ·intro y hy
   rcases List.mem_cons.1 hy with rfl|hy
   ·exact px
   ·exact e2 y hy
  ·rw[List.flatMap_cons]
   exact hx.append e4
  ·by_cases hj:j<size
   ·rw[List.getElem?_append_left (by omega)] at hu
    have:=hg j hj
    rw[hu,add_add] at this
    exact this
   ·rw[List.getElem?_append_right (by omega),hl] at hu
    have:=e5 _ u hu
    rw[Nat.add_mul,show i * size+1 * size+(j-size)=i * size+j by omega] at this
    exact this
theorem open_slR {H:Type}{enc:TypeId×Value→H}{P:Program}{w:World}{base:Nat}{sp:Nat→Bool}{held:Bool}{t e:TypeId}{fuel:Nat}{cs:List Value}{x:DataW H×List MemPlace}{α:Type}{f:α→List PV}{Pa:α→Prop}{size:Nat}
  (hs0:0<size) (ht:P.underlying t=some (.slice e)) (hsz:P.cellsOf e=size) (hf:∀ x,(f x).length=size)
  (he:∀ n cs' y,n<fuel→DataW.trod enc P w base sp held n e cs'=some y→∃ x,Pa x∧RelU w (f x) cs') (h:DataW.trod enc P w base sp held fuel t cs=some x) :
  ∃ A c,∃ l:List α,cs=[.slice A l.length c]∧(∀ x∈l,Pa x)∧∃ B:Nat,∀ U:Nat→Nat,(∀ b,B≤U b)→RelD (memU w U) (.sl none size l.length (l.flatMap f)) (.slice A l.length c):=by
 have flen:∀ l:List α,(l.flatMap f).length=l.length * size:=by
  intro l
  induction l with
  |nil=>simp
  |cons y l ih=>rw[List.flatMap_cons,List.length_append,hf,ih,List.length_cons,Nat.add_mul];omega
 rcases DataW.trod_slice ht h with ⟨rfl,_⟩|⟨a,len,cap,elems,rest,n,rfl,rfl,rfl,hb,hlc,hcm,hel0,hel,_⟩
 ·refine⟨none,0,[],rfl,by simp,0,fun U _=>?_⟩
  simp only[RelD]
  exact⟨none,0,[],rfl,Nat.le_refl _,Nat.zero_le _,fun b hb=>(by cases hb),fun _=>rfl,by simp,rfl,Or.inl rfl⟩
 ·rw[hsz] at hel
  obtain⟨l,vs,e1,e2,e3,⟨B,e4⟩,e5⟩:=rows_rel (w:=w) (base:=base) (size:=size) (a:=a) (f:=f) (Pa:=Pa) len 0 (fun j _ hj=>by
   have:=hel j (by omega)
   rw[List.getElem?_eq_getElem (by omega)] at this
   obtain⟨cs',h1,h2⟩:=Option.bind_eq_some_iff.1 this
   obtain⟨x,px,hx⟩:=he n cs' _ (by omega) h2
   exact⟨cs',h1,x,px,hx⟩)
  subst e1
  obtain⟨b,off,spot⟩:=a
  refine⟨_,cap,l,rfl,e2,max B (off+l.length * size),fun U hU=>?_⟩
  simp only[RelD]
  refine⟨_,cap,vs,rfl,hlc,hcm,fun b hb=>(by cases hb),fun h=>(by cases h),flen l,e4 U fun b=>Nat.le_trans (Nat.le_max_left _ _) (hU b),?_⟩
  by_cases h0:vs=[]
  ·exact Or.inl h0
  ·have hp:0<vs.length:=List.length_pos_iff.2 h0
   have h00:=e5 0 vs[0] (List.getElem?_eq_getElem hp)
   have hspot:spot=none:=by
    have:=World.cell?_spot (v:=vs[0]) h00
    simpa [Addr.add] using this
   subst hspot
   refine Or.inr ⟨b,off,rfl,fun j u hu=>?_⟩
   have hj:=(List.getElem?_eq_some_iff.1 hu).1
   have:=e5 j u hu
   rw[Nat.zero_mul,Nat.zero_add,add_plain] at this
   refine⟨this,?_⟩
   have:=hU b
   have:=Nat.le_max_right B (off+l.length * size)
   show off+j<U b
   omega
end Go.Proofs.YthjmjoioagocdaaGreatDoor
end
section
set_option maxRecDepth 100000
namespace Go.Proofs.YthjmjoioagocdaaGreatDoor.TS
open Go.RowKit
theorem gFoA_vok {cs:List PV}{q:Ky}{l:List (Ky×PV)}(h:gFoA cs q=some l):∀ p∈l,vok p.2=true:=by
 unfold gFoA gFo at h
 obtain⟨t,ht,h⟩:=bind_some_inv h
 obtain⟨hg,h⟩:=bif_inv h
 injection h with h
 subst h
 exact fun p hp=>(dec_inv ht).2 p (List.mem_filter.1 hp).1
theorem iWalk_ptr {R:Type}(g:List PV→Ky→Option (List (Ky×PV)))(q:Ky)(cs:List PV)(o:Out)(y:YFn)(k:List (List PV)→Out→PV→Option R):(iWalk g).F [[.ptr 2 0],[.str q],[.eptr cs]] o [.yld,.ptr 0 0,.ptr 1 0] y k=callW g cs q y [[.ptr 2 0],[.str q],[.eptr cs]] o fun bs o b=>k bs o (.tuple []):=rfl
def gRf (x:PV)(s:Ky):Option (List (Ky×PV)):=match x with|.nilptr=>some []|.eptr cs=>gFoA cs s|_=>none
theorem gRf_of {x:PV}{l:List (Ky×PV)}(h:RootIs x l)(hl:l.length≤50000)(s:Ky):gRf x s=some (fromK s l):=by
 rcases h with ⟨rfl,rfl⟩|⟨d,t,rfl,h1,h2,rfl,hv⟩
 ·rfl
 ·obtain⟨cs,e⟩:=enc_ptr d t
  have hg:=gdP_root h1 h2 hl
  have hdep:=gdP_dep hg
  rw[e]
  show gFoA cs s=_
  unfold gFoA
  rw[← e,hdep]
  unfold gFo
  rw[← e,dec_enc hv,Option.bind_some,hg,cond_true]
structure RfOK (x:PV)(s:Ky)(l:List (Ky×PV)):Prop where
 isR:IsR x
 vok:∀ p∈l,Go.Proofs.YthjmjoioagocdaaGreatDoor.TS.vok p.2=true
 walk:∀ {R:Type} (o:Out) (y:YFn) (k:List (List PV)→Out→PV→Option R),(iWalk gFoA).F [[.ptr 2 0],[.str s],[x]] o [.yld,.ptr 0 0,.ptr 1 0] y k=walkY y l [[.ptr 2 0],[.str s],[x]] o fun bs o b=>k bs o (.tuple [])
theorem gRf_ok {x:PV}{s:Ky}{l:List (Ky×PV)}(h:gRf x s=some l):RfOK x s l:=by
 unfold gRf at h
 split at h
 ·injection h with h
  subst h
  exact⟨.inl rfl,(fun p hp=>by cases hp),fun o y k=>rfl⟩
 ·rename_i cs
  refine⟨.inr ⟨cs,rfl⟩,gFoA_vok h,fun o y k=>?_⟩
  rw[iWalk_ptr]
  unfold callW
  rw[shp_of (.inr ⟨cs,rfl⟩),cond_true,h,Option.bind_some]
 ·cases h
def btT (t:Ky)(p:Ky×PV):Bool:=!(bif t != [] then !Op.bytesLess p.1 t else false)
def subC:List Nat→Code→Code
 |0::p,.seq a _=>subC p a
 |_::p,.seq _ b=>subC p b
 |0::p,.cond _ a _=>subC p a
 |_::p,.cond _ _ b=>subC p b
 |_::p,.block _ a=>subC p a
 |_::p,.loop a=>subC p a
 |_,c=>c
def rfA:Code→Code
 | .rangeFunc _ _ a _=>a
 |_=>.skip
def rfB:Code→Code
 | .rangeFunc _ _ _ b=>b
 |_=>.skip
def rfRun (en:Env)(h:Hints)(fu:Nat)(c:Code)(ids:List Nat){S:Type}(st:St)(k:Option Jump→St→Option S):Option S :=
 pcode en h fu (rfA c) (fun _=>none) 0 st (fun st=>pcode en h fu (rfB c) (fun st=>k (some .ret) st) 0 st (fun st=>k none st) (ids.map fun id=>(id,fun st=>k (some (.exit id)) st))) []
def rangeEnd {R:Type}(n:Nat)(ids:List Nat)(ρ:List TV)(kj:Option Jump→St→Option R)(bs:List (List PV))(o:Out):Option R :=
 match o with
 | .fr bx j o' =>
  if bs.length=ids.length then
   match mapO (mapO (renP (fun j=>ids[j]?) false 4)) bs with
   |some bs=>kj j ⟨ρ,setBoxes (zipN ids bs) (bxOf n bx),o'⟩
   |none=>none
  else none
 | .nil=>none
def jumpK {R:Type}(id:Nat)(kn kr:St→Option R)(j:Option Jump)(st:St):Option R :=
 match j with
 |none=>kn st
 |some .ret=>kr st
 |some (.exit i)=>match ([(id,kn)]:List (Nat×(St→Option R))).lookup i with
  |some k=>k st
  |none=>none
def rEnd {S:Type}(n nb:Nat)(ids:List Nat)(bx:List (Option (List TV)))(o:Out)(j:Option Jump)(G:List (List PV)→Out→Bool→Option S):Option S :=
 rpin (lentIds n nb) ⟨List.replicate n (.tuple [],0),bx,o⟩ fun bx' =>
  match lentBs (bxOf n bx') ids with
  |some bs'=>match j with
   |none=>G bs' (.fr bx' none o) true
   |some j=>G bs' (.fr bx' (some j) o) false
  |none=>none
def walkG {R:Type}(shp:List (List PV)→Bool)(y:YFn):List (List PV)→List (List PV)→Out→(List (List PV)→Out→Bool→Option R)→Option R
 |[],bs,o,k=>k bs o true
 |p::r,bs,o,k=>yF y bs o p fun bs' o' b=>bif shp bs' then (bif b then walkG shp y r bs' o' k else k bs' o' false) else none
theorem walkG_nat {R S:Type}(shp:List (List PV)→Bool)(y:YFn):∀ (l:List (List PV)) (bs:List (List PV)) (o:Out) (f:List (List PV)→Out→Bool→Option R) (k:R→Option S),walkG shp y l bs o (fun b o v=>(f b o v).bind k)=(walkG shp y l bs o f).bind k
 |[],bs,o,f,k=>rfl
 |p::l,bs,o,f,k=>by
  simp only[walkG]
  rw[← yF_nat]
  congr 1
  funext bs' o' b
  cases shp bs' with
  |false=>rfl
  |true=>cases b with
   |false=>rfl
   |true=>exact walkG_nat shp y l bs' o' f k
def shp4 (f t:Ky):List (List PV)→Bool
 |[[.ptr 3 0],[.str f'],[.str t'],[.nilptr]]=>f'==f&&t'==t
 |[[.ptr 3 0],[.str f'],[.str t'],[.eptr _]]=>f'==f&&t'==t
 |_=>false
theorem shp4_inv {f t:Ky}{bs:List (List PV)}(h:shp4 f t bs=true):∃ x,bs=[[.ptr 3 0],[.str f],[.str t],[x]]∧IsR x:=by
 unfold shp4 at h
 split at h
 ·simp only[Bool.and_eq_true,beq_iff_eq] at h
  obtain⟨rfl,rfl⟩:=h
  exact⟨_,rfl,.inl rfl⟩
 ·simp only[Bool.and_eq_true,beq_iff_eq] at h
  obtain⟨rfl,rfl⟩:=h
  exact⟨_,rfl,.inr ⟨_,rfl⟩⟩
 ·cases h
section
variable {R:Type} (gf:List PV→Ky→Option (List (Ky × PV))) (y:YFn)
noncomputable def fBt:Func:=Tryz.f88
noncomputable def lhFr:List (FuncId×HFn):=[(89,hFrom 114)]
noncomputable def liFr:List (FuncId×IFn):=[(114,iWalk gf)]
noncomputable def enBt:Env:={ enH [] lhFr (liFr gf) with Y:=some (4,y) }
def btρ (f:Ky):List TV:=[(.yld,0),(.ptr 26 0,0),(.ptr 27 0,0),(.ptr 28 0,0),(.ptr 31 0,0),(.tuple [],0),(.tuple [],0),(.ptr 29 0,0),(.str f,0),(.clo 114 [.ptr 32 0,.ptr 30 0],0)]++List.replicate 16 (.tuple [],0)
def btBx (f t:Ky)(x:PV):List (Option (List TV)):=[some [(.ptr 29 0,0)],some [(.str f,0)],some [(.str t,0)],some [(x,0)],some [(.str f,0)],some [(.yld,0)],some [(.ptr 29 0,0)]]
noncomputable def btY (f:Ky):YFn:=rangeY [32,30,29] #[10,11] (btρ f) (fun {S} st k=>rfRun (S:=S) (enBt gf y) h0 0 (subC [1,1,0] (fBt.body.getD .skip)) [0] st k)
noncomputable def btKr (kk:List (List PV)→Out→PV→Option R)(st:St):Option R:=pfinH (enH [] lhFr (liFr gf)) 4 fBt st fun bs o v=>if bs.length=4 then kk bs o v else none
noncomputable def btE (kk:List (List PV)→Out→PV→Option R)(f:Ky):List (List PV)→Out→Option R:=rangeEnd 26 [32,30,29] (btρ f) (jumpK 0 (btKr gf kk) (btKr gf kk))
theorem bt_raw (kk:List (List PV)→Out→PV→Option R)(f t:Ky){x:PV}(hx:IsR x)(o:Out) :
  prunI (enH [] lhFr (liFr gf)) h0 0 fBt [[.ptr 3 0],[.str f],[.str t],[x]] o [.yld,.ptr 0 0,.ptr 1 0,.ptr 2 0] y kk =
   (iWalk gf).F [[.ptr 2 0],[.str f],[x]] (.fr (btBx f t x) none o) [.yld,.ptr 0 0,.ptr 1 0] (btY gf y f) fun bs o _=>btE gf kk f bs o:=by
 rcases hx with rfl|⟨cx,rfl⟩<;>kernel_rfl
theorem bt_rawN (kk:List (List PV)→Out→PV→Option R)(f t:Ky)(o:Out) :
  prunI (enH [] lhFr (liFr gf)) h0 0 fBt [[.nilptr],[.str f],[.str t]] o [.yld,.ptr 0 0,.ptr 1 0,.ptr 2 0] y kk=kk [[.nilptr],[.str f],[.str t]] o (.tuple []):=by kernel_rfl
theorem bt_step (f t:Ky){x:PV}(hx:IsR x)(o:Out)(k v:Ky)(G:List (List PV)→Out→Bool→Option R) :
  (btY gf y f).F [[.ptr 2 0],[.str f],[x]] (.fr (btBx f t x) none o) [.str k,.str v] G =
   bif !(bif t != [] then !Op.bytesLess k t else false) then
    viaB false 26 4 (bxOf 26 (btBx f t x)) o [.str k,.str v] (fun bs o xs G=>y.F bs o xs G) fun bx o b=>bif !b then rEnd 26 7 [32,30,29] bx o (some .ret) G else rEnd 26 7 [32,30,29] bx o none G
   else G [[.ptr 2 0],[.str f],[x]] (.fr (btBx f t x) (some .ret) o) false:=by
 rcases hx with rfl|⟨cx,rfl⟩<;>kernel_rfl
theorem bt_round (f t:Ky){x:PV}(hx:IsR x)(o:Out)(j:Option Jump)(G:List (List PV)→Out→Bool→Option R):rEnd 26 7 [32,30,29] (bxOf 26 (btBx f t x)) o j G=G [[.ptr 2 0],[.str f],[x]] (.fr (btBx f t x) j o) j.isNone:=by
 cases j<;>rcases hx with rfl|⟨cx,rfl⟩<;>kernel_rfl
theorem bt_end (kk:List (List PV)→Out→PV→Option R)(f t:Ky){x:PV}(hx:IsR x)(o:Out) :
  btE gf kk f [[.ptr 2 0],[.str f],[x]] (.fr (btBx f t x) none o)=kk [[.ptr 3 0],[.str f],[.str t],[x]] o (.tuple []):=by
 rcases hx with rfl|⟨cx,rfl⟩<;>kernel_rfl
theorem bt_endR (kk:List (List PV)→Out→PV→Option R)(f t:Ky){x:PV}(hx:IsR x)(o:Out) :
  btE gf kk f [[.ptr 2 0],[.str f],[x]] (.fr (btBx f t x) (some .ret) o)=kk [[.ptr 3 0],[.str f],[.str t],[x]] o (.tuple []):=by
 rcases hx with rfl|⟨cx,rfl⟩<;>kernel_rfl
theorem bt_via (f t:Ky){x x':PV}(hx:IsR x)(hx':IsR x'){o o':Out}{b':Bool}(k v:Ky)(hc:∀ (S:Type) (G:List (List PV)→Out→Bool→Option S),y.F [[.ptr 3 0],[.str f],[.str t],[x]] o [.str k,.str v] G=G [[.ptr 3 0],[.str f],[.str t],[x']] o' b')
  (G:List (Option (List TV))→Out→Bool→Option R):viaB false 26 4 (bxOf 26 (btBx f t x)) o [.str k,.str v] (fun bs o xs G=>y.F bs o xs G) G=G (bxOf 26 (btBx f t x')) o' b':=by
 have h1:lentBs (bxOf 26 (btBx f t x)) (lentIds 26 4)=some [[.ptr 3 0],[.str f],[.str t],[x]]:=by rcases hx with rfl|⟨cs,rfl⟩<;>rfl
 have h2:mapO (renP (posOf (lentIds 26 4) 0) false 4) [PV.str k,.str v]=some [.str k,.str v]:=rfl
 have h3:mapO (mapO (renP (fun j=>(lentIds 26 4)[j]?) false 4)) [[.ptr 3 0],[.str f],[.str t],[x']]=some [[.ptr 29 0],[.str f],[.str t],[x']]:=by rcases hx' with rfl|⟨cs,rfl⟩<;>rfl
 have h4:setBoxes (zipN (lentIds 26 4) [[.ptr 29 0],[.str f],[.str t],[x']]) (bxOf 26 (btBx f t x))=bxOf 26 (btBx f t x'):=rfl
 have h5:renP (fun j=>(lentIds 26 4)[j]?) false 4 (.bool b')=some (.bool b'):=rfl
 have hl:(lentIds 26 4).length=4:=rfl
 unfold viaB
 simp only[h1,h2]
 rw[hc]
 simp only[h3,h5,h4,hl,List.length_cons,List.length_nil,if_true]
end
def kvP (p:Ky×PV):List PV:=[.str p.1,p.2]
theorem bt_walk {R:Type}{y:YFn}(hy:y.nat)(kk:List (List PV)→Out→PV→Option R)(f t:Ky){r:R}:∀ (L:List (Ky×PV)) (x:PV) (o:Out),IsR x→(∀ p∈L,vok p.2=true) →
  walkG (shp4 f t) y ((L.takeWhile (btT t)).map kvP) [[.ptr 3 0],[.str f],[.str t],[x]] o (fun bs o _=>kk bs o (.tuple []))=some r →
  walkY (btY gFoA y f) L [[.ptr 2 0],[.str f],[x]] (.fr (btBx f t x) none o) (fun bs o _=>btE gFoA kk f bs o)=some r
 |[],x,o,hx,hv,h=>(bt_end gFoA kk f t hx o).trans h
 |p::L,x,o,hx,hv,h=>by
  have hvp:=hv p List.mem_cons_self
  have hst:=fun G=>bt_step (R:=List (List PV)×Out×Bool) gFoA y f t hx o p.1 (valP p.2) G
  rw[valP_eq hvp] at hst
  simp only[walkY]
  unfold yF
  rw[hst]
  rw[List.takeWhile_cons] at h
  have hb:btT t p=!(bif t != [] then !Op.bytesLess p.1 t else false):=rfl
  rw[hb] at h
  rcases hq:!(bif t != [] then !Op.bytesLess p.1 t else false) with _|_
  ·rw[hq,if_neg (by simp)] at h
   rw[cond_false,Option.bind_some]
   show (bif shpB [[.ptr 2 0],[.str f],[x]] then (bif false then _ else _) else none)=_
   rw[shp_of hx,cond_true,cond_false]
   exact (bt_endR gFoA kk f t hx o).trans h
  ·rw[hq,if_pos rfl,List.map_cons] at h
   simp only[walkG] at h
   obtain⟨bs',o',b,hF,h⟩:=yF_inv hy h
   obtain⟨hs,h⟩:=bif_inv h
   obtain⟨x',rfl,hx'⟩:=shp4_inv hs
   have hF':∀ (S:Type) (G:List (List PV)→Out→Bool→Option S),y.F [[.ptr 3 0],[.str f],[.str t],[x]] o [.str p.1,.str (valP p.2)] G=G [[.ptr 3 0],[.str f],[.str t],[x']] o' b:=fun S G=>by rw[valP_eq hvp];exact hF S G
   have hvia:=fun G=>bt_via (R:=List (List PV)×Out×Bool) y f t hx hx' p.1 (valP p.2) hF' G
   rw[valP_eq hvp] at hvia
   rw[cond_true,hvia]
   cases b with
   |true =>
    simp only[Bool.not_true,cond_false]
    rw[bt_round f t hx',Option.bind_some]
    show (bif shpB [[.ptr 2 0],[.str f],[x']] then (bif true then _ else _) else none)=_
    rw[shp_of hx',cond_true,cond_true]
    exact bt_walk hy kk f t L x' o' hx' (fun q hq=>hv q (List.mem_cons_of_mem _ hq)) h
   |false =>
    simp only[Bool.not_false,cond_true]
    rw[bt_round f t hx',Option.bind_some]
    show (bif shpB [[.ptr 2 0],[.str f],[x']] then (bif false then _ else _) else none)=_
    rw[shp_of hx',cond_true,cond_false]
    exact (bt_endR gFoA kk f t hx' o').trans h
def iBtw:IFn:=⟨fun bs o xs y k=>match bs,xs with
 |[[.ptr 3 0],[.str f],[.str t],[x]],[.yld,.ptr 0 0,.ptr 1 0,.ptr 2 0]=>(gRf x f).bind fun l=>walkG (shp4 f t) y ((l.takeWhile (btT t)).map kvP) [[.ptr 3 0],[.str f],[.str t],[x]] o fun bs o _=>k bs o (.tuple [])
 |[[.nilptr],[.str f],[.str t]],[.yld,.ptr 0 0,.ptr 1 0,.ptr 2 0]=>k [[.nilptr],[.str f],[.str t]] o (.tuple [])
 |_,_=>none⟩
theorem iBtw_nat:iBtw.nat:=by
 intro R bs o xs y k
 simp only[iBtw]
 split
 ·rw[obind_assoc]
  congr 1
  funext l
  exact walkG_nat _ y _ _ o (fun bs o b=>some (bs,o,PV.tuple [])) (fun r=>k r.1 r.2.1 r.2.2)
 all_goals rfl
theorem ok_lhFr:AllH NGt Wt lhFr:=allH_cons ok_from allH_nil
theorem ok_liFr:AllI NGt Wt (liFr gFoA):=allI_cons okFrom1 allI_nil
theorem ok_iBtw:IOK NGt Wt 88 iBtw:=by
 refine iok wokt allOK_nil ok_lhFr ok_liFr (h:=h0) Tryz.func88 rfl (by decide) ?_ ?_
 ·exact iBtw_nat
 ·intro bs o xs y r hy h
  simp only[iBtw] at h
  split at h
  ·rename_i f t x
   obtain⟨l,hl,h⟩:=bind_some_inv h
   have hx:=gRf_ok hl
   refine⟨0,(bt_raw gFoA y _ f t hx.isR o).trans ?_⟩
   rw[hx.walk]
   exact bt_walk hy _ f t l x o hx.isR hx.vok h
  ·rename_i f t
   exact⟨0,(bt_rawN gFoA y _ f t o).trans h⟩
  ·cases h
noncomputable def hE0 (fn:Func):HFn:=evalH [] [] [] h0 9 fn
theorem hE0_ok {f:FuncId}{fn:Func}(hf:Tryz.prog.funcs[f]? = some fn)(hb:fn.body.isSome=true)(hname:fn.name ≠ "runtime.NumGoroutine"):HOK NGt Wt f (hE0 fn):=evalH_ok wokt allOK_nil allH_nil allI_nil hf hb hname
noncomputable def hBet:HFn:=evalH [] [(65,hE0 Tryz.f65)] [] h0 9 Tryz.f35
theorem ok_hBet:HOK NGt Wt 35 hBet:=evalH_ok wokt allOK_nil (allH_cons (hE0_ok Tryz.func65 rfl (by decide)) allH_nil) allI_nil Tryz.func35 rfl (by decide)
def tRow (g:Ky→Option (Int×Int×Bool)):PFn:=⟨fun xs k=>match xs with|[.str s]=>(g s).bind fun a=>k (.tuple [.int .i64 a.1,.int .i64 a.2.1,.bool a.2.2])|_=>none,false⟩
abbrev RowC:=Int×Option Bool×Nat×List PV
def rowP (r:RowC):PV:=.agg [.int .i64 r.1,.sl r.2.1 5 r.2.2.1 r.2.2.2]
def tRowOf (g:Int→Ky→Option (RowC×Int)):PFn:=⟨fun xs k=>match xs with|[.int .i64 i,.str s]=>(g i s).bind fun a=>k (.tuple [rowP a.1,.int .i64 a.2])|_=>none,false⟩
theorem tRow_nat (g:Ky→Option (Int×Int×Bool)):(tRow g).nat:=by
 intro R xs k
 simp only[tRow]
 split
 ·rw[obind_assoc];rfl
 ·rfl
theorem tRowOf_nat (g:Int→Ky→Option (RowC×Int)):(tRowOf g).nat:=by
 intro R xs k
 simp only[tRowOf]
 split
 ·rw[obind_assoc];rfl
 ·rfl
section
variable {R:Type} (gr:Ky→Option (Int × Int × Bool)) (go:Int→Ky→Option (RowC × Int)) (y:YFn)
noncomputable def fRw:Func:=Tryz.f34
noncomputable def lRw:List (FuncId×PFn):=[(37,tRow gr),(38,tRowOf go)]
noncomputable def lhRw:List (FuncId×HFn):=[(36,hE0 Tryz.f36),(35,hBet)]
noncomputable def liBt:List (FuncId×IFn):=[(88,iBtw)]
noncomputable def enRw0:Env:=enH (lRw gr go) lhRw liBt
noncomputable def enRw:Env:={ enRw0 gr go with Y:=some (4,y) }
def rwρ (f t:Ky):List TV:=[(.yld,0),(.ptr 34 0,0),(.ptr 35 0,0),(.ptr 36 0,0),(.ptr 40 0,0),(.tuple [],0),(.tuple [],0),(.tuple [],0),(.tuple [],0),(.tuple [],0),(.ptr 37 0,0),(.ptr 41 0,0),(.str f,0),(.str t,0),(.clo 88 [.ptr 42 0,.ptr 38 0,.ptr 39 0],0)]++List.replicate 19 (.tuple [],0)
def rwBx (f t:Ky)(x xc:PV):List (Option (List TV)):=[some [(.ptr 37 0,0)],some [(.str f,0)],some [(.str t,0)],some [(x,0)],some [(.str f,0)],some [(.str t,0)],some [(.yld,0)],some [(xc,0)],some [(.ptr 41 0,0)]]
noncomputable def rwY (f t:Ky):YFn:=rangeY [42,38,39,41] #[15,16] (rwρ f t) (fun {S} st k=>rfRun (S:=S) (enRw gr go y) h0 0 (subC [1,1,0] (fRw.body.getD .skip)) [0] st k)
noncomputable def rwKr (kk:List (List PV)→Out→PV→Option R)(st:St):Option R:=pfinH (enRw0 gr go) 4 fRw st fun bs o v=>if bs.length=4 then kk bs o v else none
noncomputable def rwE (kk:List (List PV)→Out→PV→Option R)(f t:Ky):List (List PV)→Out→Option R:=rangeEnd 34 [42,38,39,41] (rwρ f t) (jumpK 0 (rwKr gr go kk) (rwKr gr go kk))
theorem rw_raw (kk:List (List PV)→Out→PV→Option R)(f t:Ky){x:PV}(hx:IsR x)(o:Out) :
  prunI (enRw0 gr go) h0 0 fRw [[.ptr 3 0],[.str f],[.str t],[x]] o [.yld,.ptr 0 0,.ptr 1 0,.ptr 2 0] y kk =
   bif !Op.bytesLess f t then kk [[.ptr 3 0],[.str f],[.str t],[x]] o (.tuple [])
   else iBtw.F [[.ptr 3 0],[.str f],[.str t],[x]] (.fr (rwBx f t x x) none o) [.yld,.ptr 0 0,.ptr 1 0,.ptr 2 0] (rwY gr go y f t) fun bs o _=>rwE gr go kk f t bs o:=by
 rcases hx with rfl|⟨cx,rfl⟩<;>kernel_rfl
theorem rw_step (f t:Ky){x xc:PV}(hx:IsR x)(hc:IsR xc)(o:Out)(k v:Ky)(G:List (List PV)→Out→Bool→Option R) :
  (rwY gr go y f t).F [[.ptr 3 0],[.str f],[.str t],[xc]] (.fr (rwBx f t x xc) none o) [.str k,.str v] G =
   (gr k).bind fun a=>bif a.2.2 then (go a.2.1 v).bind fun c =>
    viaB false 34 4 (bxOf 34 (rwBx f t x xc)) o [rowP c.1,.int .i64 c.2] (fun bs o xs G=>y.F bs o xs G) fun bx o b=>bif !b then rEnd 34 9 [42,38,39,41] bx o (some .ret) G else rEnd 34 9 [42,38,39,41] bx o none G
   else G [[.ptr 3 0],[.str f],[.str t],[xc]] (.fr (rwBx f t x xc) none o) true:=by
 rcases hx with rfl|⟨cx,rfl⟩<;>rcases hc with rfl|⟨cc,rfl⟩<;>kernel_rfl
theorem rw_round (f t:Ky){x xc:PV}(hx:IsR x)(hc:IsR xc)(o:Out)(j:Option Jump)(G:List (List PV)→Out→Bool→Option R):rEnd 34 9 [42,38,39,41] (bxOf 34 (rwBx f t x xc)) o j G=G [[.ptr 3 0],[.str f],[.str t],[xc]] (.fr (rwBx f t x xc) j o) j.isNone:=by
 cases j<;>rcases hx with rfl|⟨cx,rfl⟩<;>rcases hc with rfl|⟨cc,rfl⟩<;>kernel_rfl
theorem rw_end (kk:List (List PV)→Out→PV→Option R)(f t:Ky){x xc:PV}(hx:IsR x)(hc:IsR xc)(o:Out) :
  rwE gr go kk f t [[.ptr 3 0],[.str f],[.str t],[xc]] (.fr (rwBx f t x xc) none o)=kk [[.ptr 3 0],[.str f],[.str t],[x]] o (.tuple []):=by
 rcases hx with rfl|⟨cx,rfl⟩<;>rcases hc with rfl|⟨cc,rfl⟩<;>kernel_rfl
theorem rw_endR (kk:List (List PV)→Out→PV→Option R)(f t:Ky){x xc:PV}(hx:IsR x)(hc:IsR xc)(o:Out) :
  rwE gr go kk f t [[.ptr 3 0],[.str f],[.str t],[xc]] (.fr (rwBx f t x xc) (some .ret) o)=kk [[.ptr 3 0],[.str f],[.str t],[x]] o (.tuple []):=by
 rcases hx with rfl|⟨cx,rfl⟩<;>rcases hc with rfl|⟨cc,rfl⟩<;>kernel_rfl
theorem rw_via (f t:Ky){x x' xc:PV}(hx:IsR x)(hc:IsR xc)(hx':IsR x'){o o':Out}{b':Bool}(c:RowC)(e:Int)(hF:∀ (S:Type) (G:List (List PV)→Out→Bool→Option S),y.F [[.ptr 3 0],[.str f],[.str t],[x]] o [rowP c,.int .i64 e] G=G [[.ptr 3 0],[.str f],[.str t],[x']] o' b')
  (G:List (Option (List TV))→Out→Bool→Option R):viaB false 34 4 (bxOf 34 (rwBx f t x xc)) o [rowP c,.int .i64 e] (fun bs o xs G=>y.F bs o xs G) G=G (bxOf 34 (rwBx f t x' xc)) o' b':=by
 have h1:lentBs (bxOf 34 (rwBx f t x xc)) (lentIds 34 4)=some [[.ptr 3 0],[.str f],[.str t],[x]]:=by rcases hx with rfl|⟨cs,rfl⟩<;>rfl
 have h2:mapO (renP (posOf (lentIds 34 4) 0) false 4) [rowP c,.int .i64 e]=some [rowP c,.int .i64 e]:=rfl
 have h3:mapO (mapO (renP (fun j=>(lentIds 34 4)[j]?) false 4)) [[.ptr 3 0],[.str f],[.str t],[x']]=some [[.ptr 37 0],[.str f],[.str t],[x']]:=by rcases hx' with rfl|⟨cs,rfl⟩<;>rfl
 have h4:setBoxes (zipN (lentIds 34 4) [[.ptr 37 0],[.str f],[.str t],[x']]) (bxOf 34 (rwBx f t x xc))=bxOf 34 (rwBx f t x' xc):=rfl
 have h5:renP (fun j=>(lentIds 34 4)[j]?) false 4 (.bool b')=some (.bool b'):=rfl
 have hl:(lentIds 34 4).length=4:=rfl
 unfold viaB
 simp only[h1,h2]
 rw[hF]
 simp only[h3,h5,h4,hl,List.length_cons,List.length_nil,if_true]
end
def rowsL (gr:Ky→Option (Int×Int×Bool))(go:Int→Ky→Option (RowC×Int)):List (Ky×PV)→Option (List (RowC×Int))
 |[]=>some []
 |p::L=>(gr p.1).bind fun a=>bif a.2.2 then (go a.2.1 (valP p.2)).bind fun c=>(rowsL gr go L).map fun l=>c::l else rowsL gr go L
def reP (c:RowC×Int):List PV:=[rowP c.1,.int .i64 c.2]
theorem rw_walk {R:Type}{y:YFn}(hy:y.nat)(gr:Ky→Option (Int×Int×Bool))(go:Int→Ky→Option (RowC×Int))(kk:List (List PV)→Out→PV→Option R)(f t:Ky){xc:PV}(hc:IsR xc){r:R}:∀ (L:List (Ky×PV)) (ys:List (RowC×Int)) (x:PV) (o:Out),IsR x→(∀ p∈L,vok p.2=true)→rowsL gr go L=some ys →
  walkG (shp4 f t) y (ys.map reP) [[.ptr 3 0],[.str f],[.str t],[x]] o (fun bs o _=>kk bs o (.tuple []))=some r →
  walkG (shp4 f t) (rwY gr go y f t) (L.map kvP) [[.ptr 3 0],[.str f],[.str t],[xc]] (.fr (rwBx f t x xc) none o) (fun bs o _=>rwE gr go kk f t bs o)=some r
 |[],ys,x,o,hx,hv,hl,h=>by
  injection hl with hl
  subst hl
  exact (rw_end gr go kk f t hx hc o).trans h
 |p::L,ys,x,o,hx,hv,hl,h=>by
  have hvp:=hv p List.mem_cons_self
  have hvL:=fun q hq=>hv q (List.mem_cons_of_mem _ hq)
  have hst:=fun G=>rw_step (R:=List (List PV)×Out×Bool) gr go y f t hx hc o p.1 (valP p.2) G
  rw[valP_eq hvp] at hst
  have hsx:shp4 f t [[.ptr 3 0],[.str f],[.str t],[xc]]=true:=by rcases hc with rfl|⟨cs,rfl⟩<;>simp[shp4]
  rw[List.map_cons]
  simp only[walkG]
  unfold yF kvP
  rw[hst]
  simp only[rowsL] at hl
  obtain⟨a,ha,hl⟩:=bind_some_inv hl
  rw[ha,Option.bind_some]
  rcases hok:a.2.2 with _|_<;>rw[hok] at hl
  ·rw[cond_false] at hl ⊢
   rw[Option.bind_some]
   show (bif shp4 f t [[.ptr 3 0],[.str f],[.str t],[xc]] then (bif true then _ else _) else none)=_
   rw[hsx,cond_true,cond_true]
   exact rw_walk hy gr go kk f t hc L ys x o hx hvL hl h
  ·rw[cond_true] at hl ⊢
   obtain⟨c,hgo,hl⟩:=bind_some_inv hl
   obtain⟨ys',hl',rfl⟩:=Option.map_eq_some_iff.1 hl
   rw[hgo,Option.bind_some]
   rw[List.map_cons] at h
   simp only[walkG] at h
   obtain⟨bs',o',b,hF,h⟩:=yF_inv hy h
   obtain⟨hs,h⟩:=bif_inv h
   obtain⟨x',rfl,hx'⟩:=shp4_inv hs
   rw[rw_via y f t hx hc hx' c.1 c.2 hF]
   cases b with
   |true =>
    simp only[Bool.not_true,cond_false]
    rw[rw_round f t hx' hc,Option.bind_some]
    show (bif shp4 f t [[.ptr 3 0],[.str f],[.str t],[xc]] then (bif true then _ else _) else none)=_
    rw[hsx,cond_true,cond_true]
    exact rw_walk hy gr go kk f t hc L ys' x' o' hx' hvL hl' h
   |false =>
    simp only[Bool.not_false,cond_true]
    rw[rw_round f t hx' hc,Option.bind_some]
    show (bif shp4 f t [[.ptr 3 0],[.str f],[.str t],[xc]] then (bif false then _ else _) else none)=_
    rw[hsx,cond_true,cond_false]
    exact (rw_endR gr go kk f t hx' hc o').trans h
def rowsB (gr:Ky→Option (Int×Int×Bool))(go:Int→Ky→Option (RowC×Int))(f t:Ky)(x:PV):Option (List (RowC×Int)) :=
 bif !Op.bytesLess f t then some [] else (gRf x f).bind fun l=>rowsL gr go (l.takeWhile (btT t))
def iRows (gr:Ky→Option (Int×Int×Bool))(go:Int→Ky→Option (RowC×Int)):IFn:=⟨fun bs o xs y k=>match bs,xs with
 |[[.ptr 3 0],[.str f],[.str t],[x]],[.yld,.ptr 0 0,.ptr 1 0,.ptr 2 0]=>(gRf x f).bind fun _=>(rowsB gr go f t x).bind fun ys=>walkG (shp4 f t) y (ys.map reP) [[.ptr 3 0],[.str f],[.str t],[x]] o fun bs o _=>k bs o (.tuple [])
 |_,_=>none⟩
theorem iRows_nat (gr:Ky→Option (Int×Int×Bool))(go:Int→Ky→Option (RowC×Int)):(iRows gr go).nat:=by
 intro R bs o xs y k
 simp only[iRows]
 split
 ·rw[obind_assoc]
  congr 1
  funext l
  rw[obind_assoc]
  congr 1
  funext ys
  exact walkG_nat _ y _ _ o (fun bs o b=>some (bs,o,PV.tuple [])) (fun r=>k r.1 r.2.1 r.2.2)
 ·rfl
theorem ok_lhRw:AllH NGt Wt lhRw:=allH_cons (hE0_ok Tryz.func36 rfl (by decide)) (allH_cons ok_hBet allH_nil)
theorem ok_liBt:AllI NGt Wt liBt:=allI_cons ok_iBtw allI_nil
theorem ok_iRows {gr:Ky→Option (Int×Int×Bool)}{go:Int→Ky→Option (RowC×Int)}(h1:FOK NGt Wt 37 (tRow gr))(h2:FOK NGt Wt 38 (tRowOf go)):IOK NGt Wt 34 (iRows gr go):=by
 refine iok wokt (allOK_cons h1 (allOK_cons h2 allOK_nil)) ok_lhRw ok_liBt (h:=h0) Tryz.func34 rfl (by decide) (iRows_nat gr go) ?_
 intro bs o xs y r hy h
 simp only[iRows] at h
 split at h
 ·rename_i f t x
  obtain⟨l,hl,h⟩:=bind_some_inv h
  obtain⟨ys,hys,h⟩:=bind_some_inv h
  have hx:=gRf_ok hl
  refine⟨0,(rw_raw gr go y _ f t hx.isR o).trans ?_⟩
  unfold rowsB at hys
  rcases hb:Op.bytesLess f t with _|_<;>rw[hb] at hys
  ·simp only[Bool.not_false,cond_true] at hys ⊢
   injection hys with hys
   subst hys
   exact h
  ·simp only[Bool.not_true,cond_false] at hys ⊢
   rw[hl,Option.bind_some] at hys
   simp only[iBtw]
   rw[hl,Option.bind_some]
   exact rw_walk hy gr go _ f t hx.isR _ ys x o hx.isR (fun p hp=>hx.vok p (List.takeWhile_prefix _ |>.subset hp)) hys h
 ·cases h
abbrev EntC:=Int×Int×(Option Bool×Nat×List PV)×Int×Bool
def tParse (g:Ky→Option EntC):PFn:=⟨fun xs k=>match xs with|[.str s]=>(g s).bind fun a=>k (.tuple [.int .i64 a.1,.int .i64 a.2.1,.sl a.2.2.1.1 4 a.2.2.1.2.1 a.2.2.1.2.2,.int .i64 a.2.2.2.1,.bool a.2.2.2.2])|_=>none,false⟩
def tKey (g:Int→Int→Option Ky):PFn:=⟨fun xs k=>match xs with|[.int .i64 a,.int .i64 b]=>(g a b).bind fun s=>k (.str s)|_=>none,false⟩
theorem tParse_nat (g:Ky→Option EntC):(tParse g).nat:=by
 intro R xs k
 simp only[tParse]
 split
 ·rw[obind_assoc];rfl
 ·rfl
theorem tKey_nat (g:Int→Int→Option Ky):(tKey g).nat:=by
 intro R xs k
 simp only[tKey]
 split
 ·rw[obind_assoc];rfl
 ·rfl
def getR (gg:List PV→Ky→Option (Ky×Bool))(x:PV)(s:Ky):Option (Ky×Bool):=match x with|.nilptr=>some ([],false)|.eptr cs=>gg cs s|_=>none
def noRow (i:Int):RowC:=(i,some true,0,[])
def shp5 (f t:Ky)(tb:Int):List (List PV)→Bool
 |[[.ptr 4 0],[.str f'],[.str t'],[.int .i64 tb'],[.nilptr]]=>f'==f&&t'==t&&tb'==tb
 |[[.ptr 4 0],[.str f'],[.str t'],[.int .i64 tb'],[.eptr _]]=>f'==f&&t'==t&&tb'==tb
 |_=>false
theorem shp5_inv {f t:Ky}{tb:Int}{bs:List (List PV)}(h:shp5 f t tb bs=true):∃ x,bs=[[.ptr 4 0],[.str f],[.str t],[.int .i64 tb],[x]]∧IsR x:=by
 unfold shp5 at h
 split at h
 ·simp only[Bool.and_eq_true,beq_iff_eq] at h
  obtain⟨⟨rfl,rfl⟩,rfl⟩:=h
  exact⟨_,rfl,.inl rfl⟩
 ·simp only[Bool.and_eq_true,beq_iff_eq] at h
  obtain⟨⟨rfl,rfl⟩,rfl⟩:=h
  exact⟨_,rfl,.inr ⟨_,rfl⟩⟩
 ·cases h
section
variable {R:Type} (ge:Ky→Option EntC) (gk:Int→Int→Option Ky) (gg:List PV→Ky→Option (Ky × Bool)) (go:Int→Ky→Option (RowC × Int)) (y:YFn)
noncomputable def fEs:Func:=Tryz.f55
noncomputable def lEs:List (FuncId×PFn):=[(56,tParse ge),(58,tKey gk),(38,tRowOf go)]
noncomputable def lhEs:List (FuncId×HFn):=[(36,hE0 Tryz.f36),(35,hBet),(57,hGet gg)]
noncomputable def enEs0:Env:=enH (lEs ge gk go) (lhEs gg) liBt
noncomputable def enEs:Env:={ enEs0 ge gk gg go with Y:=some (5,y) }
def esρ (f t:Ky):List TV:=[(.yld,0),(.ptr 56 0,0),(.ptr 57 0,0),(.ptr 58 0,0),(.ptr 59 0,0),(.ptr 63 0,0),(.ptr 64 0,0)]++List.replicate 8 (.tuple [],0)++[(.ptr 60 0,0),(.ptr 65 0,0),(.ptr 65 0,0),(.str f,0),(.str t,0),(.clo 88 [.ptr 66 0,.ptr 61 0,.ptr 62 0],0)]++List.replicate 35 (.tuple [],0)
def esBx (f t:Ky)(tb:Int)(x xc:PV):List (Option (List TV)):=[some [(.ptr 60 0,0)],some [(.str f,0)],some [(.str t,0)],some [(.int .i64 tb,0)],some [(x,0)],some [(.str f,0)],some [(.str t,0)],some [(.yld,0)],some [(.ptr 65 0,0)],some [(xc,0)],some [(.ptr 65 0,0)]]
noncomputable def esY (f t:Ky):YFn:=rangeY [66,61,62,65] #[21,22] (esρ f t) (fun {S} st k=>rfRun (S:=S) (enEs ge gk gg go y) h0 0 (subC [1,1,1,0] (fEs.body.getD .skip)) [0] st k)
noncomputable def esKr (kk:List (List PV)→Out→PV→Option R)(st:St):Option R:=pfinH (enEs0 ge gk gg go) 5 fEs st fun bs o v=>if bs.length=5 then kk bs o v else none
noncomputable def esE (kk:List (List PV)→Out→PV→Option R)(f t:Ky):List (List PV)→Out→Option R:=rangeEnd 56 [66,61,62,65] (esρ f t) (jumpK 0 (esKr ge gk gg go kk) (esKr ge gk gg go kk))
theorem es_raw (kk:List (List PV)→Out→PV→Option R)(f t:Ky)(tb:Int){x:PV}(hx:IsR x)(o:Out) :
  prunI (enEs0 ge gk gg go) h0 0 fEs [[.ptr 4 0],[.str f],[.str t],[.int .i64 tb],[x]] o [.yld,.ptr 0 0,.ptr 1 0,.ptr 2 0,.ptr 3 0] y kk =
   bif !Op.bytesLess f t then kk [[.ptr 4 0],[.str f],[.str t],[.int .i64 tb],[x]] o (.tuple [])
   else iBtw.F [[.ptr 3 0],[.str f],[.str t],[x]] (.fr (esBx f t tb x x) none o) [.yld,.ptr 0 0,.ptr 1 0,.ptr 2 0] (esY ge gk gg go y f t) fun bs o _=>esE ge gk gg go kk f t bs o:=by
 rcases hx with rfl|⟨cx,rfl⟩<;>kernel_rfl
theorem es_step (f t:Ky)(tb:Int){x xc:PV}(hx:IsR x)(hc:IsR xc)(o:Out)(k v:Ky)(G:List (List PV)→Out→Bool→Option R) :
  (esY ge gk gg go y f t).F [[.ptr 3 0],[.str f],[.str t],[xc]] (.fr (esBx f t tb x xc) none o) [.str k,.str v] G =
   (ge k).bind fun a=>bif !a.2.2.2.2 then G [[.ptr 3 0],[.str f],[.str t],[xc]] (.fr (esBx f t tb x xc) none o) true else
    (gk tb a.2.2.2.1).bind fun s=>(getR gg xc s).bind fun q=>bif !q.2 then
     viaB false 56 5 (bxOf 56 (esBx f t tb x xc)) o [rowP (noRow a.2.2.2.1),.int .i64 100] (fun bs o xs G=>y.F bs o xs G) fun bx o b=>bif !b then rEnd 56 11 [66,61,62,65] bx o (some .ret) G else rEnd 56 11 [66,61,62,65] bx o none G
    else (go a.2.2.2.1 q.1).bind fun c =>
     viaB false 56 5 (bxOf 56 (esBx f t tb x xc)) o [rowP c.1,.int .i64 c.2] (fun bs o xs G=>y.F bs o xs G) fun bx o b=>bif !b then rEnd 56 11 [66,61,62,65] bx o (some .ret) G else rEnd 56 11 [66,61,62,65] bx o none G:=by
 rcases hx with rfl|⟨cx,rfl⟩<;>rcases hc with rfl|⟨cc,rfl⟩<;>kernel_rfl
theorem es_round (f t:Ky)(tb:Int){x xc:PV}(hx:IsR x)(hc:IsR xc)(o:Out)(j:Option Jump)(G:List (List PV)→Out→Bool→Option R):rEnd 56 11 [66,61,62,65] (bxOf 56 (esBx f t tb x xc)) o j G=G [[.ptr 3 0],[.str f],[.str t],[xc]] (.fr (esBx f t tb x xc) j o) j.isNone:=by
 cases j<;>rcases hx with rfl|⟨cx,rfl⟩<;>rcases hc with rfl|⟨cc,rfl⟩<;>kernel_rfl
theorem es_end (kk:List (List PV)→Out→PV→Option R)(f t:Ky)(tb:Int){x xc:PV}(hx:IsR x)(hc:IsR xc)(o:Out) :
  esE ge gk gg go kk f t [[.ptr 3 0],[.str f],[.str t],[xc]] (.fr (esBx f t tb x xc) none o)=kk [[.ptr 4 0],[.str f],[.str t],[.int .i64 tb],[x]] o (.tuple []):=by
 rcases hx with rfl|⟨cx,rfl⟩<;>rcases hc with rfl|⟨cc,rfl⟩<;>kernel_rfl
theorem es_endR (kk:List (List PV)→Out→PV→Option R)(f t:Ky)(tb:Int){x xc:PV}(hx:IsR x)(hc:IsR xc)(o:Out) :
  esE ge gk gg go kk f t [[.ptr 3 0],[.str f],[.str t],[xc]] (.fr (esBx f t tb x xc) (some .ret) o)=kk [[.ptr 4 0],[.str f],[.str t],[.int .i64 tb],[x]] o (.tuple []):=by
 rcases hx with rfl|⟨cx,rfl⟩<;>rcases hc with rfl|⟨cc,rfl⟩<;>kernel_rfl
theorem es_via (f t:Ky)(tb:Int){x x' xc:PV}(hx:IsR x)(hc:IsR xc)(hx':IsR x'){o o':Out}{b':Bool}(c:RowC)(e:Int)(hF:∀ (S:Type) (G:List (List PV)→Out→Bool→Option S),y.F [[.ptr 4 0],[.str f],[.str t],[.int .i64 tb],[x]] o [rowP c,.int .i64 e] G=G [[.ptr 4 0],[.str f],[.str t],[.int .i64 tb],[x']] o' b')
  (G:List (Option (List TV))→Out→Bool→Option R):viaB false 56 5 (bxOf 56 (esBx f t tb x xc)) o [rowP c,.int .i64 e] (fun bs o xs G=>y.F bs o xs G) G=G (bxOf 56 (esBx f t tb x' xc)) o' b':=by
 have h1:lentBs (bxOf 56 (esBx f t tb x xc)) (lentIds 56 5)=some [[.ptr 4 0],[.str f],[.str t],[.int .i64 tb],[x]]:=by rcases hx with rfl|⟨cs,rfl⟩<;>rfl
 have h2:mapO (renP (posOf (lentIds 56 5) 0) false 4) [rowP c,.int .i64 e]=some [rowP c,.int .i64 e]:=rfl
 have h3:mapO (mapO (renP (fun j=>(lentIds 56 5)[j]?) false 4)) [[.ptr 4 0],[.str f],[.str t],[.int .i64 tb],[x']]=some [[.ptr 60 0],[.str f],[.str t],[.int .i64 tb],[x']]:=by rcases hx' with rfl|⟨cs,rfl⟩<;>rfl
 have h4:setBoxes (zipN (lentIds 56 5) [[.ptr 60 0],[.str f],[.str t],[.int .i64 tb],[x']]) (bxOf 56 (esBx f t tb x xc))=bxOf 56 (esBx f t tb x' xc):=rfl
 have h5:renP (fun j=>(lentIds 56 5)[j]?) false 4 (.bool b')=some (.bool b'):=rfl
 have hl:(lentIds 56 5).length=5:=rfl
 unfold viaB
 simp only[h1,h2]
 rw[hF]
 simp only[h3,h5,h4,hl,List.length_cons,List.length_nil,if_true]
end
def entRow (gk:Int→Int→Option Ky)(gg:List PV→Ky→Option (Ky×Bool))(go:Int→Ky→Option (RowC×Int))(tb:Int)(xc:PV)(i:Int):Option (RowC×Int) :=
 (gk tb i).bind fun s=>(getR gg xc s).bind fun q=>bif !q.2 then some (noRow i,100) else go i q.1
def entsL (ge:Ky→Option EntC)(gk:Int→Int→Option Ky)(gg:List PV→Ky→Option (Ky×Bool))(go:Int→Ky→Option (RowC×Int))(tb:Int)(xc:PV):List (Ky×PV)→Option (List (RowC×Int))
 |[]=>some []
 |p::L=>(ge p.1).bind fun a=>bif !a.2.2.2.2 then entsL ge gk gg go tb xc L else (entRow gk gg go tb xc a.2.2.2.1).bind fun c=>(entsL ge gk gg go tb xc L).map fun l=>c::l
theorem es_walk {R:Type}{y:YFn}(hy:y.nat)(ge:Ky→Option EntC)(gk:Int→Int→Option Ky)(gg:List PV→Ky→Option (Ky×Bool))(go:Int→Ky→Option (RowC×Int))(kk:List (List PV)→Out→PV→Option R)(f t:Ky)(tb:Int){xc:PV}(hc:IsR xc){r:R}:∀ (L:List (Ky×PV)) (ys:List (RowC×Int)) (x:PV) (o:Out),IsR x→(∀ p∈L,vok p.2=true)→entsL ge gk gg go tb xc L=some ys →
  walkG (shp5 f t tb) y (ys.map reP) [[.ptr 4 0],[.str f],[.str t],[.int .i64 tb],[x]] o (fun bs o _=>kk bs o (.tuple []))=some r →
  walkG (shp4 f t) (esY ge gk gg go y f t) (L.map kvP) [[.ptr 3 0],[.str f],[.str t],[xc]] (.fr (esBx f t tb x xc) none o) (fun bs o _=>esE ge gk gg go kk f t bs o)=some r
 |[],ys,x,o,hx,hv,hl,h=>by
  injection hl with hl
  subst hl
  exact (es_end ge gk gg go kk f t tb hx hc o).trans h
 |p::L,ys,x,o,hx,hv,hl,h=>by
  have hvp:=hv p List.mem_cons_self
  have hvL:=fun q hq=>hv q (List.mem_cons_of_mem _ hq)
  have hst:=fun G=>es_step (R:=List (List PV)×Out×Bool) ge gk gg go y f t tb hx hc o p.1 (valP p.2) G
  rw[valP_eq hvp] at hst
  have hsx:shp4 f t [[.ptr 3 0],[.str f],[.str t],[xc]]=true:=by rcases hc with rfl|⟨cs,rfl⟩<;>simp[shp4]
  rw[List.map_cons]
  simp only[walkG]
  unfold yF kvP
  rw[hst]
  simp only[entsL] at hl
  obtain⟨a,ha,hl⟩:=bind_some_inv hl
  rw[ha,Option.bind_some]
  rcases hok:a.2.2.2.2 with _|_<;>rw[hok] at hl
  ·simp only[Bool.not_false,cond_true] at hl ⊢
   rw[Option.bind_some]
   show (bif shp4 f t [[.ptr 3 0],[.str f],[.str t],[xc]] then (bif true then _ else _) else none)=_
   rw[hsx,cond_true,cond_true]
   exact es_walk hy ge gk gg go kk f t tb hc L ys x o hx hvL hl h
  ·simp only[Bool.not_true,cond_false] at hl ⊢
   obtain⟨c,hgo,hl⟩:=bind_some_inv hl
   obtain⟨ys',hl',rfl⟩:=Option.map_eq_some_iff.1 hl
   unfold entRow at hgo
   obtain⟨s,hs1,hgo⟩:=bind_some_inv hgo
   obtain⟨q,hq1,hgo⟩:=bind_some_inv hgo
   rw[hs1,Option.bind_some,hq1,Option.bind_some]
   rw[List.map_cons] at h
   simp only[walkG] at h
   obtain⟨bs',o',b,hF,h⟩:=yF_inv hy h
   obtain⟨hs,h⟩:=bif_inv h
   obtain⟨x',rfl,hx'⟩:=shp5_inv hs
   have fin:((viaB false 56 5 (bxOf 56 (esBx f t tb x xc)) o [rowP c.1,.int .i64 c.2] (fun bs o xs G=>y.F bs o xs G) fun bx o b=>bif !b then rEnd 56 11 [66,61,62,65] bx o (some .ret) (fun b o v=>some (b,o,v)) else rEnd 56 11 [66,61,62,65] bx o none (fun b o v=>some (b,o,v))).bind fun r=>bif shp4 f t r.1 then (bif r.2.2 then walkG (shp4 f t) (esY ge gk gg go y f t) (L.map kvP) r.1 r.2.1 (fun bs o _=>esE ge gk gg go kk f t bs o) else esE ge gk gg go kk f t r.1 r.2.1) else none)=some r:=by
    rw[es_via y f t tb hx hc hx' c.1 c.2 hF]
    cases b with
    |true =>
     simp only[Bool.not_true,cond_false]
     rw[es_round f t tb hx' hc,Option.bind_some]
     show (bif shp4 f t [[.ptr 3 0],[.str f],[.str t],[xc]] then (bif true then _ else _) else none)=_
     rw[hsx,cond_true,cond_true]
     exact es_walk hy ge gk gg go kk f t tb hc L ys' x' o' hx' hvL hl' h
    |false =>
     simp only[Bool.not_false,cond_true]
     rw[es_round f t tb hx' hc,Option.bind_some]
     show (bif shp4 f t [[.ptr 3 0],[.str f],[.str t],[xc]] then (bif false then _ else _) else none)=_
     rw[hsx,cond_true,cond_false]
     exact (es_endR ge gk gg go kk f t tb hx' hc o').trans h
   rcases hq2:q.2 with _|_<;>rw[hq2] at hgo
   ·simp only[Bool.not_false,cond_true] at hgo ⊢
    injection hgo with hgo
    subst hgo
    exact fin
   ·simp only[Bool.not_true,cond_false] at hgo ⊢
    rw[hgo,Option.bind_some]
    exact fin
def entsB (ge:Ky→Option EntC)(gk:Int→Int→Option Ky)(gg:List PV→Ky→Option (Ky×Bool))(go:Int→Ky→Option (RowC×Int))(tb:Int)(f t:Ky)(x:PV):Option (List (RowC×Int)) :=
 bif !Op.bytesLess f t then some [] else (gRf x f).bind fun l=>entsL ge gk gg go tb x (l.takeWhile (btT t))
def iEnts (ge:Ky→Option EntC)(gk:Int→Int→Option Ky)(gg:List PV→Ky→Option (Ky×Bool))(go:Int→Ky→Option (RowC×Int)):IFn:=⟨fun bs o xs y k=>match bs,xs with
 |[[.ptr 4 0],[.str f],[.str t],[.int .i64 tb],[x]],[.yld,.ptr 0 0,.ptr 1 0,.ptr 2 0,.ptr 3 0]=>(gRf x f).bind fun _=>(entsB ge gk gg go tb f t x).bind fun ys=>walkG (shp5 f t tb) y (ys.map reP) [[.ptr 4 0],[.str f],[.str t],[.int .i64 tb],[x]] o fun bs o _=>k bs o (.tuple [])
 |_,_=>none⟩
theorem iEnts_nat (ge:Ky→Option EntC)(gk:Int→Int→Option Ky)(gg:List PV→Ky→Option (Ky×Bool))(go:Int→Ky→Option (RowC×Int)):(iEnts ge gk gg go).nat:=by
 intro R bs o xs y k
 simp only[iEnts]
 split
 ·rw[obind_assoc]
  congr 1
  funext l
  rw[obind_assoc]
  congr 1
  funext ys
  exact walkG_nat _ y _ _ o (fun bs o b=>some (bs,o,PV.tuple [])) (fun r=>k r.1 r.2.1 r.2.2)
 ·rfl
theorem ok_iEnts {ge:Ky→Option EntC}{gk:Int→Int→Option Ky}{gg:List PV→Ky→Option (Ky×Bool)}{go:Int→Ky→Option (RowC×Int)}(h1:FOK NGt Wt 56 (tParse ge))(h2:FOK NGt Wt 58 (tKey gk))(h3:FOK NGt Wt 38 (tRowOf go))
  (h4:HOK NGt Wt 57 (hGet gg)):IOK NGt Wt 55 (iEnts ge gk gg go):=by
 refine iok wokt (allOK_cons h1 (allOK_cons h2 (allOK_cons h3 allOK_nil))) (allH_cons (hE0_ok Tryz.func36 rfl (by decide)) (allH_cons ok_hBet (allH_cons h4 allH_nil))) ok_liBt (h:=h0) Tryz.func55 rfl (by decide) (iEnts_nat ge gk gg go) ?_
 intro bs o xs y r hy h
 simp only[iEnts] at h
 split at h
 ·rename_i f t tb x
  obtain⟨l,hl,h⟩:=bind_some_inv h
  obtain⟨ys,hys,h⟩:=bind_some_inv h
  have hx:=gRf_ok hl
  refine⟨0,(es_raw ge gk gg go y _ f t tb hx.isR o).trans ?_⟩
  unfold entsB at hys
  rcases hb:Op.bytesLess f t with _|_<;>rw[hb] at hys
  ·simp only[Bool.not_false,cond_true] at hys ⊢
   injection hys with hys
   subst hys
   exact h
  ·simp only[Bool.not_true,cond_false] at hys ⊢
   rw[hl,Option.bind_some] at hys
   simp only[iBtw]
   rw[hl,Option.bind_some]
   exact es_walk hy ge gk gg go _ f t tb hx.isR _ ys x o hx.isR (fun p hp=>hx.vok p (List.takeWhile_prefix _ |>.subset hp)) hys h
 ·cases h
def hLs:Hints:=⟨[(4000000,⟨[(2,false),(3,false)],[2,3,21,22,23,24,25,26,27,28]⟩)],[]⟩
noncomputable def roomR {S:Type}(lo:Nat)(k:Option S):Option S:=bif decide (lo+1≤9223372036854775807)&&decide ((lo+1) * bytesOf Tryz.prog 50≤roomB) then k else none
theorem roomR_t {S:Type}{lo:Nat}(h:lo≤1000000)(k:Option S):roomR lo k=k:=by
 unfold roomR
 rw[show bytesOf Tryz.prog 50=32 by kernel_rfl]
 exact cond_t (by rw[decide_eq_true (by omega),decide_eq_true (by unfold roomB;omega)];rfl)
section
variable {R:Type} (ir ie:IFn)
noncomputable def fLs:Func:=Tryz.f10
noncomputable def liLs:List (FuncId×IFn):=[(34,ir),(55,ie)]
noncomputable def enLs:Env:=enH [] [] (liLs ir ie)
def nil2:PV:=.sl (some true) 2 0 []
noncomputable def lsKr (nl:Nat)(kk:List (List PV)→PV→Option R)(st:St):Option R:=pfinH (enLs ir ie) nl fLs st fun bs _ v=>kk bs v
noncomputable def lsK (nl:Nat)(kk:List (List PV)→PV→Option R)(st:St):Option R:=pcode (enLs ir ie) hLs 0 (subC [1,1,1,1] (fLs.body.getD .skip)) (lsKr ir ie nl kk) 0 st (lsKr ir ie nl kk) []
def cRw:PV:=.clo 34 [.ptr 21 0,.ptr 22 0,.ptr 23 0]
def lsρ:List TV:=[(cRw,0),(.tuple [],0),(.ptr 25 0,0),(.ptr 26 0,0),(.ptr 27 0,0),(.tuple [],0),(.tuple [],0),(cRw,0),(.bool false,0),(cRw,0)]++List.replicate 11 (.tuple [],0)
def tagN (x:PV)(n:Nat):Nat:=if x.nilSl then n else 0
def lsBx (f t:Ky)(x out:PV):List (Option (List TV)):=[some [(.ptr 24 0,0)],some [(.str f,0)],some [(.str t,0)],some [(x,0)],some [(nil2,48)],some [(.int .i64 0,0)],some [(out,50)]]
def lsBxR (f t:Ky)(x out:PV)(e:Int):List (Option (List TV)):=[some [(.ptr 24 0,0)],some [(.str f,0)],some [(.str t,0)],some [(x,0)],some [(out,tagN out 48)],some [(.int .i64 e,0)],some [(out,tagN out 50)]]
noncomputable def lsY:YFn:=rangeY [21,22,23,24] #[10,11] lsρ (fun {S} st k=>rfRun (S:=S) (enLs ir ie) hLs 0 (subC [1,1,1,0,1,0] (fLs.body.getD .skip)) [0] st k)
noncomputable def lsE (kk:List (List PV)→PV→Option R):List (List PV)→Out→Option R:=rangeEnd 21 [21,22,23,24] lsρ (jumpK 0 (lsK ir ie 4 kk) (lsKr ir ie 4 kk))
theorem ls_raw (kk:List (List PV)→PV→Option R)(f t:Ky){x:PV}(hx:IsR x) :
  prunH (enLs ir ie) hLs 0 fLs [[.ptr 3 0],[.str f],[.str t],[x]] [.clo 34 [.ptr 0 0,.ptr 1 0,.ptr 2 0]] kk =
   ir.F [[.ptr 3 0],[.str f],[.str t],[x]] (.fr (lsBx f t x nil2) none .nil) [.yld,.ptr 0 0,.ptr 1 0,.ptr 2 0] (lsY ir ie) fun bs o _=>lsE ir ie kk bs o:=by
 rcases hx with rfl|⟨cx,rfl⟩<;>kernel_rfl
theorem ls_step (f t:Ky){x:PV}(hx:IsR x)(no:Option Bool)(lo:Nat)(co:List PV)(c:RowC)(e:Int)(G:List (List PV)→Out→Bool→Option R) :
  (lsY ir ie).F [[.ptr 3 0],[.str f],[.str t],[x]] (.fr (lsBx f t x (.sl no 2 lo co)) none .nil) [rowP c,.int .i64 e] G =
   bif e != 0 then G [[.ptr 3 0],[.str f],[.str t],[x]] (.fr (lsBxR f t x (.sl no 2 lo co) e) (some .ret) .nil) false
   else roomR lo (G [[.ptr 3 0],[.str f],[.str t],[x]] (.fr (lsBx f t x (.sl (no.map (· && (1==0))) 2 (lo+1) (co++[.int .i64 c.1,.sl c.2.1 5 c.2.2.1 c.2.2.2]))) none .nil) true):=by
 rcases hx with rfl|⟨cx,rfl⟩<;>kernel_rfl
theorem ls_end (kk:List (List PV)→PV→Option R)(f t:Ky){x:PV}(hx:IsR x)(no:Option Bool)(lo:Nat)(co:List PV) :
  lsE ir ie kk [[.ptr 3 0],[.str f],[.str t],[x]] (.fr (lsBx f t x (.sl no 2 lo co)) none .nil)=kk [[.ptr 3 0],[.str f],[.str t],[x]] (.tuple [.sl no 2 lo co,.int .i64 0]):=by
 rcases hx with rfl|⟨cx,rfl⟩<;>kernel_rfl
theorem ls_endR (kk:List (List PV)→PV→Option R)(f t:Ky){x:PV}(hx:IsR x)(no:Option Bool)(lo:Nat)(co:List PV)(e:Int) :
  lsE ir ie kk [[.ptr 3 0],[.str f],[.str t],[x]] (.fr (lsBxR f t x (.sl no 2 lo co) e) (some .ret) .nil)=kk [[.ptr 3 0],[.str f],[.str t],[x]] (.tuple [.sl no 2 lo co,.int .i64 e]):=by
 rcases hx with rfl|⟨cx,rfl⟩<;>kernel_rfl
def cEs:PV:=.clo 55 [.ptr 21 0,.ptr 22 0,.ptr 23 0,.ptr 24 0]
def leρ:List TV:=[(cEs,0),(.tuple [],0),(.ptr 26 0,0),(.ptr 27 0,0),(.ptr 28 0,0),(.tuple [],0),(.tuple [],0),(cEs,0),(.bool false,0),(cEs,0)]++List.replicate 11 (.tuple [],0)
def leBx (f t:Ky)(tb:Int)(x out:PV):List (Option (List TV)):=[some [(.ptr 25 0,0)],some [(.str f,0)],some [(.str t,0)],some [(.int .i64 tb,0)],some [(x,0)],some [(nil2,49)],some [(.int .i64 0,0)],some [(out,51)]]
def leBxR (f t:Ky)(tb:Int)(x out:PV)(e:Int):List (Option (List TV)):=[some [(.ptr 25 0,0)],some [(.str f,0)],some [(.str t,0)],some [(.int .i64 tb,0)],some [(x,0)],some [(out,tagN out 49)],some [(.int .i64 e,0)],some [(out,tagN out 51)]]
noncomputable def leY:YFn:=rangeY [21,22,23,24,25] #[10,11] leρ (fun {S} st k=>rfRun (S:=S) (enLs ir ie) hLs 0 (subC [1,1,1,0,1,0] (fLs.body.getD .skip)) [0] st k)
noncomputable def leE (kk:List (List PV)→PV→Option R):List (List PV)→Out→Option R:=rangeEnd 21 [21,22,23,24,25] leρ (jumpK 0 (lsK ir ie 5 kk) (lsKr ir ie 5 kk))
theorem le_raw (kk:List (List PV)→PV→Option R)(f t:Ky)(tb:Int){x:PV}(hx:IsR x) :
  prunH (enLs ir ie) hLs 0 fLs [[.ptr 4 0],[.str f],[.str t],[.int .i64 tb],[x]] [.clo 55 [.ptr 0 0,.ptr 1 0,.ptr 2 0,.ptr 3 0]] kk =
   ie.F [[.ptr 4 0],[.str f],[.str t],[.int .i64 tb],[x]] (.fr (leBx f t tb x nil2) none .nil) [.yld,.ptr 0 0,.ptr 1 0,.ptr 2 0,.ptr 3 0] (leY ir ie) fun bs o _=>leE ir ie kk bs o:=by
 rcases hx with rfl|⟨cx,rfl⟩<;>kernel_rfl
theorem le_step (f t:Ky)(tb:Int){x:PV}(hx:IsR x)(no:Option Bool)(lo:Nat)(co:List PV)(c:RowC)(e:Int)(G:List (List PV)→Out→Bool→Option R) :
  (leY ir ie).F [[.ptr 4 0],[.str f],[.str t],[.int .i64 tb],[x]] (.fr (leBx f t tb x (.sl no 2 lo co)) none .nil) [rowP c,.int .i64 e] G =
   bif e != 0 then G [[.ptr 4 0],[.str f],[.str t],[.int .i64 tb],[x]] (.fr (leBxR f t tb x (.sl no 2 lo co) e) (some .ret) .nil) false
   else roomR lo (G [[.ptr 4 0],[.str f],[.str t],[.int .i64 tb],[x]] (.fr (leBx f t tb x (.sl (no.map (· && (1==0))) 2 (lo+1) (co++[.int .i64 c.1,.sl c.2.1 5 c.2.2.1 c.2.2.2]))) none .nil) true):=by
 rcases hx with rfl|⟨cx,rfl⟩<;>kernel_rfl
theorem le_end (kk:List (List PV)→PV→Option R)(f t:Ky)(tb:Int){x:PV}(hx:IsR x)(no:Option Bool)(lo:Nat)(co:List PV) :
  leE ir ie kk [[.ptr 4 0],[.str f],[.str t],[.int .i64 tb],[x]] (.fr (leBx f t tb x (.sl no 2 lo co)) none .nil)=kk [[.ptr 4 0],[.str f],[.str t],[.int .i64 tb],[x]] (.tuple [.sl no 2 lo co,.int .i64 0]):=by
 rcases hx with rfl|⟨cx,rfl⟩<;>kernel_rfl
theorem le_endR (kk:List (List PV)→PV→Option R)(f t:Ky)(tb:Int){x:PV}(hx:IsR x)(no:Option Bool)(lo:Nat)(co:List PV)(e:Int) :
  leE ir ie kk [[.ptr 4 0],[.str f],[.str t],[.int .i64 tb],[x]] (.fr (leBxR f t tb x (.sl no 2 lo co) e) (some .ret) .nil)=kk [[.ptr 4 0],[.str f],[.str t],[.int .i64 tb],[x]] (.tuple [.sl no 2 lo co,.int .i64 e]):=by
 rcases hx with rfl|⟨cx,rfl⟩<;>kernel_rfl
theorem ls_nil (kk:List (List PV)→PV→Option R):prunH (enLs ir ie) hLs 0 fLs [] [.nilFunc] kk=kk [] (.tuple [nil2,.int .i64 0]):=by kernel_rfl
end
def rwsC (l:List RowC):List PV:=l.flatMap fun c=>[.int .i64 c.1,.sl c.2.1 5 c.2.2.1 c.2.2.2]
def rSl (l:List RowC):PV:=.sl (some l.isEmpty) 2 l.length (rwsC l)
def listR:List (RowC×Int)→List RowC×Int
 |[]=>([],0)
 |c::l=>if c.2=0 then (c.1::(listR l).1,(listR l).2) else ([],c.2)
theorem rSl_snoc (out:List RowC)(c:RowC):(PV.sl ((some out.isEmpty).map (· && (1==0))) 2 (out.length+1) (rwsC out++[.int .i64 c.1,.sl c.2.1 5 c.2.2.1 c.2.2.2]))=rSl (out++[c]):=by
 unfold rSl rwsC
 rw[List.flatMap_append,List.length_append]
 cases out<;>simp
theorem ls_walk {R:Type}(ir ie:IFn)(kk:List (List PV)→PV→Option R)(f t:Ky){x:PV}(hx:IsR x):∀ (ys:List (RowC×Int)) (out:List RowC),out.length+ys.length≤1000000 →
  walkG (shp4 f t) (lsY ir ie) (ys.map reP) [[.ptr 3 0],[.str f],[.str t],[x]] (.fr (lsBx f t x (rSl out)) none .nil) (fun bs o _=>lsE ir ie kk bs o)=kk [[.ptr 3 0],[.str f],[.str t],[x]] (.tuple [rSl (out++(listR ys).1),.int .i64 (listR ys).2])
 |[],out,hl=>by
  rw[List.map_nil]
  simp only[walkG,listR,List.append_nil]
  exact ls_end ir ie kk f t hx _ _ _
 |c::ys,out,hl=>by
  have hsx:shp4 f t [[.ptr 3 0],[.str f],[.str t],[x]]=true:=by rcases hx with rfl|⟨cs,rfl⟩<;>simp[shp4]
  have hst:=fun G=>ls_step (R:=List (List PV)×Out×Bool) ir ie f t hx (some out.isEmpty) out.length (rwsC out) c.1 c.2 G
  rw[List.map_cons]
  simp only[walkG]
  unfold yF
  refine (congrArg (fun o=>Option.bind o _) (hst _)).trans ?_
  by_cases he:c.2=0
  ·rw[cond_f (by simpa using he),roomR_t (by simp at hl;omega),rSl_snoc,Option.bind_some]
   show (bif shp4 f t [[.ptr 3 0],[.str f],[.str t],[x]] then (bif true then _ else _) else none)=_
   rw[hsx,cond_true,cond_true]
   refine (ls_walk ir ie kk f t hx ys (out++[c.1]) (by simp at hl ⊢;omega)).trans ?_
   simp only[listR,if_pos he,List.append_assoc,List.singleton_append]
  ·rw[cond_t (by simpa using he),Option.bind_some]
   show (bif shp4 f t [[.ptr 3 0],[.str f],[.str t],[x]] then (bif false then _ else _) else none)=_
   rw[hsx,cond_true,cond_false]
   simp only[listR,if_neg he,List.append_nil]
   exact ls_endR ir ie kk f t hx _ _ _ _
theorem le_walk {R:Type}(ir ie:IFn)(kk:List (List PV)→PV→Option R)(f t:Ky)(tb:Int){x:PV}(hx:IsR x):∀ (ys:List (RowC×Int)) (out:List RowC),out.length+ys.length≤1000000 →
  walkG (shp5 f t tb) (leY ir ie) (ys.map reP) [[.ptr 4 0],[.str f],[.str t],[.int .i64 tb],[x]] (.fr (leBx f t tb x (rSl out)) none .nil) (fun bs o _=>leE ir ie kk bs o)=kk [[.ptr 4 0],[.str f],[.str t],[.int .i64 tb],[x]] (.tuple [rSl (out++(listR ys).1),.int .i64 (listR ys).2])
 |[],out,hl=>by
  rw[List.map_nil]
  simp only[walkG,listR,List.append_nil]
  exact le_end ir ie kk f t tb hx _ _ _
 |c::ys,out,hl=>by
  have hsx:shp5 f t tb [[.ptr 4 0],[.str f],[.str t],[.int .i64 tb],[x]]=true:=by rcases hx with rfl|⟨cs,rfl⟩<;>simp[shp5]
  have hst:=fun G=>le_step (R:=List (List PV)×Out×Bool) ir ie f t tb hx (some out.isEmpty) out.length (rwsC out) c.1 c.2 G
  rw[List.map_cons]
  simp only[walkG]
  unfold yF
  refine (congrArg (fun o=>Option.bind o _) (hst _)).trans ?_
  by_cases he:c.2=0
  ·rw[cond_f (by simpa using he),roomR_t (by simp at hl;omega),rSl_snoc,Option.bind_some]
   show (bif shp5 f t tb [[.ptr 4 0],[.str f],[.str t],[.int .i64 tb],[x]] then (bif true then _ else _) else none)=_
   rw[hsx,cond_true,cond_true]
   refine (le_walk ir ie kk f t tb hx ys (out++[c.1]) (by simp at hl ⊢;omega)).trans ?_
   simp only[listR,if_pos he,List.append_assoc,List.singleton_append]
  ·rw[cond_t (by simpa using he),Option.bind_some]
   show (bif shp5 f t tb [[.ptr 4 0],[.str f],[.str t],[.int .i64 tb],[x]] then (bif false then _ else _) else none)=_
   rw[hsx,cond_true,cond_false]
   simp only[listR,if_neg he,List.append_nil]
   exact le_endR ir ie kk f t tb hx _ _ _ _
def hListS (gr:Ky→Option (Int×Int×Bool))(ge:Ky→Option EntC)(gk:Int→Int→Option Ky)(gg:List PV→Ky→Option (Ky×Bool))(go:Int→Ky→Option (RowC×Int)):HFn:=⟨fun bs xs k=>match bs,xs with
 |[[.ptr 3 0],[.str f],[.str t],[x]],[.clo g [.ptr 0 0,.ptr 1 0,.ptr 2 0]]=>bif g==34 then (gRf x f).bind fun _=>(rowsB gr go f t x).bind fun ys=>bif decide (ys.length≤1000000) then k [[.ptr 3 0],[.str f],[.str t],[x]] (.tuple [rSl (listR ys).1,.int .i64 (listR ys).2]) else none else none
 |[[.ptr 4 0],[.str f],[.str t],[.int .i64 tb],[x]],[.clo g [.ptr 0 0,.ptr 1 0,.ptr 2 0,.ptr 3 0]]=>bif g==55 then (gRf x f).bind fun _=>(entsB ge gk gg go tb f t x).bind fun ys=>bif decide (ys.length≤1000000) then k [[.ptr 4 0],[.str f],[.str t],[.int .i64 tb],[x]] (.tuple [rSl (listR ys).1,.int .i64 (listR ys).2]) else none else none
 |[],[.nilFunc]=>k [] (.tuple [nil2,.int .i64 0])
 |_,_=>none⟩
theorem ok_list {gr:Ky→Option (Int×Int×Bool)}{ge:Ky→Option EntC}{gk:Int→Int→Option Ky}{gg:List PV→Ky→Option (Ky×Bool)}{go:Int→Ky→Option (RowC×Int)}(h1:FOK NGt Wt 37 (tRow gr))(h2:FOK NGt Wt 56 (tParse ge))(h3:FOK NGt Wt 58 (tKey gk))(h4:FOK NGt Wt 38 (tRowOf go))
  (h5:HOK NGt Wt 57 (hGet gg)):HOK NGt Wt 10 (hListS gr ge gk gg go):=by
 have ok_I:AllI NGt Wt (liLs (iRows gr go) (iEnts ge gk gg go)):=allI_cons (ok_iRows h1 h4) (allI_cons (ok_iEnts h2 h3 h4 h5) allI_nil)
 refine hok wokt allOK_nil allH_nil ok_I (h:=hLs) Tryz.func10 rfl (by decide) ?_ ?_
 ·intro R bs xs k
  simp only[hListS]
  split
  ·rw[bif_bind,obind_assoc];congr 2;funext l;rw[obind_assoc];congr 1;funext ys;rw[bif_bind];rfl
  ·rw[bif_bind,obind_assoc];congr 2;funext l;rw[obind_assoc];congr 1;funext ys;rw[bif_bind];rfl
  ·rfl
  ·rfl
 ·intro bs xs r h
  simp only[hListS] at h
  split at h
  ·rename_i f t x g
   replace h:=bif_inv h
   obtain⟨hg,h⟩:=h
   replace h:=bind_some_inv h
   obtain⟨l,hl,h⟩:=h
   replace h:=bind_some_inv h
   obtain⟨ys,hys,h⟩:=h
   replace h:=bif_inv h
   obtain⟨hn,h⟩:=h
   obtain rfl:g=34:=by simpa using hg
   simp only[decide_eq_true_eq] at hn
   have hx:=gRf_ok hl
   refine⟨0,(ls_raw _ _ _ f t hx.isR).trans ?_⟩
   simp only[iRows]
   rw[hl,Option.bind_some,hys,Option.bind_some]
   exact (ls_walk _ _ _ f t hx.isR ys [] (by simpa using hn)).trans h
  ·rename_i f t tb x g
   replace h:=bif_inv h
   obtain⟨hg,h⟩:=h
   replace h:=bind_some_inv h
   obtain⟨l,hl,h⟩:=h
   replace h:=bind_some_inv h
   obtain⟨ys,hys,h⟩:=h
   replace h:=bif_inv h
   obtain⟨hn,h⟩:=h
   obtain rfl:g=55:=by simpa using hg
   simp only[decide_eq_true_eq] at hn
   have hx:=gRf_ok hl
   refine⟨0,(le_raw _ _ _ f t tb hx.isR).trans ?_⟩
   simp only[iEnts]
   rw[hl,Option.bind_some,hys,Option.bind_some]
   exact (le_walk _ _ _ f t tb hx.isR ys [] (by simpa using hn)).trans h
  ·exact⟨0,(ls_nil _ _ _).trans h⟩
  ·cases h
end Go.Proofs.YthjmjoioagocdaaGreatDoor.TS
end
section
set_option maxRecDepth 100000
namespace Go.Proofs.YthjmjoioagocdaaGreatDoor
open Go.RowKit
def hIx:Hints:=⟨[],[(0,⟨[(0,false),(1,false),(7,false),(8,false)],[]⟩)]⟩
def cIn:PV:=.clo 92 []
def frIx (n0:Option Bool)(l0:Nat)(c0:List PV)(L i:Int):St:=frame 19 [(0,(.sl n0 4 l0 c0,0)),(1,(cIn,0)),(7,(.int .i64 L,0)),(8,(.int .i64 i,0))] []
theorem in1_raw (a n b:Int)(s:List UInt8):prun (en []) ⟨[],[]⟩ 0 false Tryz.f92 [.agg [.int .i64 a,.int .i64 n,.int .i64 b,.str s]]=some (.bool (a != 2)):=by kernel_rfl
def p_in1:PFn:=⟨fun xs k=>match xs with|[.agg [.int .i64 a,.int .i64 n,.int .i64 b,.str s]]=>k (.bool (a != 2))|_=>none,false⟩
theorem ok_in1:FOK NGk Tabs 92 p_in1:=by
 refine fok wokk allOK_nil (h:=⟨[],[]⟩) Tryz.func92 rfl (by decide) ?_ ?_
 ·intro R xs k
  simp only[p_in1]
  split<;>rfl
 ·intro xs r h
  simp only[p_in1] at h
  split at h
  ·exact⟨0,(in1_raw _ _ _ _).trans h⟩
  ·cases h
noncomputable def lIx:List (FuncId×PFn):=[(92,p_in1)]
noncomputable def ixLoop (fu n:Nat)(st:St):Option PV:=loopF (en lIx) hIx fu false Tryz.f117 [1,0,1,0] 0 n st
theorem ix_raw (fu:Nat)(n0:Option Bool)(l0:Nat)(c0:List PV):prun (en lIx) hIx fu false Tryz.f117 [.sl n0 4 l0 c0,cIn]=ixLoop fu fu (frIx n0 l0 c0 (l0:Int) 0):=prunN_eq.trans (by kernel_rfl)
theorem ix_step (fu:Nat)(n0:Option Bool)(l0:Nat)(c0:List PV)(L i:Int)(K:St→Option PV) :
  stepF (en lIx) hIx fu false Tryz.f117 [1,0,1,0] (frIx n0 l0 c0 L i) (fun st=>pnorm (hIx.loop.lookup 0) st K) =
  bif decide (i<L) then ixV l0 c0 i fun a _ _ _=>bif a != 2 then some (.int .i64 i) else K (frIx n0 l0 c0 L (IntKind.i64.wrap (i+1))) else some (.int .i64 (-1)):=by kernel_rfl
def notInt:Nat→List Val→Int
 |_,[]=>-1
 |i,v::l=>if v.kind=2 then notInt (i+1) l else (i:Int)
theorem ix_loop (fu:Nat)(n0:Option Bool)(l:List Val)(hl:l.length≤1000000):∀ (k i n:Nat),i+k=l.length→k<n→ixLoop fu n (frIx n0 l.length (valsC l) (l.length:Int) (i:Int))=some (.int .i64 (notInt i (l.drop i)))
 |k,i,0,_,h=>by omega
 |0,i,n+1,hi,hn=>by
  unfold ixLoop
  rw[loopF_succ,ix_step,cond_f (decide_eq_false (by omega)),List.drop_of_length_le (by omega)]
  rfl
 |k+1,i,n+1,hi,hn=>by
  have ih:=ix_loop fu n0 l hl k (i+1) n (by omega) (by omega)
  have hc:=List.getElem?_eq_getElem (l:=l) (i:=i) (by omega)
  unfold ixLoop at ih ⊢
  rw[loopF_succ,ix_step,cond_t (decide_eq_true (by omega)),ixV_eq hc,wrapI_of (by omega) (by omega),List.drop_eq_getElem_cons (show i<l.length by omega)]
  simp only[notInt]
  by_cases hx:l[i].kind=2
  ·rw[cond_f (by simpa using hx),if_pos hx]
   exact ih
  ·rw[cond_t (by simpa using hx),if_neg hx]
def p_ixf:PFn:=⟨fun xs k=>match xs with|[.sl _ 4 n c,.clo g []]=>bif g==92 then (decV n c).bind fun l=>bif decide (l.length≤1000000) then k (.int .i64 (notInt 0 l)) else none else none|_=>none,false⟩
theorem ok_ixf:FOK NGk Tabs 117 p_ixf:=by
 refine fok wokk (allOK_cons ok_in1 allOK_nil) (h:=hIx) Tryz.func117 rfl (by decide) ?_ ?_
 ·intro R xs k
  simp only[p_ixf]
  split
  ·rename_i nl n c g
   cases g==92
   ·rfl
   ·exact bindV_nat
  ·rfl
 ·intro xs r h
  simp only[p_ixf] at h
  split at h
  ·rename_i nl n c g
   rcases hg:g==92 with _|_<;>rw[hg] at h
   ·cases h
   obtain rfl:g=92:=by simpa using hg
   rw[cond_true] at h
   obtain⟨l,h1,hb,rfl⟩:=bindV_inv h
   obtain⟨rfl,rfl⟩:=decV_inv h1
   simp only[decide_eq_true_eq] at hb
   exact⟨l.length+1,(ix_raw _ nl _ _).trans (ix_loop _ nl l hb l.length 0 _ (by omega) (by omega))⟩
  ·cases h
theorem cf_raw (n0:Option Bool)(l0:Nat)(c0:List PV):prun (en [(117,p_ixf)]) ⟨[],[]⟩ 0 false Tryz.f91 [.sl n0 4 l0 c0,cIn]=(decV l0 c0).bind fun l=>bif decide (l.length≤1000000) then some (.bool (decide (0≤notInt 0 l))) else none:=by kernel_rfl
def p_cf:PFn:=⟨fun xs k=>match xs with|[.sl _ 4 n c,.clo g []]=>bif g==92 then (decV n c).bind fun l=>bif decide (l.length≤1000000) then k (.bool (decide (0≤notInt 0 l))) else none else none|_=>none,false⟩
theorem ok_cf:FOK NGk Tabs 91 p_cf:=by
 refine fok wokk (allOK_cons ok_ixf allOK_nil) (h:=⟨[],[]⟩) Tryz.func91 rfl (by decide) ?_ ?_
 ·intro R xs k
  simp only[p_cf]
  split
  ·rename_i nl n c g
   cases g==92
   ·rfl
   ·exact bindV_nat
  ·rfl
 ·intro xs r h
  simp only[p_cf] at h
  split at h
  ·rename_i nl n c g
   rcases hg:g==92 with _|_<;>rw[hg] at h
   ·cases h
   obtain rfl:g=92:=by simpa using hg
   exact⟨0,(cf_raw nl n c).trans h⟩
  ·cases h
def isIntV (v:Val):Bool:=v.kind==2
theorem notInt_all:∀ (l:List Val) (i:Nat),(decide (0≤notInt i l))=!(l.all isIntV)
 |[],i=>rfl
 |v::l,i=>by
  rw[List.all_cons]
  by_cases h:v.kind=2
  ·have e:notInt i (v::l)=notInt (i+1) l:=by simp only[notInt];exact if_pos h
   rw[e,notInt_all l (i+1),show isIntV v=true by simp[isIntV,h],Bool.true_and]
  ·have e:notInt i (v::l)=(i:Int):=by simp only[notInt];exact if_neg h
   rw[e,show isIntV v=false by simp[isIntV,h],Bool.false_and]
   exact decide_eq_true (by omega)
theorem it_raw (n0:Option Bool)(l0:Nat)(c0:List PV):prun (en [(91,p_cf)]) ⟨[],[]⟩ 0 false Tryz.f67 [.sl n0 4 l0 c0]=(decV l0 c0).bind fun l=>bif decide (l.length≤1000000) then some (.bool (!decide (0≤notInt 0 l))) else none:=by kernel_rfl
def p_ints:PFn:=⟨fun xs k=>match xs with|[.sl _ 4 n c]=>(decV n c).bind fun l=>bif decide (l.length≤1000000) then k (.bool (l.all isIntV)) else none|_=>none,false⟩
theorem ok_ints:FOK NGk Tabs 67 p_ints:=by
 refine fok wokk (allOK_cons ok_cf allOK_nil) (h:=⟨[],[]⟩) Tryz.func67 rfl (by decide) ?_ ?_
 ·intro R xs k
  simp only[p_ints]
  split
  ·exact bindV_nat
  ·rfl
 ·intro xs r h
  simp only[p_ints] at h
  split at h
  ·rename_i nl n c
   obtain⟨l,h1,hb,rfl⟩:=bindV_inv h
   refine⟨0,(it_raw nl n c).trans ?_⟩
   rw[h1,Option.bind_some,cond_t hb,notInt_all,Bool.not_not]
  ·cases h
def mkV (m:List UInt8)(s:List UInt8):Option (List Val):=bif s.take 1==m then getV (s.drop 1) else none
def gtO (o:Option (List Val)):PV:=gtV (o.getD []) o.isSome
def nilV:PV:=.tuple [.sl (some true) 4 0 [],.bool false]
def kgO {R:Type}(n:Nat)(c:List PV)(K:PV→Option R):Option R:=(decY n c).bind fun l=>bif decide (l.length≤1000000) then K (gtV ((getV l).getD []) (getV l).isSome) else none
theorem mk_raw (s m:List UInt8):prun (en [(90,p_KeysGet)]) ⟨[],[]⟩ 0 false Tryz.f66 [.str s,.str m] =
  bif !decide ((s.length:Int)<1) then bif decide ((0:Int)≤1)&&decide ((1:Int)≤(s.length:Int)) then bif ((s.take (1:Int).toNat).drop 0) != m then some nilV else
   bif decide ((0:Int)≤1)&&decide ((1:Int)≤(s.length:Int)) then bif decide (((s.take s.length).drop (1:Int).toNat).length≤9223372036854775807) then kgO ((s.take s.length).drop (1:Int).toNat).length (bC ((s.take s.length).drop (1:Int).toNat)) some else none else none else none else some nilV:=by kernel_rfl
def p_marked:PFn:=⟨fun xs k=>match xs with|[.str s,.str m]=>bif decide (s.length≤1000000)&&decide (m.length=1) then k (gtO (mkV m s)) else none|_=>none,false⟩
theorem ok_marked:FOK NGk Tabs 66 p_marked:=by
 refine fok wokk (allOK_cons ok_KeysGet allOK_nil) (h:=⟨[],[]⟩) Tryz.func66 rfl (by decide) ?_ ?_
 ·intro R xs k
  simp only[p_marked]
  split
  ·exact cond_nat
  ·rfl
 ·intro xs r h
  simp only[p_marked] at h
  split at h
  ·rename_i s m
   rcases hb:(decide (s.length≤1000000)&&decide (m.length=1)) with _|_<;>rw[hb] at h
   ·cases h
   simp only[Bool.and_eq_true,decide_eq_true_eq] at hb
   rw[cond_true] at h
   refine⟨0,(mk_raw s m).trans ?_⟩
   rw[← h]
   unfold mkV
   by_cases h1:s.length<1
   ·rw[decide_eq_true (show ((s.length:Int)<1) by omega)]
    have:s=[]:=List.length_eq_zero_iff.1 (by omega)
    subst this
    rw[show (List.take 1 ([]:List UInt8)==m)=false from beq_eq_false_iff_ne.2 (by rintro rfl;simp at hb)]
    rfl
   ·rw[decide_eq_false (show ¬ ((s.length:Int)<1) by omega)]
    simp only[Bool.not_false,cond_true]
    rw[cond_t (show (decide ((0:Int)≤1)&&decide ((1:Int)≤(s.length:Int)))=true by rw[decide_eq_true (by omega),decide_eq_true (by omega)];rfl)]
    rw[show ((s.take (1:Int).toNat).drop 0 != m)=!(s.take 1==m) from rfl]
    rcases s.take 1==m with _|_
    ·rfl
    ·simp only[Bool.not_true,cond_false,cond_true]
     rw[cond_t (show (decide ((0:Int)≤1)&&decide ((1:Int)≤(s.length:Int)))=true by rw[decide_eq_true (by omega),decide_eq_true (by omega)];rfl),List.take_length,cond_t (decide_eq_true (by simp;omega))]
     unfold kgO
     rw[decY_bC,Option.bind_some,cond_t (decide_eq_true (by simp;omega))]
     rfl
  ·cases h
def rowO:Option (List Val)→Int×Int×Bool
 |some [a,b]=>if a.kind=2∧b.kind=2 then (a.n,b.n,true) else (0,0,false)
 |_=>(0,0,false)
def rowK (s:List UInt8):Int×Int×Bool:=rowO (mkV [114] s)
def fldI {R:Type}(n:Nat)(c:List PV)(i:Int)(f:Nat)(K:Int→Option R):Option R:=bif decide (0≤i)&&decide (i<(n:Int)) then (((c.drop (i.toNat * 4)).take 4).drop f).head?.bind fun v=>(PV.asInt .i64 v).bind K else none
theorem fldI_n {R:Type}{l:List Val}{i:Nat}{x:Val}{K:Int→Option R}(h:l[i]? = some x):fldI l.length (valsC l) (i:Int) 1 K=K x.n:=by
 have:=(List.getElem?_eq_some_iff.1 h).1
 unfold fldI
 rw[cond_t (by rw[decide_eq_true (by omega),decide_eq_true (by omega)];rfl),Int.toNat_natCast,vals_at h]
 rfl
def itO {R:Type}(n:Nat)(c:List PV)(K:Bool→Option R):Option R:=(decV n c).bind fun l=>bif decide (l.length≤1000000) then K (l.all isIntV) else none
theorem itO_eq {R:Type}{l:List Val}{K:Bool→Option R}(h:l.length≤1000000):itO l.length (valsC l) K=K (l.all isIntV):=by
 unfold itO
 rw[decV_vals]
 exact cond_t (decide_eq_true h)
def no3:PV:=.tuple [.int .i64 0,.int .i64 0,.bool false]
def mkO {R:Type}(m s:List UInt8)(K:List Val→Bool→Option R):Option R:=bif decide (s.length≤1000000)&&decide (m.length=1) then K ((mkV m s).getD []) (mkV m s).isSome else none
def rwO (vs:List Val)(ok:Bool):Option PV :=
 bif !(!ok) then bif !(((vs.length:Nat):Int) != 2) then itO vs.length (valsC vs) fun b=>bif !b then some no3 else fldI vs.length (valsC vs) 0 1 fun x=>fldI vs.length (valsC vs) 1 1 fun y=>some (.tuple [.int .i64 x,.int .i64 y,.bool true]) else some no3 else some no3
theorem ro_raw (s:List UInt8):prun (en [(66,p_marked),(67,p_ints)]) ⟨[],[]⟩ 0 false Tryz.f37 [.str s]=mkO [114] s rwO:=by kernel_rfl
def rowP3 (a:Int×Int×Bool):PV:=.tuple [.int .i64 a.1,.int .i64 a.2.1,.bool a.2.2]
theorem rwO_eq {vs:List Val}{o:Option (List Val)}(hvs:vs=o.getD [])(hl:vs.length≤1000000):rwO vs o.isSome=some (rowP3 (rowO o)):=by
 unfold rwO
 match o,hvs with
 |none,_=>rfl
 |some [],hvs=>subst hvs;rfl
 |some [a],hvs=>subst hvs;rfl
 |some (a::b::c::l),hvs =>
  subst hvs
  rw[cond_t (by rfl),cond_f (by simp only[Option.getD_some,List.length_cons,Bool.not_eq_false'];rw[bne_iff_ne];omega)]
  rfl
 |some [a,b],hvs =>
  subst hvs
  simp only[Option.getD_some] at hl ⊢
  rw[cond_t (by rfl),cond_t (by rfl),itO_eq hl]
  have e0:([a,b]:List Val)[0]? = some a:=rfl
  have e1:([a,b]:List Val)[1]? = some b:=rfl
  by_cases h:a.kind=2∧b.kind=2
  ·simp only[rowO]
   rw[if_pos h,show ([a,b].all isIntV)=true by simp[isIntV,h.1,h.2]]
   rw[Bool.not_true,cond_false]
   refine (fldI_n (i:=0) e0).trans ?_
   exact fldI_n (i:=1) e1
  ·simp only[rowO]
   rw[if_neg h,show ([a,b].all isIntV)=false by
    simp only[List.all_cons,List.all_nil,Bool.and_true,isIntV,Bool.and_eq_false_iff,beq_eq_false_iff_ne,ne_eq]
    by_cases ha:a.kind=2
    ·exact .inr fun hb=>h ⟨ha,hb⟩
    ·exact .inl ha]
   rfl
theorem getV_length:∀ {l:List UInt8} {vs:List Val},getV l=some vs→vs.length≤l.length:=by
 intro l
 induction h:l.length using Nat.strongRecOn generalizing l with
 |ind n ih =>
  intro vs hv
  match l,h with
  |[],h =>
   rw[getV_nil] at hv
   injection hv with hv
   subst hv
   simp
  |b::l,h =>
   rw[getV_step (by simp)] at hv
   rcases hn:nextV (b::l) with _|⟨x,r⟩
   ·rw[hn] at hv;cases hv
   ·rw[hn] at hv
    have hr:=nextV_len hn
    obtain⟨ws,hw,rfl⟩:=Option.map_eq_some_iff.1 hv
    have:=ih r.length (by omega) rfl hw
    rw[List.length_cons]
    omega
theorem mkV_len {m s:List UInt8}:((mkV m s).getD []).length≤s.length:=by
 unfold mkV
 cases s.take 1==m with
 |false=>simp
 |true =>
  rw[cond_true]
  rcases h:getV (s.drop 1) with _|vs
  ·simp
  ·have:=getV_length h
   simp at this ⊢
   omega
def keyL (t i:Int):List UInt8:=114::encs [numV t,numV i]
noncomputable def lKy:List (FuncId×PFn):=[(64,p_numV),(49,p_KeysPut)]
theorem ky_raw (t i:Int):prun (en lKy) ⟨[],[]⟩ 0 false Tryz.f58 [.int .i64 t,.int .i64 i]=putO 2 (valsC [numV t,numV i]) fun y=>(pbytes (bC y)).bind fun s=>catO [114] s (some (.str (114::s))):=by kernel_rfl
theorem ok_Key:FOK NGk Tabs 58 (TS.tKey fun t i=>some (keyL t i)):=by
 refine fok wokk (allOK_cons ok_numV (allOK_cons ok_KeysPut allOK_nil)) (h:=⟨[],[]⟩) Tryz.func58 rfl (by decide) (TS.tKey_nat _) ?_
 intro xs r h
 simp only[TS.tKey] at h
 split at h
 ·rename_i t i
  refine⟨0,(ky_raw t i).trans ?_⟩
  have hle:=encs_length [numV t,numV i]
  refine (putO_eq (vs:=[numV t,numV i]) (by simp)).trans ?_
  rw[pbytes_bC,Option.bind_some,catO_eq (by simp at hle ⊢;omega)]
  exact h
 ·cases h
def tblF (t:Int):List UInt8:=114::encs [numV t]
theorem rs_raw (t:Int):prun (en [(64,p_numV),(49,p_KeysPut),(63,p_span)]) ⟨[],[]⟩ 0 false Tryz.f33 [.int .i64 t]=putO 1 (valsC [numV t]) fun y=>(pbytes (bC y)).bind fun s=>catO [114] s (spO (114::s) fun a=>some (.tuple [.str (114::s),.str a])):=by kernel_rfl
def p_Rows:PFn:=⟨fun xs k=>match xs with|[.int .i64 t]=>k (.tuple [.str (tblF t),.str (aboveL (tblF t))])|_=>none,false⟩
theorem ok_Rows:FOK NGk Tabs 33 p_Rows:=by
 refine fok wokk (allOK_cons ok_numV (allOK_cons ok_KeysPut (allOK_cons ok_span allOK_nil))) (h:=⟨[],[]⟩) Tryz.func33 rfl (by decide) ?_ ?_
 ·intro R xs k
  simp only[p_Rows]
  split<;>rfl
 ·intro xs r h
  simp only[p_Rows] at h
  split at h
  ·rename_i t
   refine⟨0,(rs_raw t).trans ?_⟩
   have hle:=encs_length [numV t]
   refine (putO_eq (vs:=[numV t]) (by simp)).trans ?_
   rw[pbytes_bC,Option.bind_some,catO_eq (by simp at hle ⊢;omega),spO,cond_t (decide_eq_true (by simp at hle ⊢;omega))]
   exact h
  ·cases h
def parO:Option (List Val)→TS.EntC
 |some (a::b::c::l)=>if l≠[]∧a.kind=2∧b.kind=2∧((c::l).getLastD c).kind=2 then (a.n,b.n,(some false,l.length,valsC ((c::l).dropLast)),((c::l).getLastD c).n,true) else (0,0,(some true,0,[]),0,false)
 |_=>(0,0,(some true,0,[]),0,false)
def no5:PV:=.tuple [.int .i64 0,.int .i64 0,.sl (some true) 4 0 [],.int .i64 0,.bool false]
def paR (vs:List Val):Option PV :=
 fldI vs.length (valsC vs) 0 1 fun x=>fldI vs.length (valsC vs) 1 1 fun y =>
  bif decide (0≤IntKind.i64.wrap ((vs.length:Int)-1))&&decide (IntKind.i64.wrap ((vs.length:Int)-1)≤(vs.length:Int)) then
  bif decide (0≤IntKind.i64.wrap ((vs.length:Int)-1))&&decide (IntKind.i64.wrap ((vs.length:Int)-1)≤((IntKind.i64.wrap ((vs.length:Int)-1)).toNat:Int)) then
  bif decide ((0:Int)≤2)&&decide ((2:Int)≤((IntKind.i64.wrap ((vs.length:Int)-1)).toNat:Int)) then
  fldI vs.length (valsC vs) (IntKind.i64.wrap ((vs.length:Int)-1)) 1 fun z =>
   some (.tuple [.int .i64 x,.int .i64 y,.sl (some vs.isEmpty) 4 ((IntKind.i64.wrap ((vs.length:Int)-1)).toNat-(2:Int).toNat) (((valsC vs).take ((IntKind.i64.wrap ((vs.length:Int)-1)).toNat * 4)).drop ((2:Int).toNat * 4)),.int .i64 z,.bool true])
  else none else none else none
def paO (vs:List Val)(ok:Bool):Option PV :=
 bif !(!ok) then bif !decide (((vs.length:Nat):Int)<4) then
  ixV vs.length (valsC vs) 0 fun a0 n0 b0 s0=>ixV vs.length (valsC vs) 1 fun a1 n1 b1 s1=>ixV vs.length (valsC vs) (IntKind.i64.wrap ((vs.length:Int)-1)) fun a2 n2 b2 s2 =>
   itO 3 [.int .i64 a0,.int .i64 n0,.int .i64 b0,.str s0,.int .i64 a1,.int .i64 n1,.int .i64 b1,.str s1,.int .i64 a2,.int .i64 n2,.int .i64 b2,.str s2] fun b=>bif !b then some no5 else paR vs
  else some no5 else some no5
theorem pa_raw (s:List UInt8):prun (en [(66,p_marked),(67,p_ints)]) ⟨[],[]⟩ 0 false Tryz.f56 [.str s]=mkO [105] s paO:=by kernel_rfl
theorem valsC_take:∀ (vs:List Val) (n:Nat),(valsC vs).take (n * 4)=valsC (vs.take n)
 |[],n=>by simp[valsC]
 |v::vs,0=>by simp[valsC]
 |v::vs,n+1=>by
  show (V4.cs v++valsC vs).take _=V4.cs v++valsC (vs.take n)
  rw[show (n+1) * 4=(V4.cs v).length+n * 4 by simp only[V4.cs,List.length_cons,List.length_nil];omega,List.take_length_add_append,valsC_take vs n]
theorem valsC_drop:∀ (vs:List Val) (n:Nat),(valsC vs).drop (n * 4)=valsC (vs.drop n)
 |[],n=>by simp[valsC]
 |v::vs,0=>by simp[valsC]
 |v::vs,n+1=>by
  show (V4.cs v++valsC vs).drop _=valsC (vs.drop n)
  rw[show (n+1) * 4=(V4.cs v).length+n * 4 by simp only[V4.cs,List.length_cons,List.length_nil];omega,← List.drop_drop,List.drop_left,valsC_drop vs n]
def entP5 (a:TS.EntC):PV:=.tuple [.int .i64 a.1,.int .i64 a.2.1,.sl a.2.2.1.1 4 a.2.2.1.2.1 a.2.2.1.2.2,.int .i64 a.2.2.2.1,.bool a.2.2.2.2]
theorem paO_eq {vs:List Val}{o:Option (List Val)}(hvs:vs=o.getD [])(hl:vs.length≤1000000):paO vs o.isSome=some (entP5 (parO o)):=by
 unfold paO
 match o,hvs with
 |none,_=>rfl
 |some [],hvs=>subst hvs;rfl
 |some [a],hvs=>subst hvs;rfl
 |some [a,b],hvs=>subst hvs;rfl
 |some [a,b,c],hvs=>subst hvs;rfl
 |some (a::b::c::d::l),hvs =>
  subst hvs
  simp only[Option.getD_some] at hl ⊢
  rw[cond_t (by rfl),cond_t (by simp only[Bool.not_eq_true',decide_eq_false_iff_not,List.length_cons];omega)]
  have hlen:(a::b::c::d::l).length=l.length+4:=rfl
  have hp:parO (some (a::b::c::d::l))=if d::l≠[]∧a.kind=2∧b.kind=2∧((c::d::l).getLastD c).kind=2 then (a.n,b.n,(some false,(d::l).length,valsC ((c::d::l).dropLast)),((c::d::l).getLastD c).n,true) else (0,0,(some true,0,[]),0,false):=rfl
  rw[hp]
  generalize hV:(a::b::c::d::l)=V at hl hlen ⊢
  have e0:V[0]? = some a:=by rw[← hV];rfl
  have e1:V[1]? = some b:=by rw[← hV];rfl
  have hw:IntKind.i64.wrap ((V.length:Int)-1)=((l.length+3:Nat):Int):=by rw[wrapI_of (by omega) (by omega)];omega
  have ez:V[l.length+3]? = some ((c::d::l).getLastD c):=by
   rw[← hV]
   show (d::l)[l.length]? = _
   rw[List.getLastD_cons,List.getLastD_cons,List.getLastD_eq_getLast?,← List.getLast?_cons,List.getLast?_eq_getElem?]
   rfl
  refine (ixV_eq (i:=0) e0).trans ?_
  refine (ixV_eq (i:=1) e1).trans ?_
  rw[hw]
  refine (ixV_eq ez).trans ?_
  refine (itO_eq (l:=[a,b,(c::d::l).getLastD c]) (by simp)).trans ?_
  by_cases h:a.kind=2∧b.kind=2∧((c::d::l).getLastD c).kind=2
  ·rw[if_pos ⟨by simp,h⟩,show ([a,b,(c::d::l).getLastD c].all isIntV)=true by simp only[List.all_cons,List.all_nil,isIntV,h.1,h.2.1,h.2.2];rfl]
   rw[Bool.not_true,cond_false]
   unfold paR
   refine (fldI_n (i:=0) e0).trans ?_
   refine (fldI_n (i:=1) e1).trans ?_
   rw[hw,cond_t (by rw[decide_eq_true (by omega),decide_eq_true (by omega)];rfl),cond_t (by rw[decide_eq_true (by omega),decide_eq_true (by omega)];rfl),cond_t (by rw[decide_eq_true (by omega),decide_eq_true (by omega)];rfl)]
   refine (fldI_n ez).trans ?_
   rw[Int.toNat_natCast,show ((2:Int).toNat)=2 from rfl,valsC_take,valsC_drop]
   have em:(V.take (l.length+3)).drop 2=(c::d::l).dropLast:=by
    rw[← hV,List.dropLast_eq_take]
    rfl
   have ei:V.isEmpty=false:=by rw[← hV];rfl
   rw[em,ei]
   rfl
  ·rw[if_neg (fun k=>h k.2),show ([a,b,(c::d::l).getLastD c].all isIntV)=false by
    rw[Bool.eq_false_iff]
    intro k
    simp only[List.all_cons,List.all_nil,isIntV,Bool.and_true,Bool.and_eq_true,beq_iff_eq] at k
    exact h k]
   rfl
def parK (s:List UInt8):TS.EntC:=parO (mkV [105] s)
theorem ok_Parse:FOK NGk Tabs 56 (TS.tParse fun s=>bif decide (s.length≤1000000) then some (parK s) else none):=by
 refine fok wokk (allOK_cons ok_marked (allOK_cons ok_ints allOK_nil)) (h:=⟨[],[]⟩) Tryz.func56 rfl (by decide) (TS.tParse_nat _) ?_
 intro xs r h
 simp only[TS.tParse] at h
 split at h
 ·rename_i s
  rcases hb:decide (s.length≤1000000) with _|_<;>rw[hb] at h
  ·cases h
  refine⟨0,(pa_raw s).trans ?_⟩
  unfold mkO
  rw[hb]
  simp only[decide_eq_true_eq] at hb
  exact (paO_eq rfl (by have:=mkV_len (m:=[105]) (s:=s);omega)).trans h
 ·cases h
theorem ok_Row:FOK NGk Tabs 37 (TS.tRow fun s=>bif decide (s.length≤1000000) then some (rowK s) else none):=by
 refine fok wokk (allOK_cons ok_marked (allOK_cons ok_ints allOK_nil)) (h:=⟨[],[]⟩) Tryz.func37 rfl (by decide) (TS.tRow_nat _) ?_
 intro xs r h
 simp only[TS.tRow] at h
 split at h
 ·rename_i s
  rcases hb:decide (s.length≤1000000) with _|_<;>rw[hb] at h
  ·cases h
  refine⟨0,(ro_raw s).trans ?_⟩
  unfold mkO
  rw[hb]
  simp only[decide_eq_true_eq] at hb
  exact (rwO_eq rfl (by have:=mkV_len (m:=[114]) (s:=s);omega)).trans h
 ·cases h
end Go.Proofs.YthjmjoioagocdaaGreatDoor
end
section
set_option maxRecDepth 100000
namespace Go.Proofs.YthjmjoioagocdaaGreatDoor.TS
open Go.RowKit
def h00:Hints:=⟨[],[]⟩
noncomputable def hFail:HFn:=hE0 Tryz.f118
theorem ok_hFail:HOK NGt Wt 118 hFail:=hE0_ok Tryz.func118 rfl (by decide)
noncomputable def hTakeR:HFn:=evalH [] [(118,hFail)] [] h0 9 Tryz.f119
theorem ok_hTakeR:HOK NGt Wt 119 hTakeR:=evalH_ok wokt allOK_nil (allH_cons ok_hFail allH_nil) allI_nil Tryz.func119 rfl (by decide)
def hNumK:Hints:=⟨[],[(0,⟨[(3,false),(7,false),(63,false),(64,false),(65,false)],[83]⟩)]⟩
noncomputable def hNumR:HFn:=evalH [] [(119,hTakeR),(118,hFail)] [] hNumK 20 Tryz.f95
theorem ok_hNumR:HOK NGt Wt 95 hNumR:=evalH_ok wokt allOK_nil (allH_cons ok_hTakeR (allH_cons ok_hFail allH_nil)) allI_nil Tryz.func95 rfl (by decide)
noncomputable def hCountR:HFn:=evalH [] [(95,hNumR),(118,hFail)] [] h0 9 Tryz.f94
theorem ok_hCountR:HOK NGt Wt 94 hCountR:=evalH_ok wokt allOK_nil (allH_cons ok_hNumR (allH_cons ok_hFail allH_nil)) allI_nil Tryz.func94 rfl (by decide)
noncomputable def hOKR:HFn:=hE0 Tryz.f123
theorem ok_hOKR:HOK NGt Wt 123 hOKR:=hE0_ok Tryz.func123 rfl (by decide)
noncomputable def hEndR:HFn:=evalH [] [(123,hOKR)] [] h0 9 Tryz.f97
theorem ok_hEndR:HOK NGt Wt 97 hEndR:=evalH_ok wokt allOK_nil (allH_cons ok_hOKR allH_nil) allI_nil Tryz.func97 rfl (by decide)
noncomputable def hFlagR:HFn:=evalH [] [(94,hCountR)] [] h0 9 Tryz.f121
theorem ok_hFlagR:HOK NGt Wt 121 hFlagR:=evalH_ok wokt allOK_nil (allH_cons ok_hCountR allH_nil) allI_nil Tryz.func121 rfl (by decide)
noncomputable def hTextR:HFn:=evalH [] [(123,hOKR),(95,hNumR),(119,hTakeR)] [] h0 9 Tryz.f122
theorem ok_hTextR:HOK NGt Wt 122 hTextR:=evalH_ok wokt allOK_nil (allH_cons ok_hOKR (allH_cons ok_hNumR (allH_cons ok_hTakeR allH_nil))) allI_nil Tryz.func122 rfl (by decide)
noncomputable def v_bool:PFn:=evalFn [] h0 9 Tryz.f120
theorem ok_vbool:FOK NGt Wt 120 v_bool:=evalFn_ok wokt allOK_nil Tryz.func120 rfl (by decide)
noncomputable def hGetV:HFn:=evalH [(120,v_bool)] [(95,hNumR),(121,hFlagR),(122,hTextR)] [] h0 9 Tryz.f96
theorem ok_hGetV:HOK NGt Wt 96 hGetV:=evalH_ok wokt (allOK_cons ok_vbool allOK_nil) (allH_cons ok_hNumR (allH_cons ok_hFlagR (allH_cons ok_hTextR allH_nil))) allI_nil Tryz.func96 rfl (by decide)
noncomputable def hReadR:HFn:=evalH [(80,p_clone)] [] [] h0 9 Tryz.f93
theorem ok_hReadR:HOK NGt Wt 93 hReadR:=evalH_ok wokt (allOK_cons ok_clone allOK_nil) allH_nil allI_nil Tryz.func93 rfl (by decide)
noncomputable def v_rright:PFn:=evalFn [(109,p_rightV)] h0 9 Tryz.f124
theorem ok_vrright:FOK NGt Wt 124 v_rright:=evalFn_ok wokt (allOK_cons ok_rightV allOK_nil) Tryz.func124 rfl (by decide)
def hRRi:Hints:=⟨[],[(0,⟨[(0,false),(5,false),(6,false),(7,false)],[]⟩)]⟩
noncomputable def v_rowRight:PFn:=evalFn [(124,v_rright)] hRRi 60 Tryz.f98
theorem ok_vrowRight:FOK NGt Wt 98 v_rowRight:=evalFn_ok wokt (allOK_cons ok_vrright allOK_nil) Tryz.func98 rfl (by decide)
def hPaR:Hints:=⟨[],[(0,⟨[(4,false),(5,true),(12,false),(13,false)],[8]⟩)]⟩
noncomputable def lhPaR:List (FuncId×HFn):=[(93,hReadR),(94,hCountR),(95,hNumR),(96,hGetV),(97,hEndR)]
noncomputable def v_rowParse:PFn:=evalFH [(98,v_rowRight)] lhPaR [] hPaR 60 Tryz.f68
theorem ok_lhPaR:AllH NGt Wt lhPaR:=allH_cons ok_hReadR (allH_cons ok_hCountR (allH_cons ok_hNumR (allH_cons ok_hGetV (allH_cons ok_hEndR allH_nil))))
theorem ok_vrowParse:FOK NGt Wt 68 v_rowParse:=evalFH_ok wokt (allOK_cons ok_vrowRight allOK_nil) ok_lhPaR allI_nil Tryz.func68 rfl (by decide)
noncomputable def v_rowOf:PFn:=evalFn [(68,v_rowParse)] h0 9 Tryz.f38
theorem ok_vrowOf:FOK NGt Wt 38 v_rowOf:=evalFn_ok wokt (allOK_cons ok_vrowParse allOK_nil) Tryz.func38 rfl (by decide)
def decRO:PV→Option (RowC×Int)
 | .tuple [.agg [.int .i64 i,.sl nl 5 n c],.int .i64 e]=>some ((i,nl,n,c),e)
 |_=>none
theorem decRO_inv {v:PV}{a:RowC×Int}(h:decRO v=some a):v=.tuple [rowP a.1,.int .i64 a.2]:=by
 unfold decRO at h
 split at h
 ·injection h with h;subst h;rfl
 ·cases h
noncomputable def goC (i:Int)(s:Ky):Option (RowC×Int):=(v_rowOf.F (R:=PV) [.int .i64 i,.str s] some).bind decRO
theorem ok_goC:FOK NGt Wt 38 (tRowOf goC):=by
 refine fok_at ok_vrowOf (tRowOf_nat _) rfl ?_
 intro xs r h
 simp only[tRowOf] at h
 split at h
 ·unfold goC at h
  obtain⟨a,ha,h⟩:=bind_some_inv h
  obtain⟨v,hv,ha⟩:=bind_some_inv ha
  rw[decRO_inv ha] at hv
  exact hv.trans h
 ·cases h
def gRowK (s:Ky):Option (Int×Int×Bool):=bif decide (s.length≤1000000) then some (rowK s) else none
def gParK (s:Ky):Option EntC:=bif decide (s.length≤1000000) then some (parK s) else none
def gKeyK (t i:Int):Option Ky:=some (keyL t i)
noncomputable def hListC:HFn:=hListS gRowK gParK gKeyK gGe goC
theorem ok_hListC:HOK NGt Wt 10 hListC:=ok_list ok_Row ok_Parse ok_Key ok_goC ok_get
def hLaK:Hints:=⟨[],[(0,⟨[(3,false),(7,false),(8,false),(9,false)],[6]⟩)]⟩
noncomputable def lhLa:List (FuncId×HFn):=[(39,hNew),(40,hTPut gPuA)]
theorem ok_lhLa:AllH NGt Wt lhLa:=allH_cons ok_new (allH_cons ok_tput allH_nil)
noncomputable def hLaidC:HFn:=evalH [] lhLa [] hLaK 60 Tryz.f12
theorem ok_hLaidC:HOK NGt Wt 12 hLaidC:=evalH_ok wokt allOK_nil ok_lhLa allI_nil Tryz.func12 rfl (by decide)
noncomputable def v_n29:PFn:=evalFn [] h0 9 Tryz.f29
theorem ok_vn29:FOK NGt Wt 29 v_n29:=evalFn_ok wokt allOK_nil Tryz.func29 rfl (by decide)
noncomputable def v_n51:PFn:=evalFn [] h0 9 Tryz.f51
theorem ok_vn51:FOK NGt Wt 51 v_n51:=evalFn_ok wokt allOK_nil Tryz.func51 rfl (by decide)
noncomputable def v_rkey:PFn:=evalFn [(51,v_n51),(60,p_RPut)] h0 9 Tryz.f31
theorem ok_vrkey:FOK NGt Wt 31 v_rkey:=evalFn_ok wokt (allOK_cons ok_vn51 (allOK_cons ok_RPut allOK_nil)) Tryz.func31 rfl (by decide)
def hNuR:Hints:=⟨[],[(0,⟨[(0,false),(3,false),(4,false)],[]⟩)]⟩
noncomputable def v_rnum:PFn:=evalFn [] hNuR 20 Tryz.f61
theorem ok_vrnum:FOK NGt Wt 61 v_rnum:=evalFn_ok wokt allOK_nil Tryz.func61 rfl (by decide)
noncomputable def v_rval:PFn:=evalFn [(61,v_rnum)] h0 20 Tryz.f62
theorem ok_vrval:FOK NGt Wt 62 v_rval:=evalFn_ok wokt (allOK_cons ok_vrnum allOK_nil) Tryz.func62 rfl (by decide)
def hRpu:Hints:=⟨[],[(0,⟨[(3,false),(10,false),(11,false),(12,false)],[]⟩)]⟩
noncomputable def v_rput:PFn:=evalFn [(61,v_rnum),(62,v_rval)] hRpu 20 Tryz.f32
theorem ok_vrput:FOK NGt Wt 32 v_rput:=evalFn_ok wokt (allOK_cons ok_vrnum (allOK_cons ok_vrval allOK_nil)) Tryz.func32 rfl (by decide)
def hKvP:Hints:=⟨[],[(0,⟨[(1,false),(2,false),(7,true),(8,false),(11,false),(12,false),(13,false)],[]⟩)]⟩
noncomputable def v_kput:PFn:=evalFn [] hKvP 60 Tryz.f30
theorem ok_vkput:FOK NGt Wt 30 v_kput:=evalFn_ok wokt allOK_nil Tryz.func30 rfl (by decide)
def hEnt:Hints:=⟨[],[(0,⟨[(5,false),(7,false),(22,false),(23,false),(24,false)],[5]⟩)]⟩
noncomputable def v_rent:PFn:=evalFn [(51,v_n51),(46,p_One),(22,p_Values)] hEnt 60 Tryz.f20
theorem ok_vrent:FOK NGt Wt 20 v_rent:=evalFn_ok wokt (allOK_cons ok_vn51 (allOK_cons ok_One (allOK_cons (ok_Values ok_refGet) allOK_nil))) Tryz.func20 rfl (by decide)
noncomputable def v_bounds:PFn:=evalFn [] h0 9 Tryz.f47
theorem ok_vbounds:FOK NGt Wt 47 v_bounds:=evalFn_ok wokt allOK_nil Tryz.func47 rfl (by decide)
noncomputable def lSpn:List (FuncId×PFn):=[(47,v_bounds),(48,p_Span),(49,p_KeysPut),(50,p_Above)]
theorem ok_lSpn:AllOK NGt Wt lSpn:=allOK_cons ok_vbounds (allOK_cons ok_Span (allOK_cons ok_KeysPut (allOK_cons ok_Above allOK_nil)))
noncomputable def v_span:PFn:=evalFn lSpn h0 9 Tryz.f18
theorem ok_vspan:FOK NGt Wt 18 v_span:=evalFn_ok wokt ok_lSpn Tryz.func18 rfl (by decide)
noncomputable def hEnts:HFn:=evalH [(18,v_span)] [] [] h0 9 Tryz.f23
theorem ok_hEnts:HOK NGt Wt 23 hEnts:=evalH_ok wokt (allOK_cons ok_vspan allOK_nil) allH_nil allI_nil Tryz.func23 rfl (by decide)
noncomputable def hRowsC:HFn:=evalH [(33,p_Rows)] [] [] h0 9 Tryz.f11
theorem ok_hRowsC:HOK NGt Wt 11 hRowsC:=evalH_ok wokt (allOK_cons ok_Rows allOK_nil) allH_nil allI_nil Tryz.func11 rfl (by decide)
def hF23:Hints:=⟨[],[(0,⟨[(1,false),(2,false),(12,false),(13,false),(14,false)],[1]⟩)]⟩
noncomputable def lF23:List (FuncId×PFn):=[(29,v_n29),(31,v_rkey),(32,v_rput),(30,v_kput),(20,v_rent)]
theorem ok_lF23:AllOK NGt Wt lF23:=allOK_cons ok_vn29 (allOK_cons ok_vrkey (allOK_cons ok_vrput (allOK_cons ok_vkput (allOK_cons ok_vrent allOK_nil))))
noncomputable def lhF23:List (FuncId×HFn):=[(12,hLaidC),(11,hRowsC),(23,hEnts),(10,hListC)]
theorem ok_lhF23:AllH NGt Wt lhF23:=allH_cons ok_hLaidC (allH_cons ok_hRowsC (allH_cons ok_hEnts (allH_cons ok_hListC allH_nil)))
theorem first23_true:prun (enH lF23 lhF23 []) hF23 60 false Tryz.f7 []=some (.bool true):=by kernel_rfl
def p_first23:PFn:=⟨fun xs k=>match xs with|[]=>k (.bool true)|_=>none,false⟩
theorem ok_first23:FOK NGt Wt 7 p_first23:=by
 refine fokH wokt ok_lF23 ok_lhF23 allI_nil (h:=hF23) Tryz.func7 rfl (by decide) ?_ ?_
 ·intro R xs k
  simp only[p_first23]
  split<;>rfl
 ·intro xs r h
  simp only[p_first23] at h
  split at h
  ·exact⟨60,first23_true.trans h⟩
  ·cases h
end Go.Proofs.YthjmjoioagocdaaGreatDoor.TS
end
section
set_option maxRecDepth 100000
namespace Go.Proofs.YthjmjoioagocdaaGreatDoor
open Go.RowKit
structure Idx where
 id:Int
 name:List UInt8
 nl:Option Bool
 cols:List Int
 u:Bool
 st:Int
def idxC (x:Idx):List PV:=[.int .i64 x.id,.str x.name,.sl x.nl 1 x.cols.length (colC x.cols),.bool x.u,.int .i64 x.st]
def idxG:List PV→Option Idx
 |[.int .i64 a,.str s,.sl nl 1 n c,.bool u,.int .i64 st]=>(decG 1 intG n c).map fun l=>⟨a,s,nl,l,u,st⟩
 |_=>none
theorem idxG_of (x:Idx):idxG (idxC x)=some x:=by
 show (decG 1 intG x.cols.length (colC x.cols)).map _=_
 rw[colC,decG_of (f:=fun j=>[PV.int .i64 j]) (sz:=1) (fun _=>rfl) (fun _=>rfl)]
 rfl
theorem idxG_inv (l:List PV)(x:Idx)(h:idxG l=some x):l=idxC x:=by
 unfold idxG at h
 split at h
 ·obtain⟨c,h1,rfl⟩:=Option.map_eq_some_iff.1 h
  obtain⟨rfl,rfl⟩:=decG_inv intG_inv h1
  rfl
 ·cases h
def f1 {R:Type}(c:List PV)(K:PV→List PV→Option R):Option R:=c.head?.bind fun v=>K v c.tail
end Go.Proofs.YthjmjoioagocdaaGreatDoor
end
section
set_option maxRecDepth 100000
namespace Go.Proofs.YthjmjoioagocdaaGreatDoor
open Go.ChangeShapes Go.WideShapes Go.ChangeAt Go.RowKit Go.Deep
def inR (n:Int):Prop:=-9223372036854775808≤n∧n≤9223372036854775807
structure Rng where
 ne:Option Bool
 eq:List Val
 nlo:Option Bool
 lo:List Val
 lout:Bool
 nhi:Option Bool
 hi:List Val
 hout:Bool
def rngC (r:Rng):List PV:=[.sl r.ne 4 r.eq.length (valsC r.eq),.sl r.nlo 4 r.lo.length (valsC r.lo),.bool r.lout,.sl r.nhi 4 r.hi.length (valsC r.hi),.bool r.hout]
def PVal (v:Val):Prop:=inR v.kind∧inR v.n∧inR v.scale
def PCel (c:Cel):Prop:=inR c.1∧PVal c.2
def PRw (r:Rw):Prop:=inR r.1∧∀ c∈r.2.2,PCel c
def PIdx (x:Idx):Prop:=inR x.id∧(∀ c∈x.cols,inR c)∧inR x.st
def ArgU (w:World)(p:PV)(v:Value):Prop:=∃ B:Nat,∀ U:Nat→Nat,(∀ b,B≤U b)→RelD (memU w U) p v
def ArgsU (w:World)(ps:List PV)(vs:List Value):Prop:=∃ B:Nat,∀ U:Nat→Nat,(∀ b,B≤U b)→RelT (memU w U) ps vs
theorem ArgsU.nil {w:World}:ArgsU w [] []:=⟨0,fun _ _=>rfl⟩
theorem ArgsU.cons {w:World}{p:PV}{v:Value}{ps:List PV}{vs:List Value}(h:ArgU w p v)(k:ArgsU w ps vs):ArgsU w (p::ps) (v::vs):=by
 obtain⟨A,h⟩:=h
 obtain⟨B,k⟩:=k
 exact⟨max A B,fun U hU=>⟨_,_,rfl,h U fun b=>Nat.le_trans (Nat.le_max_left _ _) (hU b),k U fun b=>Nat.le_trans (Nat.le_max_right _ _) (hU b)⟩⟩
theorem relU1 {w:World}{p:PV}{v:Value}(h1:v.oneCell'=true)(h:ArgU w p v):RelU w [p] [v]:=by
 obtain⟨B,h⟩:=h
 refine⟨B,fun U hU=>?_⟩
 simp only[RelL]
 exact⟨_,_,rfl,h1,h U hU,rfl⟩
theorem argS {w:World}{p:PV}{v:Value}(h:∀ M,RelD M p v):ArgU w p v:=⟨0,fun U _=>h _⟩
section
variable {H:Type} {enc:TypeId × Value→H} {w:World} {base:Nat} {sp:Nat→Bool} {held:Bool}
theorem int_tr {t:TypeId}(ht:Tryz.prog.underlying t=some (.int .i64)){n:Nat}{v:Value}{x:DataW H×List MemPlace}(h:DataW.trod enc Tryz.prog w base sp held n t [v]=some x):∃ a:Int,inR a∧RelU w [.int .i64 a] [v]:=by
 obtain⟨a,e,_,hb⟩:=DataW.trod_int ht h
 obtain rfl:=List.head_eq_of_cons_eq e
 exact⟨a,bounds_i64 hb,relU1 rfl (argS fun M=>by simp only[RelD])⟩
theorem str_tr {t:TypeId}(ht:Tryz.prog.underlying t=some .string){n:Nat}{v:Value}{x:DataW H×List MemPlace}(h:DataW.trod enc Tryz.prog w base sp held n t [v]=some x):∃ s:List UInt8,RelU w [.str s] [v]:=by
 obtain⟨s,e,_,_⟩:=DataW.trod_string ht h
 obtain rfl:=List.head_eq_of_cons_eq e
 exact⟨s.data.toList,relU1 rfl (argS fun M=>by simp only[RelD])⟩
theorem bool_tr {t:TypeId}(ht:Tryz.prog.underlying t=some .bool){n:Nat}{v:Value}{x:DataW H×List MemPlace}(h:DataW.trod enc Tryz.prog w base sp held n t [v]=some x):∃ b:Bool,RelU w [.bool b] [v]:=by
 obtain⟨b,e,_⟩:=DataW.trod_bool ht h
 obtain rfl:=List.head_eq_of_cons_eq e
 exact⟨b,relU1 rfl (argS fun M=>by simp only[RelD])⟩
theorem sl_tr {t e:TypeId}{α:Type}{f:α→List PV}{Pa:α→Prop}{size n:Nat}{v:Value}{x:DataW H×List MemPlace}(hs0:0<size)(ht:Tryz.prog.underlying t=some (.slice e))(hsz:Tryz.prog.cellsOf e=size)(hf:∀ x,(f x).length=size)
  (he:∀ n cs' y,DataW.trod enc Tryz.prog w base sp held n e cs'=some y→∃ x,Pa x∧RelU w (f x) cs') (h:DataW.trod enc Tryz.prog w base sp held n t [v]=some x):∃ l:List α,(∀ x∈l,Pa x)∧v.oneCell'=true∧ArgU w (.sl none size l.length (l.flatMap f)) v:=by
 obtain⟨A,c,l,e,wl,B,hB⟩:=open_slR hs0 ht hsz hf (fun n cs' y _ h=>he n cs' y h) h
 obtain rfl:=List.head_eq_of_cons_eq e
 exact⟨l,wl,rfl,B,hB⟩
theorem ints_tr {t e:TypeId}{n:Nat}{v:Value}{x:DataW H×List MemPlace}(ht:Tryz.prog.underlying t=some (.slice e))(he:Tryz.prog.underlying e=some (.int .i64))(hsz:Tryz.prog.cellsOf e=1)(h:DataW.trod enc Tryz.prog w base sp held n t [v]=some x):∃ l:List Int,(∀ x∈l,inR x)∧v.oneCell'=true∧ArgU w (.sl none 1 l.length (colC l)) v :=
 sl_tr (f:=fun j=>[.int .i64 j]) (by omega) ht hsz (fun _=>rfl) (fun n cs' y h=>by
  obtain⟨a,e,_,hb⟩:=DataW.trod_int he h
  subst e
  exact⟨a,bounds_i64 hb,relU1 rfl (argS fun M=>by simp only[RelD])⟩) h
theorem Val_tr {fuel:Nat}{cs:List Value}{x:DataW H×List MemPlace}(h:DataW.trod enc Tryz.prog w base sp held fuel 54 cs=some x):∃ x:Val,PVal x∧RelU w (V4.cs x) cs:=by
 obtain⟨xs,k,_,_,hl,hxl,hf⟩:=DataW.trod_struct Tryz.underlying54 h
 rw[show Tryz.prog.cellsOf 54=4 by kernel_rfl] at hl
 match cs,hl with
 |[v0,v1,v2,v3],_ =>
  match xs,hxl with
  |[y0,y1,y2,y3],_ =>
   have g0:DataW.trod enc Tryz.prog w base sp held k 52 [v0]=some y0:=hf 0 _ rfl
   obtain⟨a0,p0,r0⟩:=int_tr (by kernel_rfl) g0
   have g1:DataW.trod enc Tryz.prog w base sp held k 3 [v1]=some y1:=hf 1 _ rfl
   obtain⟨a1,p1,r1⟩:=int_tr (by kernel_rfl) g1
   have g2:DataW.trod enc Tryz.prog w base sp held k 3 [v2]=some y2:=hf 2 _ rfl
   obtain⟨a2,p2,r2⟩:=int_tr (by kernel_rfl) g2
   have g3:DataW.trod enc Tryz.prog w base sp held k 9 [v3]=some y3:=hf 3 _ rfl
   obtain⟨a3,r3⟩:=str_tr (by kernel_rfl) g3
   exact⟨⟨a0,a1,a2,a3⟩,⟨p0,p1,p2⟩,(r0.append (r1.append (r2.append r3)))⟩
theorem Cel_tr {fuel:Nat}{cs:List Value}{x:DataW H×List MemPlace}(h:DataW.trod enc Tryz.prog w base sp held fuel 80 cs=some x):∃ x:Cel,PCel x∧RelU w (celC x) cs:=by
 obtain⟨xs,k,_,_,hl,hxl,hf⟩:=DataW.trod_struct Tryz.underlying80 h
 rw[show Tryz.prog.cellsOf 80=5 by kernel_rfl] at hl
 match cs,hl with
 |[v0,v1,v2,v3,v4],_ =>
  match xs,hxl with
  |[y0,y1],_ =>
   have g0:DataW.trod enc Tryz.prog w base sp held k 3 [v0]=some y0:=hf 0 _ rfl
   obtain⟨a0,p0,r0⟩:=int_tr (by kernel_rfl) g0
   have g1:DataW.trod enc Tryz.prog w base sp held k 54 [v1,v2,v3,v4]=some y1:=hf 1 _ rfl
   obtain⟨a1,p1,r1⟩:=Val_tr g1
   exact⟨(a0,a1),⟨p0,p1⟩,(r0.append r1)⟩
theorem Rw_tr {fuel:Nat}{cs:List Value}{x:DataW H×List MemPlace}(h:DataW.trod enc Tryz.prog w base sp held fuel 50 cs=some x):∃ x:Rw,PRw x∧RelU w (rwC x) cs:=by
 obtain⟨xs,k,_,_,hl,hxl,hf⟩:=DataW.trod_struct Tryz.underlying50 h
 rw[show Tryz.prog.cellsOf 50=2 by kernel_rfl] at hl
 match cs,hl with
 |[v0,v1],_ =>
  match xs,hxl with
  |[y0,y1],_ =>
   have g0:DataW.trod enc Tryz.prog w base sp held k 3 [v0]=some y0:=hf 0 _ rfl
   obtain⟨a0,p0,r0⟩:=int_tr (by kernel_rfl) g0
   have g1:DataW.trod enc Tryz.prog w base sp held k 48 [v1]=some y1:=hf 1 _ rfl
   obtain⟨a1,p1,u1,r1'⟩:=sl_tr (f:=celC) (Pa:=PCel) (size:=5) (by omega) Tryz.underlying48 (by kernel_rfl) (celC_len) (fun n cs' y h=>Cel_tr h) g1
   have r1:=relU1 u1 r1'
   exact⟨(a0,none,a1),⟨p0,p1⟩,(r0.append r1)⟩
theorem Idx_tr {fuel:Nat}{cs:List Value}{x:DataW H×List MemPlace}(h:DataW.trod enc Tryz.prog w base sp held fuel 26 cs=some x):∃ x:Idx,PIdx x∧RelU w (idxC x) cs:=by
 obtain⟨xs,k,_,_,hl,hxl,hf⟩:=DataW.trod_struct Tryz.underlying26 h
 rw[show Tryz.prog.cellsOf 26=5 by kernel_rfl] at hl
 match cs,hl with
 |[v0,v1,v2,v3,v4],_ =>
  match xs,hxl with
  |[y0,y1,y2,y3,y4],_ =>
   have g0:DataW.trod enc Tryz.prog w base sp held k 3 [v0]=some y0:=hf 0 _ rfl
   obtain⟨a0,p0,r0⟩:=int_tr (by kernel_rfl) g0
   have g1:DataW.trod enc Tryz.prog w base sp held k 9 [v1]=some y1:=hf 1 _ rfl
   obtain⟨a1,r1⟩:=str_tr (by kernel_rfl) g1
   have g2:DataW.trod enc Tryz.prog w base sp held k 23 [v2]=some y2:=hf 2 _ rfl
   obtain⟨a2,p2,u2,r2'⟩:=ints_tr Tryz.underlying23 (by kernel_rfl) (by kernel_rfl) g2
   have r2:=relU1 u2 r2'
   have g3:DataW.trod enc Tryz.prog w base sp held k 4 [v3]=some y3:=hf 3 _ rfl
   obtain⟨a3,r3⟩:=bool_tr (by kernel_rfl) g3
   have g4:DataW.trod enc Tryz.prog w base sp held k 24 [v4]=some y4:=hf 4 _ rfl
   obtain⟨a4,p4,r4⟩:=int_tr (by kernel_rfl) g4
   exact⟨⟨a0,a1,none,a2,a3,a4⟩,⟨p0,p2,p4⟩,(r0.append (r1.append (r2.append (r3.append r4))))⟩
end
theorem arg_agg {H:Type}{enc:TypeId×Value→H}{W W0:World}{r:Reach}{b0 base:Nat}{sp:Nat→Bool}{held:Bool}{t:TypeId}{fs:Array Field}{v:Value}{d:DataW H}{ps:List MemPlace}{α:Type}{f:α→List PV}{Pa:α→Prop}(ht:Tryz.prog.underlying t=some (.struct fs))
  (hval:Value.okWide Tryz.prog W0 r b0 t v) (hd:DataW.Trod enc Tryz.prog W base sp held t v d ps) (he:∀ n cs' y,DataW.trod enc Tryz.prog W base sp held n t cs'=some y→∃ x,Pa x∧RelU W (f x) cs'):∃ x,Pa x∧ArgU W (.agg (f x)) v:=by
 simp only[Value.okWide,ht] at hval
 obtain⟨cs,rfl,hs,_⟩:=hval
 obtain⟨l⟩:=cs
 obtain⟨fuel,hf⟩:=hd
 obtain⟨x,hx,B,hB⟩:=he fuel l _ hf
 exact⟨x,hx,B,fun U hU=>by rw[RelD];exact⟨l,rfl,hB U hU⟩⟩
theorem arg_sl {H:Type}{enc:TypeId×Value→H}{W W0:World}{r:Reach}{b0 base:Nat}{sp:Nat→Bool}{held:Bool}{t e:TypeId}{v:Value}{d:DataW H}{ps:List MemPlace}{α:Type}{f:α→List PV}{Pa:α→Prop}{size:Nat}(hs0:0<size)(ht:Tryz.prog.underlying t=some (.slice e))(hsz:Tryz.prog.cellsOf e=size)(hfl:∀ x,(f x).length=size)
  (hval:Value.okWide Tryz.prog W0 r b0 t v) (hd:DataW.Trod enc Tryz.prog W base sp held t v d ps) (he:∀ n cs' y,DataW.trod enc Tryz.prog W base sp held n e cs'=some y→∃ x,Pa x∧RelU W (f x) cs'):∃ l:List α,(∀ x∈l,Pa x)∧ArgU W (.sl none size l.length (l.flatMap f)) v:=by
 obtain⟨A,n,c,rfl⟩:=okWide_slice ht hval
 obtain⟨fuel,hf⟩:=hd
 obtain⟨l,h1,_,h2⟩:=sl_tr hs0 ht hsz hfl he (by simpa [Value.cells] using hf)
 exact⟨l,h1,h2⟩
end Go.Proofs.YthjmjoioagocdaaGreatDoor
end
section
set_option maxRecDepth 100000
namespace Go.Proofs.YthjmjoioagocdaaGreatDoor
open Go.RowKit
def u8I {R:Type}(n:Nat)(c:List PV)(i:Int)(K:Int→Option R):Option R:=bif decide (0≤i)&&decide (i<(n:Int)) then ((c.drop (i.toNat * 1)).take 1).head?.bind fun v=>(PV.asInt .u8 v).bind K else none
theorem u8I_eq {R:Type}{l:List UInt8}{i:Nat}{x:UInt8}(h:l[i]? = some x){K:Int→Option R}:u8I l.length (bC l) (i:Int) K=K (x.toNat:Int):=by
 have:=(List.getElem?_eq_some_iff.1 h).1
 unfold u8I bC
 rw[cond_t (by rw[decide_eq_true (by omega),decide_eq_true (by omega)];rfl),Int.toNat_natCast,Nat.mul_one,List.head?_take,if_neg (by decide),List.head?_drop,List.getElem?_map,h]
 rfl
def chk {R:Type}(g:Bool)(x:Option R):Option R:=bif g then none else x
def kOf (h:UInt8):Nat:=h.toNat%128
def getN (l:List UInt8):Option (Int×Nat) :=
 match l with
 |[]=>none
 |h::r=>if kOf h≤8∧kOf h≤r.length∧¬ (0<kOf h∧r.head? = some 0)∧¬ (kOf h=8∧∃ b,r.head? = some b∧127<b.toNat) then
   some (if 127<h.toNat then -1-(be (r.take (kOf h)):Int) else (be (r.take (kOf h)):Int),1+kOf h) else none
theorem be_lt1:∀ (l:List UInt8),be l<256^l.length
 |[]=>by simp[be]
 |c::l=>by
  have h:=be_lt1 l
  have:=c.toNat_lt
  rw[be_cons,List.length_cons,Nat.pow_succ]
  have h1:c.toNat * 256^l.length≤255 * 256^l.length:=Nat.mul_le_mul_right _ (by omega)
  omega
theorem be_snoc1 (l:List UInt8)(c:UInt8):be (l++[c])=be l * 256+c.toNat:=by
 unfold be
 rw[List.foldl_append]
 rfl
theorem be_63 {r:List UInt8}{k:Nat}(h8:k≤8)(hk:k≤r.length)(h:¬ (k=8∧∃ b,r.head? = some b∧127<b.toNat)):be (r.take k)<9223372036854775808:=by
 have hl:=be_lt1 (r.take k)
 have hlen:(r.take k).length=k:=by rw[List.length_take];omega
 rw[hlen] at hl
 by_cases h1:k=8
 ·subst h1
  match r,hk with
  |b::r,hk =>
   have hb:b.toNat≤127:=by
    by_cases q:127<b.toNat
    ·exact absurd ⟨rfl,b,rfl,q⟩ h
    ·omega
   rw[List.take_succ_cons,be_cons]
   have h2:=be_lt1 (r.take 7)
   have h3:(r.take 7).length=7:=by rw[List.length_take];simp at hk;omega
   rw[h3] at h2 ⊢
   have h4:b.toNat * 256^7≤127 * 256^7:=Nat.mul_le_mul_right _ hb
   omega
 ·have:256^k≤256^7:=Nat.pow_le_pow_right (by omega) (by omega)
  omega
theorem chk_f {R:Type}{g:Bool}(h:g=false)(x:Option R):chk g x=x:=by subst h;rfl
theorem getN_k {l:List UInt8}{v:Int}{k:Nat}(h:getN l=some (v,k)):1≤k∧k≤l.length∧-9223372036854775808≤v∧v≤9223372036854775807:=by
 unfold getN at h
 split at h
 ·cases h
 ·rename_i b r
  split at h
  ·rename_i hq
   injection h with h
   injection h with h1 h2
   have:=be_63 hq.1 hq.2.1 hq.2.2.2
   subst h1 h2
   rw[List.length_cons]
   refine⟨by omega,by omega,?_,?_⟩<;>split<;>omega
  ·cases h
def getT (l:List UInt8):Option (List UInt8×Nat) :=
 match getN l with
 |some (v,k)=>if v<0∨(l.length:Int)-(k:Int)<v then none else some ((l.drop k).take v.toNat,k+v.toNat)
 |none=>none
def gS (o:Option (List UInt8×Nat)):List UInt8:=match o with|some p=>p.1|none=>[]
theorem bC_take (l:List UInt8)(n:Nat):(bC l).take n=bC (l.take n):=by unfold bC;rw[List.map_take]
theorem bC_drop (l:List UInt8)(n:Nat):(bC l).drop n=bC (l.drop n):=by unfold bC;rw[List.map_drop]
def nf:Option PV:=some (.tuple [.sl (some true) 5 0 [],.bool false])
noncomputable def roomC {S:Type}(lo:Nat)(k:Option S):Option S:=bif decide (lo+1≤9223372036854775807)&&decide ((lo+1) * bytesOf Tryz.prog 80≤roomB) then k else none
def celE (a0 x0 x1 x2:Int)(xs:List UInt8):List PV:=[.int .i64 a0,.int .i64 x0,.int .i64 x1,.int .i64 x2,.str xs]
section
variable (fu:Nat) (nl:Option Bool) (n:Nat) (c:List PV) (v at_:Int) (no:Option Bool) (lo:Nat) (co:List PV) (i a0 a1 a2:Int) (K K2:St→Option PV)
variable (x0 x1 x2 x3:Int) (xs:List UInt8)
end
def celP (l : List UInt8):Option (Cel × List UInt8) :=
  match getN l with
  | none=>none
  | some (a0,k0)=>match getN (l.drop k0) with
    | none=>none
    | some (a1,k1)=>if a1 < 1∨5 < a1 then none else
      if 3 < a1 then match getT ((l.drop k0).drop k1) with
        | none=>none
        | some (s,j)=>some ((a0,⟨a1,0,0,s⟩),((l.drop k0).drop k1).drop j)
      else match getN ((l.drop k0).drop k1) with
        | none=>none
        | some (x,j)=>if a1=3 then match getN (((l.drop k0).drop k1).drop j) with
            | none=>none
            | some (y,j2)=>some ((a0,⟨a1,y,x,[]⟩),(((l.drop k0).drop k1).drop j).drop j2)
          else some ((a0,⟨a1,x,0,[]⟩),((l.drop k0).drop k1).drop j)
def rowsP:Nat→List UInt8→Option (List Cel×List UInt8)
 |0,l=>some ([],l)
 |n+1,l=>(celP l).bind fun p=>(rowsP n p.2).map fun q=>(p.1::q.1,q.2)
def parseR (l:List UInt8):Option (List Cel) :=
 match getN l with
 |none=>none
 |some (n,k)=>if n<0 then none else (rowsP n.toNat (l.drop k)).bind fun q=>if q.2=[]∧rowR (-1) q.1=true then some q.1 else none
theorem getT_k {l s:List UInt8}{j:Nat}(h:getT l=some (s,j)):1≤j∧j≤l.length∧s.length≤l.length:=by
 unfold getT at h
 rcases hn:getN l with _|⟨v,k⟩
 ·rw[hn] at h;cases h
 ·rw[hn] at h
  simp only at h
  obtain⟨k1,k2,_,_⟩:=getN_k hn
  split at h
  ·cases h
  ·injection h with h
   injection h with h1 h2
   subst h1 h2
   rw[List.length_take,List.length_drop]
   omega
theorem celP_k {l r:List UInt8}{c:Cel}(h:celP l=some (c,r)):∃ j,2≤j∧j≤l.length∧r=l.drop j∧c.2.s.length≤l.length:=by
 unfold celP at h
 rcases h0:getN l with _|⟨a0,k0⟩
 ·rw[h0] at h;cases h
 rw[h0] at h
 simp only at h
 obtain⟨p1,p2,_,_⟩:=getN_k h0
 rcases h1:getN (l.drop k0) with _|⟨a1,k1⟩
 ·rw[h1] at h;cases h
 rw[h1] at h
 simp only at h
 obtain⟨q1,q2,_,_⟩:=getN_k h1
 rw[List.length_drop] at q2
 split at h
 ·cases h
 split at h
 ·rcases h2:getT ((l.drop k0).drop k1) with _|⟨s,j⟩
  ·rw[h2] at h;cases h
  rw[h2] at h
  injection h with h
  injection h with e1 e2
  obtain⟨r1,r2,r3⟩:=getT_k h2
  rw[List.length_drop,List.length_drop] at r2 r3
  subst e1 e2
  exact⟨k0+k1+j,by omega,by omega,by rw[List.drop_drop,List.drop_drop,Nat.add_assoc],by show s.length≤_;omega⟩
 ·rcases h2:getN ((l.drop k0).drop k1) with _|⟨x,j⟩
  ·rw[h2] at h;cases h
  rw[h2] at h
  simp only at h
  obtain⟨r1,r2,_,_⟩:=getN_k h2
  rw[List.length_drop,List.length_drop] at r2
  split at h
  ·rcases h3:getN (((l.drop k0).drop k1).drop j) with _|⟨y,j2⟩
   ·rw[h3] at h;cases h
   rw[h3] at h
   injection h with h
   injection h with e1 e2
   obtain⟨s1,s2,_,_⟩:=getN_k h3
   rw[List.length_drop,List.length_drop,List.length_drop] at s2
   subst e1 e2
   exact⟨k0+k1+j+j2,by omega,by omega,by rw[List.drop_drop,List.drop_drop,List.drop_drop];congr 1;omega,by simp⟩
  ·injection h with h
   injection h with e1 e2
   subst e1 e2
   exact⟨k0+k1+j,by omega,by omega,by rw[List.drop_drop,List.drop_drop,Nat.add_assoc],by simp⟩
theorem roomC_t {S:Type}{lo:Nat}(h:lo≤1000000)(k:Option S):roomC lo k=k:=by
 unfold roomC
 rw[show bytesOf Tryz.prog 80=48 by kernel_rfl]
 exact cond_t (by rw[decide_eq_true (by omega),decide_eq_true (by unfold roomB;omega)];rfl)
def okP (o:Option (List Cel)):PV:=.tuple [.sl (some (o.getD []).isEmpty) 5 (o.getD []).length (celsC (o.getD [])),.bool o.isSome]
theorem celsC_snoc (cs:List Cel)(c:Cel):celsC cs++celC c=celsC (cs++[c]):=by simp[celsC]
theorem rrO_sm {R:Type}{cs:List Cel}(h1:cs.length≤1000000)(h2:∀ c∈cs,c.2.s.length≤1000000){K:Bool→Option R}:rrO cs.length (celsC cs) K=K (rowR (-1) cs):=by
 unfold rrO
 rw[celsC,decG_of celC_len celG_of]
 refine cond_t ?_
 rw[decide_eq_true h1,Bool.true_and,List.all_eq_true]
 exact fun c hc=>decide_eq_true (h2 c hc)
def hFl:HFn:=⟨fun bs xs k=>match bs,xs with|[[.sl nl 1 n c,.bool b]],[.ptr 0 0]=>k [[.sl (some true) 1 0 [],.bool true]] (.tuple [])|_,_=>none⟩
theorem fl_raw {R:Type}(nl:Option Bool)(n:Nat)(c:List PV)(b:Bool)(kk:List (List PV)→PV→Option R):prunH (enH [] [] []) ⟨[],[]⟩ 0 Tryz.f118 [[.sl nl 1 n c,.bool b]] [.ptr 0 0] kk=kk [[.sl (some true) 1 0 [],.bool true]] (.tuple []):=by kernel_rfl
theorem ok_hFl:HOK NGk Tabs 118 hFl:=by
 refine hok wokk allOK_nil allH_nil allI_nil (h:=⟨[],[]⟩) Tryz.func118 rfl (by decide) ?_ ?_
 ·intro R bs xs k
  simp only[hFl]
  split<;>rfl
 ·intro bs xs r h
  simp only[hFl] at h
  split at h
  ·exact⟨0,(fl_raw ..).trans h⟩
  ·cases h
def tkB (bad:Bool)(l:List UInt8)(m:Int):Bool:=!bad&&(decide (0≤m)&&decide (m≤(l.length:Int)))
def tkO (bad:Bool)(l:List UInt8)(m:Int):List UInt8:=bif tkB bad l m then l.take m.toNat else []
def tkR (bad:Bool)(l:List UInt8)(m:Int):List UInt8:=bif tkB bad l m then l.drop m.toNat else []
def tkF (nl:Option Bool)(bad:Bool)(l:List UInt8)(m:Int):Option Bool:=bif tkB bad l m then nl else some true
def hTk:HFn:=⟨fun bs xs k=>match bs,xs with
 |[[.sl nl 1 n c,.bool bad]],[.ptr 0 0,.int .i64 m]=>(decY n c).bind fun l=>bif decide (l.length≤1000000) then
   k [[.sl (tkF nl bad l m) 1 (tkR bad l m).length (bC (tkR bad l m)),.bool (!tkB bad l m)]] (.tuple [.sl (tkF nl bad l m) 1 (tkO bad l m).length (bC (tkO bad l m)),.bool (tkB bad l m)]) else none
 |_,_=>none⟩
def tkFail {R:Type}(kk:List (List PV)→PV→Option R):Option R:=kk [[.sl (some true) 1 0 [],.bool true]] (.tuple [.sl (some true) 1 0 [],.bool false])
theorem tk_raw {R:Type}(nl:Option Bool)(n:Nat)(c:List PV)(bad:Bool)(m:Int)(kk:List (List PV)→PV→Option R) :
  prunH (enH [] [(118,hFl)] []) ⟨[],[]⟩ 0 Tryz.f119 [[.sl nl 1 n c,.bool bad]] [.ptr 0 0,.int .i64 m] kk =
   bif !(bif bad then true else decide (m<0)) then (bif decide ((n:Int)<m) then tkFail kk else
    bif decide (0≤m)&&decide (m≤(n:Int)) then bif decide (0≤m)&&decide (m≤(n:Int)) then
     kk [[.sl nl 1 (n-m.toNat) ((c.take (n * 1)).drop (m.toNat * 1)),.bool bad]] (.tuple [.sl nl 1 (m.toNat-0) ((c.take (m.toNat * 1)).drop (0 * 1)),.bool true]) else none else none)
   else tkFail kk:=by kernel_rfl
theorem ok_hTk:HOK NGk Tabs 119 hTk:=by
 refine hok wokk allOK_nil (allH_cons ok_hFl allH_nil) allI_nil (h:=⟨[],[]⟩) Tryz.func119 rfl (by decide) ?_ ?_
 ·intro R bs xs k
  simp only[hTk]
  split
  ·rw[Option.bind_assoc]
   congr 1
   funext l
   cases decide (l.length≤1000000)<;>rfl
  ·rfl
 ·intro bs xs r h
  simp only[hTk] at h
  split at h
  ·rename_i nl n c bad m
   obtain⟨l,h1,ha⟩:=Option.bind_eq_some_iff.1 h
   clear h
   obtain⟨rfl,rfl⟩:=decY_inv h1
   rcases hb:decide (l.length≤1000000) with _|_<;>rw[hb] at ha
   ·cases ha
   rw[cond_true] at ha
   simp only[decide_eq_true_eq] at hb
   refine⟨0,(tk_raw ..).trans (Eq.trans ?_ ha)⟩
   clear ha
   unfold tkF tkR tkO tkB tkFail
   cases bad with
   |true=>rfl
   |false =>
    simp only[cond_false,Bool.not_false,Bool.true_and]
    by_cases h0:m<0
    ·rw[decide_eq_true h0,decide_eq_false (show ¬ 0≤m by omega)]
     rfl
    ·rw[decide_eq_false h0,decide_eq_true (show 0≤m by omega)]
     simp only[Bool.not_false,cond_true,Bool.true_and]
     by_cases h2:(l.length:Int)<m
     ·rw[decide_eq_true h2,decide_eq_false (show ¬ m≤(l.length:Int) by omega)]
      rfl
     ·rw[decide_eq_false h2,decide_eq_true (show m≤(l.length:Int) by omega)]
      simp only[cond_false,cond_true,Bool.not_true]
      rw[Nat.mul_one,Nat.mul_one,List.drop_zero,bC_take,bC_take,List.take_length,bC_drop,Nat.sub_zero,List.length_drop,List.length_take,Nat.min_eq_left (by omega)]
  ·cases h
noncomputable def fNm:Func:=Tryz.f95
noncomputable def lhNm:List (FuncId×HFn):=[(119,hTk),(118,hFl)]
noncomputable def enNm:Env:=enH [] lhNm []
def hNm:Hints:=⟨[],[(0,⟨[(3,false),(7,false),(63,false),(64,false),(65,false)],[83]⟩)]⟩
def frameB (n m:Nat)(l:List (Nat×TV))(b:List (Nat×List TV)):St:=⟨(List.range n).map fun t=>(l.lookup t).getD (.undef,0),(List.range m).map fun t=>b.lookup t,.nil⟩
def frNm (n1:Option Bool)(l1:Nat)(c1:List PV)(u:Int)(n2:Option Bool)(l2:Nat)(c2:List PV)(L i:Int)(nb:Option Bool)(lb:Nat)(cb:List PV)(b:Bool):St :=
 frameB 83 84 [(3,(.sl n1 1 l1 c1,0)),(7,(.int .i64 u,0)),(63,(.sl n2 1 l2 c2,0)),(64,(.int .i64 L,0)),(65,(.int .i64 i,0))] [(83,[(.sl nb 1 lb cb,0),(.bool b,0)])]
def and8 (a b:Int):Int:=IntKind.u8.wrap ((BitVec.ofInt IntKind.u8.bits a &&& BitVec.ofInt IntKind.u8.bits b).toNat:Int)
def andN8 (a b:Int):Int:=IntKind.u8.wrap ((BitVec.ofInt IntKind.u8.bits a &&& ~~~BitVec.ofInt IntKind.u8.bits b).toNat:Int)
def or64 (a b:Int):Int:=IntKind.i64.wrap ((BitVec.ofInt IntKind.i64.bits a ||| BitVec.ofInt IntKind.i64.bits b).toNat:Int)
def not64 (a:Int):Int:=IntKind.i64.wrap ((BitVec.ofInt IntKind.i64.bits (-1) ^^^ BitVec.ofInt IntKind.i64.bits a).toNat:Int)
def shl8 (u:Int):Int:=IntKind.i64.wrap (u * 2^(min (8:Int).toNat IntKind.i64.bits))
def nmS {R:Type}(n:Nat)(c:List PV)(k:Int)(X:Bool)(T:Bool→Option R):Option R :=
 bif (bif !X then k==8 else false) then u8I n c 0 fun b=>T (decide (128≤b)) else
  chk (bif !X then k==8 else false) (chk (bif !X then k==8 else false) (chk (bif !X then k==8 else false) (T (bif X then true else (bif k==8 then false else false)))))
def nmR {R:Type}(n:Nat)(c:List PV)(k:Int)(A:Bool)(T:Bool→Option R):Option R :=
 bif (bif !A then decide (0<k) else false) then u8I n c 0 fun b=>nmS n c k (b==0) T else
  chk (bif !A then decide (0<k) else false) (chk (bif !A then decide (0<k) else false) (chk (bif !A then decide (0<k) else false) (nmS n c k (bif A then true else (bif decide (0<k) then false else false)) T)))
section
variable {R:Type} (fu:Nat) (kk:List (List PV)→PV→Option R)
noncomputable def nmKr (st:St):Option R:=pfinH enNm 1 fNm st fun bs _ v=>kk bs v
noncomputable def nmLoop (n:Nat)(st:St):Option R:=loopK enNm hNm fu (nmKr kk) fNm (fun _=>none) [1,1,1,1,1,1,1,1,0,1,0] 0 n st
def nmFail:Option R:=kk [[.sl (some true) 1 0 [],.bool true]] (.int .i64 0)
def tkS (nl:Option Bool)(n:Nat)(c:List PV)(bad:Bool)(m:Int)(K:Option Bool→Nat→List PV→Bool→Option Bool→Nat→List PV→Bool→Option R):Option R :=
 (decY n c).bind fun l=>bif decide (l.length≤1000000) then K (tkF nl bad l m) (tkR bad l m).length (bC (tkR bad l m)) (!tkB bad l m) (tkF nl bad l m) (tkO bad l m).length (bC (tkO bad l m)) (tkB bad l m) else none
theorem nm_raw (nl:Option Bool)(n:Nat)(c:List PV)(bad:Bool) :
  prunH enNm hNm fu fNm [[.sl nl 1 n c,.bool bad]] [.ptr 0 0] kk =
   tkS nl n c bad 1 fun nb lb cb b n1 l1 c1 ok=>bif !ok then kk [[.sl nb 1 lb cb,.bool b]] (.int .i64 0) else
    u8I l1 c1 0 fun h=>u8I l1 c1 0 fun h2=>bif (bif andN8 h2 143 != 0 then true else decide (8<IntKind.i64.wrap (and8 h 15))) then nmFail kk else
     tkS nb lb cb b (IntKind.i64.wrap (and8 h 15)) fun nb lb cb b n2 l2 c2 ok=>nmR l2 c2 (IntKind.i64.wrap (and8 h 15)) (!ok) fun z=>bif z then nmFail kk else
      nmLoop fu kk fu (frNm n1 l1 c1 0 n2 l2 c2 (l2:Int) 0 nb lb cb b):=prunHN_eq.trans (by kernel_rfl)
theorem nm_step (n1:Option Bool)(l1:Nat)(c1:List PV)(u:Int)(n2:Option Bool)(l2:Nat)(c2:List PV)(L i:Int)(nb:Option Bool)(lb:Nat)(cb:List PV)(b:Bool)(K:St→Option R) :
  stepK enNm hNm fu (nmKr kk) fNm [1,1,1,1,1,1,1,1,0,1,0] (fun _=>none) (frNm n1 l1 c1 u n2 l2 c2 L i nb lb cb b) (fun st=>pnorm (hNm.loop.lookup 0) st K) =
   bif decide (i<L) then u8I l2 c2 i fun x=>K (frNm n1 l1 c1 (or64 (shl8 u) (IntKind.i64.wrap x)) n2 l2 c2 L (IntKind.i64.wrap (i+1)) nb lb cb b)
   else u8I l1 c1 0 fun h=>bif and8 h 128 != 0 then kk [[.sl nb 1 lb cb,.bool b]] (.int .i64 (not64 u)) else kk [[.sl nb 1 lb cb,.bool b]] (.int .i64 u):=by kernel_rfl
end
theorem bit15:∀ x:Fin 256,and8 (x.val:Int) 15=((x.val%16:Nat):Int):=by decide +kernel
theorem bit128:∀ x:Fin 256,(and8 (x.val:Int) 128 != 0)=decide (127<x.val):=by decide +kernel
theorem bit143:∀ x:Fin 256,(bif andN8 (x.val:Int) 143 != 0 then true else decide (8<IntKind.i64.wrap (and8 (x.val:Int) 15)))=!decide (x.val%128≤8):=by decide +kernel
theorem or_shl {U x:Nat}(h:U * 256+x<9223372036854775808)(hx:x<256):or64 (shl8 (U:Int)) (IntKind.i64.wrap (x:Int))=((U * 256+x:Nat):Int):=by
 have h0:shl8 (U:Int)=((2^8 * U:Nat):Int):=by
  unfold shl8
  rw[show (2:Int)^(min (8:Int).toNat IntKind.i64.bits)=256 by rfl,wrapI_of (by omega) (by omega)]
  omega
 have h1:(BitVec.ofInt IntKind.i64.bits ((2^8 * U:Nat):Int)).toNat=2^8 * U:=by
  rw[BitVec.ofInt_natCast,BitVec.toNat_ofNat]
  exact Nat.mod_eq_of_lt (show 2^8 * U<18446744073709551616 by omega)
 have h2:(BitVec.ofInt IntKind.i64.bits (x:Int)).toNat=x:=by
  rw[BitVec.ofInt_natCast,BitVec.toNat_ofNat]
  exact Nat.mod_eq_of_lt (show x<18446744073709551616 by omega)
 rw[h0,wrapI_of (x:=(x:Int)) (by omega) (by omega)]
 unfold or64
 rw[BitVec.toNat_or,h1,h2,← Nat.two_pow_add_eq_or_of_lt (by omega),wrapI_of (by omega) (by omega)]
 omega
theorem not64_eq {U:Nat}(h:U<9223372036854775808):not64 (U:Int)=-1-(U:Int):=by
 have e:not64 (U:Int)=IntKind.i64.wrap ((BitVec.ofInt 64 (-1) ^^^ BitVec.ofInt 64 (U:Int)).toNat:Int):=rfl
 have e1:BitVec.ofInt 64 (-1)=BitVec.allOnes 64:=by decide
 rw[e,e1,BitVec.allOnes_xor,BitVec.toNat_not,BitVec.ofInt_natCast,BitVec.toNat_ofNat,Nat.mod_eq_of_lt (by omega),IntKind.wrap_i64]
 omega
theorem be_take_le (t:List UInt8)(i:Nat):be (t.take i)≤be t:=by
 have e2:be t=be (t.take i++t.drop i):=by rw[List.take_append_drop]
 have:be (t.take i++t.drop i)=be (t.take i) * 256^(t.drop i).length+be (t.drop i):=by
  unfold be
  rw[List.foldl_append]
  exact be_cons_from _ _
 rw[e2,this]
 have:1≤256^(t.drop i).length:=Nat.one_le_pow _ _ (by omega)
 have:=Nat.le_mul_of_pos_right (be (t.take i)) this
 omega
abbrev okT (k:Nat)(t:List UInt8):Prop:=¬ (0<k∧t.head? = some 0)∧¬ (k=8∧∃ b,t.head? = some b∧127<b.toNat)
section
variable {R:Type} (fu:Nat) (kk:List (List PV)→PV→Option R)
theorem nm_loop (n1:Option Bool)(h:UInt8)(t:List UInt8)(n2 nb:Option Bool)(lb:Nat)(cb:List PV)(b:Bool)(h8:t.length≤8)(hb:be t<9223372036854775808):∀ (m i n:Nat),i+m=t.length→m<n →
  nmLoop fu kk n (frNm n1 1 (bC [h]) (be (t.take i):Int) n2 t.length (bC t) (t.length:Int) (i:Int) nb lb cb b)=kk [[.sl nb 1 lb cb,.bool b]] (.int .i64 (if 127<h.toNat then -1-(be t:Int) else (be t:Int)))
 |m,i,0,_,hn=>by omega
 |0,i,n+1,hi,hn=>by
  unfold nmLoop
  rw[loopK_succ,nm_step,cond_f (decide_eq_false (by omega))]
  have e:i=t.length:=by omega
  subst e
  refine (u8I_eq (l:=[h]) (i:=0) rfl).trans ?_
  rw[List.take_length,not64_eq hb,bit128 ⟨h.toNat,h.toNat_lt⟩]
  by_cases h1:127<h.toNat
  ·rw[decide_eq_true h1,if_pos h1]
   rfl
  ·rw[decide_eq_false h1,if_neg h1]
   rfl
 |m+1,i,n+1,hi,hn=>by
  have hc:t[i]? = some t[i]:=List.getElem?_eq_getElem (by omega)
  have ih:=nm_loop n1 h t n2 nb lb cb b h8 hb m (i+1) n (by omega) (by omega)
  have e:t.take (i+1)=t.take i++[t[i]]:=by rw[List.take_add_one,hc];rfl
  have hm:=be_take_le t (i+1)
  rw[e,be_snoc1] at hm ih
  have hu:=t[i].toNat_lt
  unfold nmLoop at ih ⊢
  rw[loopK_succ,nm_step,cond_t (decide_eq_true (by omega))]
  refine (u8I_eq (l:=t) (i:=i) hc).trans ?_
  rw[or_shl (by omega) (by omega),wrapI_of (x:=(i:Int)+1) (by omega) (by omega)]
  exact ih
theorem nm_t0 (k:Int)(T:Bool→Option R):nmR 0 [] k true T=T true:=by
 unfold nmR
 simp only[Bool.not_true,cond_false,cond_true]
 rw[chk_f rfl,chk_f rfl,chk_f rfl]
 unfold nmS
 simp only[Bool.not_true,cond_false,cond_true]
 rw[chk_f rfl,chk_f rfl,chk_f rfl]
theorem nm_t1 (t:List UInt8)(h8:t.length≤8)(T:Bool→Option R):nmR t.length (bC t) (t.length:Int) false T =
  T (!decide (¬ (0<t.length∧t.head? = some 0)∧¬ (t.length=8∧∃ b,t.head? = some b∧127<b.toNat))):=by
 unfold nmR
 simp only[Bool.not_false,cond_false,cond_true]
 match t,h8 with
 |[],_ =>
  rw[cond_f (by rfl),chk_f (by rfl),chk_f (by rfl),chk_f (by rfl)]
  unfold nmS
  rw[cond_f (by rfl),chk_f (by rfl),chk_f (by rfl),chk_f (by rfl),decide_eq_true (show _∧_ from ⟨fun q=>by simp at q,fun q=>by simp at q⟩)]
  rfl
 |b::r, h8 =>
  rw[cond_t (decide_eq_true (by rw[List.length_cons];omega))]
  refine (u8I_eq (l:=b::r) (i:=0) rfl).trans ?_
  unfold nmS
  by_cases hb:b=0
  ·subst hb
   rw[cond_f (by rfl),chk_f (by rfl),chk_f (by rfl),chk_f (by rfl),decide_eq_false (fun q=>q.1 ⟨by simp,rfl⟩)]
   rfl
  ·have hb':((b.toNat:Int)==0)=false:=by
    rw[beq_eq_false_iff_ne]
    intro q
    exact hb (UInt8.toNat_inj.1 (by show b.toNat=0;omega))
   rw[hb']
   simp only[Bool.not_false,cond_false,cond_true]
   by_cases h8:(b::r).length=8
   ·rw[h8,cond_t (by rfl)]
    have e0:u8I (R:=R) 8 (bC (b::r)) 0=u8I (b::r).length (bC (b::r)) ((0:Nat):Int):=by rw[h8];rfl
    rw[e0]
    refine (u8I_eq (l:=b::r) (i:=0) rfl).trans ?_
    by_cases h127:127<b.toNat
    ·rw[decide_eq_true (show (128≤(b.toNat:Int)) by omega),decide_eq_false (fun q=>q.2 ⟨rfl,b,rfl,h127⟩)]
     rfl
    ·have q:okT 8 (b::r):=⟨fun q=>hb (Option.some.inj q.2),fun q=>by
      obtain⟨_,c,e,hc⟩:=q
      obtain rfl:=Option.some.inj e
      exact h127 hc⟩
     rw[decide_eq_false (show ¬ (128≤(b.toNat:Int)) by omega),decide_eq_true q]
     rfl
   ·have e8:(((b::r).length:Int)==8)=false:=by rw[beq_eq_false_iff_ne];omega
    have q:okT (b::r).length (b::r):=⟨fun q=>hb (Option.some.inj q.2),fun q=>h8 q.1⟩
    rw[cond_f e8,chk_f e8,chk_f e8,chk_f e8,e8,decide_eq_true q]
    rfl
theorem tkS_eq {nl:Option Bool}{l:List UInt8}(hl:l.length≤1000000){bad:Bool}{m:Int}{K:Option Bool→Nat→List PV→Bool→Option Bool→Nat→List PV→Bool→Option R} :
  tkS nl l.length (bC l) bad m K=K (tkF nl bad l m) (tkR bad l m).length (bC (tkR bad l m)) (!tkB bad l m) (tkF nl bad l m) (tkO bad l m).length (bC (tkO bad l m)) (tkB bad l m):=by
 unfold tkS
 rw[decY_bC,Option.bind_some,cond_t (decide_eq_true hl)]
def rF (nl:Option Bool)(o:Option (List UInt8)):Option Bool:=match o with|some _=>nl|none=>some true
def rL (o:Option (List UInt8)):List UInt8:=match o with|some l=>l|none=>[]
def rZ (o:Option (List UInt8)):Bool:=match o with|some _=>false|none=>true
def rdB (nl:Option Bool)(o:Option (List UInt8)):List PV:=[.sl (rF nl o) 1 (rL o).length (bC (rL o)),.bool (rZ o)]
def nmO (l:List UInt8):Option (Int×List UInt8):=(getN l).map fun p=>(p.1,l.drop p.2)
def nV (o:Option (Int×List UInt8)):Int:=match o with|some p=>p.1|none=>0
def nR (o:Option (Int×List UInt8)):Option (List UInt8):=o.map (·.2)
theorem nm_bad (nl:Option Bool)(l:List UInt8)(hl:l.length≤1000000):prunH enNm hNm fu fNm [[.sl nl 1 l.length (bC l),.bool true]] [.ptr 0 0] kk=kk [rdB nl none] (.int .i64 0):=by
 rw[nm_raw,tkS_eq hl]
 rfl
theorem nm_eq (nl:Option Bool)(l:List UInt8)(hl:l.length≤1000000)(hf:9≤fu):prunH enNm hNm fu fNm [[.sl nl 1 l.length (bC l),.bool false]] [.ptr 0 0] kk=kk [rdB nl (nR (nmO l))] (.int .i64 (nV (nmO l))):=by
 rw[nm_raw,tkS_eq hl]
 match l,hl with
 |[],_=>rfl
 |h::r,hl =>
  have e1:tkB false (h::r) 1=true:=by
   unfold tkB
   rw[decide_eq_true (by decide),decide_eq_true (by rw[List.length_cons];omega)]
   rfl
  have e2:tkO false (h::r) 1=[h]:=by unfold tkO;rw[e1];rfl
  have e3:tkR false (h::r) 1=r:=by unfold tkR;rw[e1];rfl
  have e4:tkF nl false (h::r) 1=nl:=by unfold tkF;rw[e1];rfl
  rw[e1,e2,e3,e4,Bool.not_true,cond_false]
  refine (u8I_eq (l:=[h]) (i:=0) rfl).trans ?_
  refine (u8I_eq (l:=[h]) (i:=0) rfl).trans ?_
  rw[bit143 ⟨h.toNat,h.toNat_lt⟩,bit15 ⟨h.toNat,h.toNat_lt⟩]
  unfold nmO getN
  simp only
  by_cases h8:kOf h≤8
  ·rw[cond_f (by rw[decide_eq_true (show h.toNat%128≤8 from h8)];rfl),wrapI_of (by omega) (by omega),show h.toNat%16=kOf h by unfold kOf at h8 ⊢;omega]
   have hr:r.length≤1000000:=by simp at hl;omega
   rw[tkS_eq hr]
   by_cases hk:kOf h≤r.length
   ·have f1:tkB false r (kOf h:Int)=true:=by
     unfold tkB
     rw[decide_eq_true (by omega),decide_eq_true (by omega)]
     rfl
    have f2:tkO false r (kOf h:Int)=r.take (kOf h):=by unfold tkO;rw[f1];rfl
    have f3:tkR false r (kOf h:Int)=r.drop (kOf h):=by unfold tkR;rw[f1];rfl
    have f4:tkF nl false r (kOf h:Int)=nl:=by unfold tkF;rw[f1];rfl
    have hlen:(r.take (kOf h)).length=kOf h:=by rw[List.length_take];omega
    rw[f1,f2,f3,f4,Bool.not_true]
    have ht:=nm_t1 (R:=R) (r.take (kOf h)) (by omega)
    rw[hlen] at ht ⊢
    rw[ht]
    have hq:(¬ (0<kOf h∧(r.take (kOf h)).head? = some 0)∧¬ (kOf h=8∧∃ b,(r.take (kOf h)).head? = some b∧127<b.toNat))↔(¬ (0<kOf h∧r.head? = some 0)∧¬ (kOf h=8∧∃ b,r.head? = some b∧127<b.toNat)):=by
     by_cases h0:kOf h=0
     ·rw[h0];simp
     ·rw[List.head?_take,if_neg h0]
    by_cases hp:(¬ (0<kOf h∧r.head? = some 0)∧¬ (kOf h=8∧∃ b,r.head? = some b∧127<b.toNat))
    ·rw[decide_eq_true (hq.2 hp),if_pos ⟨h8,hk,hp⟩,Bool.not_true,cond_false]
     have hL:=nm_loop fu kk nl h (r.take (kOf h)) nl nl (r.drop (kOf h)).length (bC (r.drop (kOf h))) false (by omega) (be_63 h8 hk hp.2) (kOf h) 0 fu (by omega) (by omega)
     rw[hlen] at hL
     refine hL.trans ?_
     have e9:(h::r).drop (1+kOf h)=r.drop (kOf h):=by rw[Nat.add_comm,List.drop_succ_cons]
     show _=kk [rdB nl (some ((h::r).drop (1+kOf h)))] _
     rw[e9]
     rfl
    ·rw[decide_eq_false (fun q=>hp (hq.1 q)),if_neg (fun q=>hp q.2.2)]
     rfl
   ·have f1:tkB false r (kOf h:Int)=false:=by
     unfold tkB
     rw[decide_eq_true (by omega),decide_eq_false (by omega)]
     rfl
    have f2:tkO false r (kOf h:Int)=[]:=by unfold tkO;rw[f1];rfl
    rw[f1,f2,if_neg (fun q=>hk q.2.1)]
    refine (nm_t0 _ _).trans ?_
    rfl
  ·rw[cond_t (by rw[decide_eq_false (show ¬ h.toNat%128≤8 from h8)];rfl),if_neg (fun q=>h8 q.1)]
   rfl
end
def nm2 (bad:Bool)(l:List UInt8):Option (Int×List UInt8):=bif bad then none else nmO l
def hNum:HFn:=⟨fun bs xs k=>match bs,xs with
 |[[.sl nl 1 n c,.bool bad]],[.ptr 0 0]=>(decY n c).bind fun l=>bif decide (l.length≤1000000) then k [rdB nl (nR (nm2 bad l))] (.int .i64 (nV (nm2 bad l))) else none
 |_,_=>none⟩
theorem bindH_nat {R:Type}{a:Option (List UInt8)}{g:List UInt8→Bool}{b:List UInt8→List (List PV)}{v:List UInt8→PV}{k:List (List PV)→PV→Option R} :
  (a.bind fun l=>bif g l then k (b l) (v l) else none)=(a.bind fun l=>bif g l then some (b l,v l) else none).bind fun r=>k r.1 r.2:=by
 rw[Option.bind_assoc]
 congr 1
 funext l
 cases g l<;>rfl
theorem bindH_inv {a:Option (List UInt8)}{g:List UInt8→Bool}{b:List UInt8→List (List PV)}{v:List UInt8→PV}{r:List (List PV)×PV}(h:(a.bind fun l=>bif g l then some (b l,v l) else none)=some r) :
  ∃ l,a=some l∧g l=true∧r=(b l,v l):=by
 obtain⟨l,h1,h2⟩:=Option.bind_eq_some_iff.1 h
 rcases hg:g l with _|_<;>rw[hg] at h2
 ·cases h2
 ·exact⟨l,h1,hg,(Option.some.inj h2).symm⟩
theorem ok_hNum:HOK NGk Tabs 95 hNum:=by
 refine hok wokk allOK_nil (allH_cons ok_hTk (allH_cons ok_hFl allH_nil)) allI_nil (h:=hNm) Tryz.func95 rfl (by decide) ?_ ?_
 ·intro R bs xs k
  simp only[hNum]
  split
  ·exact bindH_nat
  ·rfl
 ·intro bs xs r h
  simp only[hNum] at h
  split at h
  ·rename_i nl n c bad
   obtain⟨l,h1,hb,rfl⟩:=bindH_inv h
   obtain⟨rfl,rfl⟩:=decY_inv h1
   simp only[decide_eq_true_eq] at hb
   cases bad with
   |true=>exact⟨10,nm_bad 10 _ nl l hb⟩
   |false=>exact⟨10,nm_eq 10 _ nl l hb (by omega)⟩
  ·cases h
def numS {R:Type}(nl:Option Bool)(n:Nat)(c:List PV)(bad:Bool)(K:Option Bool→Nat→List PV→Bool→Int→Option R):Option R :=
 (decY n c).bind fun l=>bif decide (l.length≤1000000) then K (rF nl (nR (nm2 bad l))) (rL (nR (nm2 bad l))).length (bC (rL (nR (nm2 bad l)))) (rZ (nR (nm2 bad l))) (nV (nm2 bad l)) else none
theorem numS_eq {R:Type}{nl:Option Bool}{l:List UInt8}(hl:l.length≤1000000){bad:Bool}{K:Option Bool→Nat→List PV→Bool→Int→Option R} :
  numS nl l.length (bC l) bad K=K (rF nl (nR (nm2 bad l))) (rL (nR (nm2 bad l))).length (bC (rL (nR (nm2 bad l)))) (rZ (nR (nm2 bad l))) (nV (nm2 bad l)):=by
 unfold numS
 rw[decY_bC,Option.bind_some,cond_t (decide_eq_true hl)]
noncomputable def lhC:List (FuncId×HFn):=[(95,hNum),(118,hFl)]
theorem ok_lhC:AllH NGk Tabs lhC:=allH_cons ok_hNum (allH_cons ok_hFl allH_nil)
section
variable {R:Type} (nl:Option Bool) (n:Nat) (c:List PV) (bad:Bool) (kk:List (List PV)→PV→Option R)
theorem cn_raw (most:Int):prunH (enH [] lhC []) ⟨[],[]⟩ 0 Tryz.f94 [[.sl nl 1 n c,.bool bad]] [.ptr 0 0,.int .i64 most] kk =
  numS nl n c bad fun nl n c bad v=>bif (bif decide (v<0) then true else decide (most<v)) then kk [[.sl (some true) 1 0 [],.bool true]] (.int .i64 0) else kk [[.sl nl 1 n c,.bool bad]] (.int .i64 v):=by kernel_rfl
theorem okk_raw:prunH (enH [] [] []) ⟨[],[]⟩ 0 Tryz.f123 [[.sl nl 1 n c,.bool bad]] [.ptr 0 0] kk=kk [[.sl nl 1 n c,.bool bad]] (.bool (!bad)):=by kernel_rfl
end
def cn2 (bad:Bool)(l:List UInt8)(most:Int):Option (Int×List UInt8):=(nm2 bad l).bind fun p=>bif (bif decide (p.1<0) then true else decide (most<p.1)) then none else some p
def hCnt:HFn:=⟨fun bs xs k=>match bs,xs with
 |[[.sl nl 1 n c,.bool bad]],[.ptr 0 0,.int .i64 most]=>(decY n c).bind fun l=>bif decide (l.length≤1000000)&&decide (0≤most) then k [rdB nl (nR (cn2 bad l most))] (.int .i64 (nV (cn2 bad l most))) else none
 |_,_=>none⟩
theorem ok_hCnt:HOK NGk Tabs 94 hCnt:=by
 refine hok wokk allOK_nil ok_lhC allI_nil (h:=⟨[],[]⟩) Tryz.func94 rfl (by decide) ?_ ?_
 ·intro R bs xs k
  simp only[hCnt]
  split
  ·exact bindH_nat
  ·rfl
 ·intro bs xs r h
  simp only[hCnt] at h
  split at h
  ·rename_i nl n c bad most
   obtain⟨l,h1,hb,rfl⟩:=bindH_inv h
   obtain⟨rfl,rfl⟩:=decY_inv h1
   simp only[Bool.and_eq_true,decide_eq_true_eq] at hb
   refine⟨0,(cn_raw ..).trans ?_⟩
   rw[numS_eq hb.1]
   unfold cn2
   rcases nm2 bad l with _|⟨v,q⟩
   ·rw[cond_f]
    ·rfl
    ·show (bif decide ((0:Int)<0) then true else decide (most<0))=false
     rw[decide_eq_false (by omega),decide_eq_false (by omega)]
     rfl
   ·rw[Option.bind_some]
    show (bif (bif decide (v<0) then true else decide (most<v)) then _ else _)=_
    cases (bif decide (v<0) then true else decide (most<v))<;>rfl
  ·cases h
def hOk:HFn:=⟨fun bs xs k=>match bs,xs with|[[.sl nl 1 n c,.bool bad]],[.ptr 0 0]=>k [[.sl nl 1 n c,.bool bad]] (.bool (!bad))|_,_=>none⟩
theorem ok_hOk:HOK NGk Tabs 123 hOk:=by
 refine hok wokk allOK_nil allH_nil allI_nil (h:=⟨[],[]⟩) Tryz.func123 rfl (by decide) ?_ ?_
 ·intro R bs xs k
  simp only[hOk]
  split<;>rfl
 ·intro bs xs r h
  simp only[hOk] at h
  split at h
  ·exact⟨0,(okk_raw ..).trans h⟩
  ·cases h
noncomputable def lhT:List (FuncId×HFn):=[(95,hNum),(123,hOk),(119,hTk),(94,hCnt)]
theorem ok_lhT:AllH NGk Tabs lhT:=allH_cons ok_hNum (allH_cons ok_hOk (allH_cons ok_hTk (allH_cons ok_hCnt allH_nil)))
section
variable {R:Type} (nl:Option Bool) (n:Nat) (c:List PV) (kk:List (List PV)→PV→Option R)
theorem en_raw0:prunH (enH [] lhT []) ⟨[],[]⟩ 0 Tryz.f97 [[.sl nl 1 n c,.bool false]] [.ptr 0 0] kk=kk [[.sl nl 1 n c,.bool false]] (.bool ((n:Int)==0)):=by kernel_rfl
theorem en_raw1:prunH (enH [] lhT []) ⟨[],[]⟩ 0 Tryz.f97 [[.sl nl 1 n c,.bool true]] [.ptr 0 0] kk=kk [[.sl nl 1 n c,.bool true]] (.bool false):=by kernel_rfl
theorem tx_raw1:prunH (enH [] lhT []) ⟨[],[]⟩ 0 Tryz.f122 [[.sl nl 1 n c,.bool true]] [.ptr 0 0] kk=kk [[.sl nl 1 n c,.bool true]] (.str []):=by kernel_rfl
theorem tx_raw0:prunH (enH [] lhT []) ⟨[],[]⟩ 0 Tryz.f122 [[.sl nl 1 n c,.bool false]] [.ptr 0 0] kk =
  numS nl n c false fun nl n c bad v=>tkS nl n c bad v fun nl n c bad no lo co ok=>(pbytes co).bind fun s=>kk [[.sl nl 1 n c,.bool bad]] (.str s):=by kernel_rfl
theorem fg_raw (bad:Bool):prunH (enH [] lhT []) ⟨[],[]⟩ 0 Tryz.f121 [[.sl nl 1 n c,.bool bad]] [.ptr 0 0] kk =
  (decY n c).bind fun l=>bif decide (l.length≤1000000)&&decide ((0:Int)≤1) then kk [rdB nl (nR (cn2 bad l 1))] (.bool (nV (cn2 bad l 1)==1)) else none:=by kernel_rfl
end
def hEnd:HFn:=⟨fun bs xs k=>match bs,xs with|[[.sl nl 1 n c,.bool bad]],[.ptr 0 0]=>k [[.sl nl 1 n c,.bool bad]] (.bool (bif bad then false else ((n:Int)==0)))|_,_=>none⟩
theorem ok_hEnd:HOK NGk Tabs 97 hEnd:=by
 refine hok wokk allOK_nil ok_lhT allI_nil (h:=⟨[],[]⟩) Tryz.func97 rfl (by decide) ?_ ?_
 ·intro R bs xs k
  simp only[hEnd]
  split<;>rfl
 ·intro bs xs r h
  simp only[hEnd] at h
  split at h
  ·rename_i nl n c bad
   cases bad with
   |true=>exact⟨0,(en_raw1 ..).trans h⟩
   |false=>exact⟨0,(en_raw0 ..).trans h⟩
  ·cases h
def hFlag:HFn:=⟨fun bs xs k=>match bs,xs with
 |[[.sl nl 1 n c,.bool bad]],[.ptr 0 0]=>(decY n c).bind fun l=>bif decide (l.length≤1000000) then k [rdB nl (nR (cn2 bad l 1))] (.bool (nV (cn2 bad l 1)==1)) else none
 |_,_=>none⟩
theorem ok_hFlag:HOK NGk Tabs 121 hFlag:=by
 refine hok wokk allOK_nil ok_lhT allI_nil (h:=⟨[],[]⟩) Tryz.func121 rfl (by decide) ?_ ?_
 ·intro R bs xs k
  simp only[hFlag]
  split
  ·exact bindH_nat
  ·rfl
 ·intro bs xs r h
  simp only[hFlag] at h
  split at h
  ·rename_i nl n c bad
   obtain⟨l,h1,hb,rfl⟩:=bindH_inv h
   obtain⟨rfl,rfl⟩:=decY_inv h1
   refine⟨0,(fg_raw ..).trans ?_⟩
   rw[decY_bC,Option.bind_some,cond_t (by rw[hb];rfl)]
  ·cases h
def tx2 (bad:Bool)(l:List UInt8):Option (List UInt8×List UInt8):=bif bad then none else (getT l).map fun p=>(p.1,l.drop p.2)
def tV (o:Option (List UInt8×List UInt8)):List UInt8:=match o with|some p=>p.1|none=>[]
def tR (o:Option (List UInt8×List UInt8)):Option (List UInt8):=o.map (·.2)
def txG (nl:Option Bool)(bad:Bool)(l:List UInt8):Bool:=bif bad then decide (l=[])&&decide (nl=some true) else true
def hText:HFn:=⟨fun bs xs k=>match bs,xs with
 |[[.sl nl 1 n c,.bool bad]],[.ptr 0 0]=>(decY n c).bind fun l=>bif decide (l.length≤1000000)&&txG nl bad l then k [rdB nl (tR (tx2 bad l))] (.str (tV (tx2 bad l))) else none
 |_,_=>none⟩
theorem ok_hText:HOK NGk Tabs 122 hText:=by
 refine hok wokk allOK_nil ok_lhT allI_nil (h:=⟨[],[]⟩) Tryz.func122 rfl (by decide) ?_ ?_
 ·intro R bs xs k
  simp only[hText]
  split
  ·exact bindH_nat
  ·rfl
 ·intro bs xs r h
  simp only[hText] at h
  split at h
  ·rename_i nl n c bad
   obtain⟨l,h1,hb,rfl⟩:=bindH_inv h
   obtain⟨rfl,rfl⟩:=decY_inv h1
   simp only[Bool.and_eq_true,decide_eq_true_eq] at hb
   cases bad with
   |true =>
    have hb2:=hb.2
    simp only[txG,cond_true,Bool.and_eq_true,decide_eq_true_eq] at hb2
    obtain⟨rfl,rfl⟩:=hb2
    exact⟨0,tx_raw1 ..⟩
   |false =>
    refine⟨0,(tx_raw0 ..).trans ?_⟩
    rw[numS_eq hb.1]
    unfold tx2 nm2 nmO getT
    simp only[cond_false]
    rcases hn:getN l with _|⟨v,k⟩
    ·refine (tkS_eq (l:=[]) (by simp)).trans ?_
     rfl
    ·obtain⟨k1,k2,v1,v2⟩:=getN_k hn
     simp only[Option.map_some]
     have hd:(l.drop k).length≤1000000:=by rw[List.length_drop];omega
     refine (tkS_eq (l:=l.drop k) hd).trans ?_
     show ((pbytes (bC (tkO false (l.drop k) v))).bind fun s=>some ([[PV.sl (tkF nl false (l.drop k) v) 1 (tkR false (l.drop k) v).length (bC (tkR false (l.drop k) v)),.bool (!tkB false (l.drop k) v)]],PV.str s))=_
     rw[pbytes_bC,Option.bind_some]
     unfold tkO tkR tkF
     by_cases hv:v<0∨(l.length:Int)-(k:Int)<v
     ·have e:tkB false (l.drop k) v=false:=by
       unfold tkB
       rw[List.length_drop]
       rcases hv with h|h
       ·rw[decide_eq_false (by omega)];rfl
       ·rw[decide_eq_false (show ¬ v≤((l.length-k:Nat):Int) by omega)];simp
      rw[e,if_pos hv]
      rfl
     ·have e:tkB false (l.drop k) v=true:=by
       unfold tkB
       rw[List.length_drop,decide_eq_true (by omega),decide_eq_true (by omega)]
       rfl
      rw[e,if_neg hv]
      simp only[cond_true,List.drop_drop]
      rfl
  ·cases h
def b1 (b:Bool):Int:=bif b then 1 else 0
def p_Bool:PFn:=⟨fun xs k=>match xs with|[.bool b]=>k (.agg [.int .i64 1,.int .i64 (b1 b),.int .i64 0,.str []])|_=>none,false⟩
theorem ok_Bool:FOK NGk Tabs 120 p_Bool:=by
 refine fok wokk allOK_nil (h:=⟨[],[]⟩) Tryz.func120 rfl (by decide) ?_ ?_
 ·intro R xs k
  simp only[p_Bool]
  split<;>rfl
 ·intro xs r h
  simp only[p_Bool] at h
  split at h
  ·rename_i b
   obtain rfl:=Option.some.inj h
   cases b with
   |true=>exact⟨0,by kernel_rfl⟩
   |false=>exact⟨0,by kernel_rfl⟩
  ·cases h
theorem cl_raw (n:Nat)(c:List PV):prun (en []) ⟨[],[]⟩ 0 false Tryz.f80 [.sl (some false) 1 n c] =
  bif decide (0+n≤9223372036854775807)&&decide ((0+n) * bytesOf Tryz.prog 5≤roomB) then some (.sl ((some false).map (· && (n==0))) 1 (0+n) ([]++c)) else none:=by kernel_rfl
def p_clB:PFn:=⟨fun xs k=>match xs with|[.sl (some false) 1 n c]=>(decY n c).bind fun l=>bif decide (l.length≤1000000) then k (.sl (some false) 1 l.length (bC l)) else none|_=>none,false⟩
theorem ok_clB:FOK NGk Tabs 80 p_clB:=by
 refine fok wokk allOK_nil (h:=⟨[],[]⟩) Tryz.func80 rfl (by decide) ?_ ?_
 ·intro R xs k
  simp only[p_clB]
  split
  ·exact bindY_nat
  ·rfl
 ·intro xs r h
  simp only[p_clB] at h
  split at h
  ·rename_i n c
   obtain⟨l,h1,hg,rfl⟩:=bindY_inv h
   obtain⟨rfl,rfl⟩:=decY_inv h1
   simp only[decide_eq_true_eq] at hg
   refine⟨0,(cl_raw ..).trans ?_⟩
   rw[show bytesOf Tryz.prog 5=1 by kernel_rfl,cond_t (by rw[decide_eq_true (by omega),decide_eq_true (by unfold roomB;omega)];rfl),Nat.zero_add,List.nil_append]
   rfl
  ·cases h
def hRead:HFn:=⟨fun bs xs k=>match bs,xs with
 |[],[.sl (some false) 1 n c]=>(decY n c).bind fun l=>bif decide (l.length≤1000000) then k [rdB (some false) (some l)] (.ptr 0 0) else none
 |_,_=>none⟩
theorem rd_raw {R:Type}(n:Nat)(c:List PV)(kk:List (List PV)→PV→Option R):prunH (enH [(80,p_clB)] [] []) ⟨[],[]⟩ 0 Tryz.f93 [] [.sl (some false) 1 n c] kk =
  (decY n c).bind fun l=>bif decide (l.length≤1000000) then kk [[.sl (some false) 1 l.length (bC l),.bool false]] (.ptr 0 0) else none:=by kernel_rfl
theorem ok_hRead:HOK NGk Tabs 93 hRead:=by
 refine hok wokk (allOK_cons ok_clB allOK_nil) allH_nil allI_nil (h:=⟨[],[]⟩) Tryz.func93 rfl (by decide) ?_ ?_
 ·intro R bs xs k
  simp only[hRead]
  split
  ·exact bindH_nat
  ·rfl
 ·intro bs xs r h
  simp only[hRead] at h
  split at h
  ·exact⟨0,(rd_raw ..).trans h⟩
  ·cases h
noncomputable def lpGt:List (FuncId×PFn):=[(120,p_Bool)]
noncomputable def lhGt:List (FuncId×HFn):=[(95,hNum),(121,hFlag),(122,hText)]
theorem ok_lhGt:AllH NGk Tabs lhGt:=allH_cons ok_hNum (allH_cons ok_hFlag (allH_cons ok_hText allH_nil))
def flS {R:Type}(nl:Option Bool)(n:Nat)(c:List PV)(bad:Bool)(K:Option Bool→Nat→List PV→Bool→Bool→Option R):Option R :=
 (decY n c).bind fun l=>bif decide (l.length≤1000000) then K (rF nl (nR (cn2 bad l 1))) (rL (nR (cn2 bad l 1))).length (bC (rL (nR (cn2 bad l 1)))) (rZ (nR (cn2 bad l 1))) (nV (cn2 bad l 1)==1) else none
def txS {R:Type}(nl:Option Bool)(n:Nat)(c:List PV)(bad:Bool)(K:Option Bool→Nat→List PV→Bool→List UInt8→Option R):Option R :=
 (decY n c).bind fun l=>bif decide (l.length≤1000000)&&txG nl bad l then K (rF nl (tR (tx2 bad l))) (rL (tR (tx2 bad l))).length (bC (rL (tR (tx2 bad l)))) (rZ (tR (tx2 bad l))) (tV (tx2 bad l)) else none
def agV (a n c:Int)(s:List UInt8):PV:=.agg [.int .i64 a,.int .i64 n,.int .i64 c,.str s]
theorem gt_raw {R:Type}(nl:Option Bool)(n:Nat)(c:List PV)(bad:Bool)(kk:List (List PV)→PV→Option R) :
  prunH (enH lpGt lhGt []) ⟨[],[]⟩ 0 Tryz.f96 [[.sl nl 1 n c,.bool bad]] [.ptr 0 0] kk =
   numS nl n c bad fun nl n c bad k=>bif k==1 then flS nl n c bad fun nl n c bad b=>kk [[.sl nl 1 n c,.bool bad]] (agV 1 (b1 b) 0 [])
    else bif k==2 then numS nl n c bad fun nl n c bad x=>kk [[.sl nl 1 n c,.bool bad]] (agV k x 0 [])
    else bif k==3 then numS nl n c bad fun nl n c bad x=>numS nl n c bad fun nl n c bad y=>kk [[.sl nl 1 n c,.bool bad]] (agV k y x [])
    else txS nl n c bad fun nl n c bad s=>kk [[.sl nl 1 n c,.bool bad]] (agV k 0 0 s):=by kernel_rfl
def rgtG (q a:Int):Bool:=bif decide (0≤q) then !(a==0) else false
theorem rt_raw (q a n c:Int)(s:List UInt8):prun (en [(109,p_rightV)]) ⟨[],[]⟩ 0 false Tryz.f124 [.agg [.int .i64 q,.int .i64 a,.int .i64 n,.int .i64 c,.str s]] =
  bif rgtG q a then rightO' a n c s fun z=>some (.bool z) else some (.bool false):=by kernel_rfl
def rrV (q a n c:Int)(s:List UInt8):Bool:=bif rgtG q a then rightB a n c s else false
def p_rr:PFn:=⟨fun xs k=>match xs with|[.agg [.int .i64 q,.int .i64 a,.int .i64 n,.int .i64 c,.str s]]=>bif decide (s.length≤1000000) then (bif rrV q a n c s then k (.bool true) else k (.bool false)) else none|_=>none,false⟩
theorem ok_rr:FOK NGk Tabs 124 p_rr:=by
 refine fok wokk (allOK_cons ok_rightV allOK_nil) (h:=⟨[],[]⟩) Tryz.func124 rfl (by decide) ?_ ?_
 ·intro R xs k
  simp only[p_rr]
  split
  ·rename_i q a n c s
   cases decide (s.length≤1000000)<;>cases rrV q a n c s<;>rfl
  ·rfl
 ·intro xs r h
  simp only[p_rr] at h
  split at h
  ·rename_i q a n c s
   refine⟨0,(rt_raw ..).trans ?_⟩
   unfold rightO'
   unfold rrV at h
   rcases hb:decide (s.length≤1000000) with _|_<;>rw[hb] at h
   ·cases h
   ·rw[cond_true] at h ⊢
    cases hg:rgtG q a<;>rw[hg] at h
    ·exact h
    ·rw[cond_true] at h ⊢
     cases hr:rightB a n c s<;>rw[hr] at h<;>exact h
  ·cases h
noncomputable def lRo:List (FuncId×PFn):=[(124,p_rr)]
def hRo:Hints:=⟨[],[(0,⟨[(0,false),(5,false),(6,false),(7,false)],[]⟩)]⟩
def frRo (n0:Option Bool)(l0:Nat)(c0:List PV)(L i:Int):St:=frame 31 [(0,(.sl n0 5 l0 c0,0)),(5,(.sl n0 5 l0 c0,0)),(6,(.int .i64 L,0)),(7,(.int .i64 i,0))] []
noncomputable def roLoop (fu n:Nat)(st:St):Option PV:=loopF (en lRo) hRo fu false Tryz.f98 [1,0,1,0] 0 n st
def rrS {R:Type}(q a n c:Int)(s:List UInt8)(x y:Option R):Option R:=bif decide (s.length≤1000000) then (bif rrV q a n c s then x else y) else none
def colI {R:Type}(n:Nat)(c:List PV)(i:Int)(K:Int→Option R):Option R:=bif decide (0≤i)&&decide (i<(n:Int)) then ((c.drop (i.toNat * 5)).take 5).head?.bind fun v=>(PV.asInt .i64 v).bind K else none
theorem rwr_raw (fu:Nat)(n0:Option Bool)(l0:Nat)(c0:List PV):prun (en lRo) hRo fu false Tryz.f98 [.sl n0 5 l0 c0]=roLoop fu fu (frRo n0 l0 c0 (l0:Int) 0):=prunN_eq.trans (by kernel_rfl)
def chk8 {R:Type}(g:Bool)(x:Option R):Option R:=chk g (chk g (chk g (chk g (chk g (chk g (chk g (chk g x)))))))
theorem rwr_step (fu:Nat)(n0:Option Bool)(l0:Nat)(c0:List PV)(L i:Int)(K:St→Option PV) :
  stepF (en lRo) hRo fu false Tryz.f98 [1,0,1,0] (frRo n0 l0 c0 L i) (fun st=>pnorm (hRo.loop.lookup 0) st K) =
  bif decide (i<L) then ixC l0 c0 i fun q a n b s=>rrS q a n b s
    (bif decide (0<i) then colI l0 c0 (IntKind.i64.wrap (i-1)) fun p=>bif decide (q≤p) then some (.bool false) else K (frRo n0 l0 c0 L (IntKind.i64.wrap (i+1)))
     else chk8 (decide (0<i)) (bif (bif decide (0<i) then false else false) then some (.bool false) else K (frRo n0 l0 c0 L (IntKind.i64.wrap (i+1)))))
    (some (.bool false))
  else some (.bool true):=by kernel_rfl
theorem colI_eq {R:Type}{l:List Cel}{i:Nat}{x:Cel}{K:Int→Option R}(h:l[i]? = some x):colI l.length (celsC l) (i:Int) K=K x.1:=by
 have:=(List.getElem?_eq_some_iff.1 h).1
 unfold colI
 rw[cond_t (by rw[decide_eq_true (by omega),decide_eq_true (by omega)];rfl),Int.toNat_natCast,celsC,flat_at celC_len h]
 rfl
theorem ro_loop (fu:Nat)(n0:Option Bool)(l:List Cel)(hl:l.length≤1000000)(hs:∀ c∈l,c.2.s.length≤1000000):∀ (k i n:Nat) (was:Int),i+k=l.length→k<n→-1≤was→(i=0→was=-1) →
  (∀ j,i=j+1→∃ c,l[j]? = some c∧was=c.1) →
  roLoop fu n (frRo n0 l.length (celsC l) (l.length:Int) (i:Int))=some (.bool (rowR was (l.drop i)))
 |k,i,0,_,_,h,_,_,_=>by omega
 |0,i,n+1,was,hi,hn,_,_,_=>by
  unfold roLoop
  rw[loopF_succ,rwr_step,cond_f (decide_eq_false (by omega)),List.drop_of_length_le (by omega)]
  rfl
 |k+1,i,n+1,was,hi,hn,hw,h0,h1=>by
  unfold roLoop
  have hc:=List.getElem?_eq_getElem (l:=l) (i:=i) (by omega)
  have hsc:=hs l[i] (List.getElem_mem _)
  have ih:=ro_loop fu n0 l hl hs k (i+1) n l[i].1 (by omega) (by omega)
  unfold roLoop at ih
  rw[loopF_succ,rwr_step,cond_t (decide_eq_true (by omega)),ixC_eq hc,wrapI_of (x:=(i:Int)+1) (by omega) (by omega),List.drop_eq_getElem_cons (show i<l.length by omega),rowR]
  unfold rrS
  rw[cond_t (decide_eq_true hsc)]
  unfold rrV rgtG
  rw[right_B]
  by_cases hq:0≤l[i].1
  ·rw[decide_eq_true hq,cond_true]
   rcases hk:(l[i].2.kind==0) with _|_
   ·rw[Bool.not_false,cond_true,Bool.or_false]
    rcases hr:right l[i].2 with _|_
    ·rw[cond_false,cond_false]
     cases decide (l[i].1≤was)<;>rfl
    ·rw[cond_true,cond_true]
     by_cases hi0:i=0
     ·have hwas:=h0 hi0
      subst hi0
      rw[cond_f (decide_eq_false (by omega)),decide_eq_false (show ¬ l[0].1≤was by omega),cond_false]
      unfold chk8
      rw[chk_f (by rfl),chk_f (by rfl),chk_f (by rfl),chk_f (by rfl),chk_f (by rfl),chk_f (by rfl),chk_f (by rfl),chk_f (by rfl)]
      exact ih (by omega) (fun h=>by omega) (fun j hj=>⟨l[0],by rw[show j=0 by omega];exact hc,rfl⟩)
     ·obtain⟨c,hj,rfl⟩:=h1 (i-1) (by omega)
      rw[cond_t (decide_eq_true (by omega)),wrapI_of (by omega) (by omega),show (i:Int)-1=((i-1:Nat):Int) by omega,colI_eq hj]
      cases decide (l[i].1≤c.1)
      ·exact ih (by omega) (fun h=>by omega) (fun j hj=>⟨l[i],by rw[show j=i by omega];exact hc,rfl⟩)
      ·rfl
   ·rw[Bool.not_true,cond_false,cond_false,Bool.or_true]
    rfl
  ·rw[decide_eq_false hq,cond_false,cond_false,decide_eq_true (show l[i].1≤was by omega),Bool.true_or]
   rfl
theorem ok_rowRp:FOK NGk Tabs 98 p_rowR:=by
 refine fok wokk (allOK_cons ok_rr allOK_nil) (h:=hRo) Tryz.func98 rfl (by decide) ?_ ?_
 ·intro R xs k
  simp only[p_rowR]
  split
  ·exact bindL_nat
  ·rfl
 ·intro xs r h
  simp only[p_rowR] at h
  split at h
  ·rename_i n0 n c
   obtain⟨l,h1,hg,rfl⟩:=bindL_inv h
   obtain⟨rfl,rfl⟩:=decG_inv celG_inv h1
   simp only[Bool.and_eq_true,decide_eq_true_eq,List.all_eq_true] at hg
   refine⟨l.length+1,(rwr_raw ..).trans ?_⟩
   exact ro_loop _ n0 l hg.1 hg.2 l.length 0 (l.length+1) (-1) (by omega) (by omega) (by omega) (fun _=>rfl) (fun j hj=>by omega)
  ·cases h
def numO (o:Option (List UInt8)):Option (Int×List UInt8):=o.bind nmO
def flO (o:Option (List UInt8)):Option (Int×List UInt8):=o.bind fun l=>cn2 false l 1
def txO (o:Option (List UInt8)):Option (List UInt8×List UInt8):=o.bind fun l=>tx2 false l
def getW (o:Option (List UInt8)):Val×Option (List UInt8) :=
 if nV (numO o)=1 then (⟨1,b1 (nV (flO (nR (numO o)))==1),0,[]⟩,nR (flO (nR (numO o))))
 else if nV (numO o)=2 then (⟨nV (numO o),nV (numO (nR (numO o))),0,[]⟩,nR (numO (nR (numO o))))
 else if nV (numO o)=3 then (⟨nV (numO o),nV (numO (nR (numO (nR (numO o))))),nV (numO (nR (numO o))),[]⟩,nR (numO (nR (numO (nR (numO o))))))
 else (⟨nV (numO o),0,0,tV (txO (nR (numO o)))⟩,tR (txO (nR (numO o))))
section
variable {R:Type} {nl:Option Bool} {o:Option (List UInt8)}
theorem numS_o (h:(rL o).length≤1000000){K:Option Bool→Nat→List PV→Bool→Int→Option R}:numS (rF nl o) (rL o).length (bC (rL o)) (rZ o) K =
  K (rF nl (nR (numO o))) (rL (nR (numO o))).length (bC (rL (nR (numO o)))) (rZ (nR (numO o))) (nV (numO o)):=by
 rw[numS_eq h]
 cases o<;>rfl
theorem flS_o (h:(rL o).length≤1000000){K:Option Bool→Nat→List PV→Bool→Bool→Option R}:flS (rF nl o) (rL o).length (bC (rL o)) (rZ o) K =
  K (rF nl (nR (flO o))) (rL (nR (flO o))).length (bC (rL (nR (flO o)))) (rZ (nR (flO o))) (nV (flO o)==1):=by
 unfold flS
 rw[decY_bC,Option.bind_some,cond_t (decide_eq_true h)]
 cases o<;>rfl
theorem txS_o (h:(rL o).length≤1000000){K:Option Bool→Nat→List PV→Bool→List UInt8→Option R}:txS (rF nl o) (rL o).length (bC (rL o)) (rZ o) K =
  K (rF nl (tR (txO o))) (rL (tR (txO o))).length (bC (rL (tR (txO o)))) (rZ (tR (txO o))) (tV (txO o)):=by
 unfold txS
 rw[decY_bC,Option.bind_some,cond_t (by rw[decide_eq_true h];cases o<;>rfl)]
 cases o<;>rfl
end
theorem nmO_len {l r:List UInt8}{v:Int}(h:nmO l=some (v,r)):r.length≤l.length:=by
 unfold nmO at h
 rcases hn:getN l with _|⟨w,k⟩
 ·rw[hn] at h;cases h
 ·rw[hn] at h
  injection h with h
  injection h with _ h
  subst h
  rw[List.length_drop]
  omega
theorem numO_len (o:Option (List UInt8)):(rL (nR (numO o))).length≤(rL o).length:=by
 cases o with
 |none=>exact Nat.le_refl _
 |some l =>
  show (rL (nR (nmO l))).length≤l.length
  rcases h:nmO l with _|⟨v,r⟩
  ·exact Nat.zero_le _
  ·exact nmO_len h
theorem flO_len (o:Option (List UInt8)):(rL (nR (flO o))).length≤(rL o).length:=by
 cases o with
 |none=>exact Nat.le_refl _
 |some l =>
  show (rL (nR ((nmO l).bind fun p=>bif (bif decide (p.1<0) then true else decide (1<p.1)) then none else some p))).length≤l.length
  rcases h:nmO l with _|⟨v,r⟩
  ·exact Nat.zero_le _
  ·rw[Option.bind_some]
   cases (bif decide (v<0) then true else decide (1<v))
   ·exact nmO_len h
   ·exact Nat.zero_le _
theorem txO_len (o:Option (List UInt8)):(rL (tR (txO o))).length≤(rL o).length∧(tV (txO o)).length≤(rL o).length:=by
 cases o with
 |none=>exact⟨Nat.le_refl _,Nat.le_refl _⟩
 |some l =>
  show (rL (tR ((getT l).map fun p=>(p.1,l.drop p.2)))).length≤l.length∧(tV ((getT l).map fun p=>(p.1,l.drop p.2))).length≤l.length
  rcases h:getT l with _|⟨s,j⟩
  ·exact⟨Nat.zero_le _,Nat.zero_le _⟩
  ·obtain⟨_,_,h3⟩:=getT_k h
   refine⟨?_,h3⟩
   show (l.drop j).length≤_
   rw[List.length_drop]
   omega
theorem getW_len (o:Option (List UInt8)):(rL (getW o).2).length≤(rL o).length∧(getW o).1.s.length≤(rL o).length:=by
 have h1:=numO_len o
 have h2:=numO_len (nR (numO o))
 have h3:=numO_len (nR (numO (nR (numO o))))
 have h4:=flO_len (nR (numO o))
 have h5:=txO_len (nR (numO o))
 unfold getW
 split
 ·exact⟨Nat.le_trans h4 h1,Nat.zero_le _⟩
 ·split
  ·exact⟨Nat.le_trans h2 h1,Nat.zero_le _⟩
  ·split
   ·exact⟨Nat.le_trans h3 (Nat.le_trans h2 h1),Nat.zero_le _⟩
   ·exact⟨Nat.le_trans h5.1 h1,Nat.le_trans h5.2 h1⟩
def oB (bad:Bool)(l:List UInt8):Option (List UInt8):=bif bad then none else some l
def hGet:HFn:=⟨fun bs xs k=>match bs,xs with
 |[[.sl nl 1 n c,.bool bad]],[.ptr 0 0]=>(decY n c).bind fun l=>bif decide (l.length≤1000000)&&txG nl bad l then k [rdB nl (getW (oB bad l)).2] (agV (getW (oB bad l)).1.kind (getW (oB bad l)).1.n (getW (oB bad l)).1.scale (getW (oB bad l)).1.s) else none
 |_,_=>none⟩
theorem gt_eq {R:Type}(nl:Option Bool)(o:Option (List UInt8))(h:(rL o).length≤1000000)(kk:List (List PV)→PV→Option R) :
  prunH (enH lpGt lhGt []) ⟨[],[]⟩ 0 Tryz.f96 [rdB nl o] [.ptr 0 0] kk=kk [rdB nl (getW o).2] (agV (getW o).1.kind (getW o).1.n (getW o).1.scale (getW o).1.s):=by
 refine (gt_raw ..).trans ?_
 have h1:=Nat.le_trans (numO_len o) h
 have h2:=Nat.le_trans (numO_len (nR (numO o))) h1
 rw[numS_o h]
 unfold getW
 generalize nV (numO o)=k
 by_cases k1:k=1
 ·subst k1
  rw[cond_t (by rfl),if_pos rfl,flS_o h1]
  rfl
 rw[cond_f (show (k==1)=false by rw[beq_eq_false_iff_ne];exact k1),if_neg k1]
 by_cases k2:k=2
 ·rw[cond_t (by rw[k2];rfl),if_pos k2,numS_o h1]
  rfl
 rw[cond_f (show (k==2)=false by rw[beq_eq_false_iff_ne];exact k2),if_neg k2]
 by_cases k3:k=3
 ·rw[cond_t (by rw[k3];rfl),if_pos k3,numS_o h1,numS_o h2]
  rfl
 rw[cond_f (show (k==3)=false by rw[beq_eq_false_iff_ne];exact k3),if_neg k3,txS_o h1]
 rfl
theorem ok_hGet:HOK NGk Tabs 96 hGet:=by
 refine hok wokk (allOK_cons ok_Bool allOK_nil) ok_lhGt allI_nil (h:=⟨[],[]⟩) Tryz.func96 rfl (by decide) ?_ ?_
 ·intro R bs xs k
  simp only[hGet]
  split
  ·exact bindH_nat
  ·rfl
 ·intro bs xs r h
  simp only[hGet] at h
  split at h
  ·rename_i nl n c bad
   obtain⟨l,h1,hb,rfl⟩:=bindH_inv h
   obtain⟨rfl,rfl⟩:=decY_inv h1
   simp only[Bool.and_eq_true,decide_eq_true_eq] at hb
   cases bad with
   |true =>
    have hb2:=hb.2
    simp only[txG,cond_true,Bool.and_eq_true,decide_eq_true_eq] at hb2
    obtain⟨rfl,rfl⟩:=hb2
    exact⟨0,gt_eq (some true) none (by exact Nat.zero_le _) _⟩
   |false=>exact⟨0,gt_eq nl (some l) hb.1 _⟩
  ·cases h
noncomputable def lpPr:List (FuncId×PFn):=[(98,p_rowR)]
noncomputable def lhPr:List (FuncId×HFn):=[(93,hRead),(94,hCnt),(95,hNum),(96,hGet),(97,hEnd)]
theorem ok_lhPr:AllH NGk Tabs lhPr:=allH_cons ok_hRead (allH_cons ok_hCnt (allH_cons ok_hNum (allH_cons ok_hGet (allH_cons ok_hEnd allH_nil))))
noncomputable def fPr:Func:=Tryz.f68
def hPr:Hints:=⟨[],[(0,⟨[(4,false),(5,true),(12,false),(13,false)],[8]⟩)]⟩
def frPr (nl:Option Bool)(m:Nat)(d:List PV)(bad:Bool)(no:Option Bool)(lo:Nat)(co:List PV)(M i:Int):St :=
 frame 35 [(4,(.ptr 8 0,0)),(5,(.sl no 5 lo co,42)),(12,(.int .i64 M,0)),(13,(.int .i64 i,0))] [(8,[(.sl nl 1 m d,0),(.bool bad,0)])]
noncomputable def prLoop (fu n:Nat)(st:St):Option PV:=loopF (enH lpPr lhPr []) hPr fu false fPr [1,1,1,0,1,0] 0 n st
theorem pr_raw (fu:Nat)(n:Nat)(c:List PV):prun (enH lpPr lhPr []) hPr fu false fPr [.sl (some false) 1 n c] =
  (decY n c).bind fun l=>bif decide (l.length≤1000000) then (decY l.length (bC l)).bind fun l=>bif decide (l.length≤1000000)&&decide (0≤(n:Int)) then
   prLoop fu fu (frPr (rF (some false) (nR (cn2 false l n))) (rL (nR (cn2 false l n))).length (bC (rL (nR (cn2 false l n)))) (rZ (nR (cn2 false l n))) (some true) 0 [] (nV (cn2 false l n)) 0) else none else none:=prunN_eq.trans (by kernel_rfl)
def gtS {R:Type}(nl:Option Bool)(n:Nat)(c:List PV)(bad:Bool)(K:Option Bool→Nat→List PV→Bool→Val→Option R):Option R :=
 (decY n c).bind fun l=>bif decide (l.length≤1000000)&&txG nl bad l then K (rF nl (getW (oB bad l)).2) (rL (getW (oB bad l)).2).length (bC (rL (getW (oB bad l)).2)) (rZ (getW (oB bad l)).2) (getW (oB bad l)).1 else none
theorem pr_step (fu:Nat)(nl:Option Bool)(m:Nat)(d:List PV)(bad:Bool)(no:Option Bool)(lo:Nat)(co:List PV)(M i:Int)(K:St→Option PV) :
  stepF (enH lpPr lhPr []) hPr fu false fPr [1,1,1,0,1,0] (frPr nl m d bad no lo co M i) (fun st=>pnorm (hPr.loop.lookup 0) st K) =
  bif decide (i<M) then numS nl m d bad fun nl m d bad q=>gtS nl m d bad fun nl m d bad v=>roomC lo (K (frPr nl m d bad (no.map (· && (1==0))) (lo+1) (co++celE q v.kind v.n v.scale v.s) M (IntKind.i64.wrap (i+1))))
  else bif !(!(bif bad then false else ((m:Int)==0))) then rrO lo co fun g=>bif !g then nf else some (.tuple [.sl no 5 lo co,.bool true]) else nf:=by kernel_rfl
def rowsQ:Nat→Option (List UInt8)→List Cel×Option (List UInt8)
 |0,o=>([],o)
 |n+1,o=>((nV (numO o),(getW (nR (numO o))).1)::(rowsQ n (getW (nR (numO o))).2).1,(rowsQ n (getW (nR (numO o))).2).2)
def fQ (was:Int)(p:List Cel×Option (List UInt8)):Option (List Cel):=if p.2=some []∧rowR was p.1=true then some p.1 else none
def fP (was:Int)(p:Option (List Cel×List UInt8)):Option (List Cel):=p.bind fun q=>if q.2=[]∧rowR was q.1=true then some q.1 else none
theorem gtS_o {R:Type}{nl:Option Bool}{o:Option (List UInt8)}(h:(rL o).length≤1000000){K:Option Bool→Nat→List PV→Bool→Val→Option R}:gtS (rF nl o) (rL o).length (bC (rL o)) (rZ o) K =
  K (rF nl (getW o).2) (rL (getW o).2).length (bC (rL (getW o).2)) (rZ (getW o).2) (getW o).1:=by
 unfold gtS
 rw[decY_bC,Option.bind_some,cond_t (by rw[decide_eq_true h];cases o<;>rfl)]
 cases o with
 |some l=>rfl
 |none=>rfl
theorem pr_loop (fu M:Nat)(hM:M≤1000000):∀ (k n:Nat) (o:Option (List UInt8)) (cs:List Cel),(rL o).length≤1000000→cs.length+k=M→k<n→(∀ c∈cs,c.2.s.length≤1000000) →
  prLoop fu n (frPr (rF (some false) o) (rL o).length (bC (rL o)) (rZ o) (some cs.isEmpty) cs.length (celsC cs) (M:Int) (cs.length:Int))=some (okP (fQ (-1) (cs++(rowsQ k o).1,(rowsQ k o).2)))
 |k,0,o,cs,_,_,hn,_=>by omega
 |0,n+1,o,cs,ho,hk,hn,hc=>by
  unfold prLoop
  rw[loopF_succ,pr_step,cond_f (decide_eq_false (by omega))]
  show _=some (okP (fQ (-1) (cs++[],o)))
  rw[List.append_nil]
  match o with
  |none=>rfl
  |some (x::l) =>
   show (bif !(!(((((x::l).length:Nat):Int)==0))) then _ else nf)=_
   rw[show ((((x::l).length:Nat):Int)==0)=false by rw[beq_eq_false_iff_ne];simp only[List.length_cons];omega]
   unfold fQ
   rw[if_neg (fun h=>by cases h.1)]
   rfl
  |some [] =>
   rw[cond_t (by rfl),rrO_sm (by omega) hc]
   unfold fQ
   cases hr:rowR (-1) cs
   ·rw[if_neg (fun h=>by cases h.2)];rfl
   ·rw[if_pos ⟨rfl,rfl⟩];rfl
 |k+1,n+1,o,cs,ho,hk,hn,hc=>by
  have h1:=Nat.le_trans (numO_len o) ho
  have h2:=getW_len (nR (numO o))
  have ih:=pr_loop fu M hM k n (getW (nR (numO o))).2 (cs++[(nV (numO o),(getW (nR (numO o))).1)]) (Nat.le_trans h2.1 h1) (by simp;omega) (by omega) (fun c hcm=>by
   rcases List.mem_append.1 hcm with q|q
   ·exact hc c q
   ·rw[List.mem_singleton] at q
    subst q
    exact Nat.le_trans h2.2 h1)
  unfold prLoop at ih ⊢
  rw[loopF_succ,pr_step,cond_t (decide_eq_true (by omega)),numS_o ho,gtS_o h1,roomC_t (by omega),wrapI_of (by omega) (by omega)]
  rw[List.length_append,← celsC_snoc] at ih
  have e:(cs++[(nV (numO o),(getW (nR (numO o))).1)]).isEmpty=false:=by cases cs<;>rfl
  rw[e] at ih
  have e2:(some cs.isEmpty).map (· && ((1:Nat)==0))=some false:=by cases cs<;>rfl
  rw[e2]
  refine Eq.trans ?_ (ih.trans ?_)
  ·rfl
  ·rw[List.append_assoc]
   rfl
def ok1 (was q:Int)(v:Val):Bool:=!(decide (q≤was)||v.kind==0)&&right v
theorem rowR_cons (was q:Int)(v:Val)(cs:List Cel):rowR was ((q,v)::cs)=(ok1 was q v&&rowR q cs):=by
 show (bif decide (q≤was)||v.kind==0 then false else bif right v then rowR q cs else false)=_
 unfold ok1
 cases decide (q≤was)||v.kind==0<;>cases right v<;>rfl
theorem rowsQ_none:∀ k,(rowsQ k none).2=none
 |0=>rfl
 |k+1=>rowsQ_none k
theorem fQ_none (was:Int)(k:Nat):fQ was (rowsQ k none)=none:=by
 unfold fQ
 rw[if_neg (fun h=>by rw[rowsQ_none] at h;cases h.1)]
theorem right_k {v:Val}(h:v.kind<1∨5<v.kind)(h0:v.kind≠0):right v=false:=by
 rw[← right_B]
 unfold rightB
 rw[show (v.kind==0)=false by rw[beq_eq_false_iff_ne];exact h0,show (v.kind==1)=false by rw[beq_eq_false_iff_ne];omega,show (v.kind==2)=false by rw[beq_eq_false_iff_ne];omega,
  show (v.kind==3)=false by rw[beq_eq_false_iff_ne];omega,show (v.kind==4)=false by rw[beq_eq_false_iff_ne];omega,show (v.kind==5)=false by rw[beq_eq_false_iff_ne];omega]
 rfl
theorem nmO_of {l:List UInt8}{v:Int}{k:Nat}(h:getN l=some (v,k)):nmO l=some (v,l.drop k):=by unfold nmO;rw[h];rfl
theorem nmO_no {l:List UInt8}(h:getN l=none):nmO l=none:=by unfold nmO;rw[h];rfl
theorem txO_of {l s:List UInt8}{k:Nat}(h:getT l=some (s,k)):txO (some l)=some (s,l.drop k):=by show (getT l).map _=_;rw[h];rfl
theorem txO_no {l:List UInt8}(h:getT l=none):txO (some l)=none:=by show (getT l).map _=_;rw[h];rfl
theorem flO_of {l r:List UInt8}{v:Int}(h:nmO l=some (v,r)):flO (some l)=bif (bif decide (v<0) then true else decide (1<v)) then none else some (v,r):=by
 show (nmO l).bind _=_;rw[h];rfl
theorem flO_no {l:List UInt8}(h:nmO l=none):flO (some l)=none:=by show (nmO l).bind _=_;rw[h];rfl
theorem getW_of {o:Option (List UInt8)}{a:Int}{l:List UInt8}(h:numO o=some (a,l)):getW o =
  if a=1 then (⟨1,b1 (nV (flO (some l))==1),0,[]⟩,nR (flO (some l)))
  else if a=2 then (⟨a,nV (nmO l),0,[]⟩,nR (nmO l))
  else if a=3 then (⟨a,nV (numO (nR (nmO l))),nV (nmO l),[]⟩,nR (numO (nR (nmO l))))
  else (⟨a,0,0,tV (txO (some l))⟩,tR (txO (some l))):=by
 unfold getW
 rw[h]
 rfl
theorem getW_no {o:Option (List UInt8)}(h:numO o=none):getW o=(⟨0,0,0,[]⟩,none):=by
 unfold getW
 rw[h]
 rfl
theorem celP_of {l:List UInt8}{a0 a1:Int}{k0 k1:Nat}(h0:getN l=some (a0,k0))(h1:getN (l.drop k0)=some (a1,k1)):celP l =
  if a1<1∨5<a1 then none else
   if 3<a1 then match getT ((l.drop k0).drop k1) with
    |none=>none
    |some (s,j)=>some ((a0,⟨a1,0,0,s⟩),((l.drop k0).drop k1).drop j)
   else match getN ((l.drop k0).drop k1) with
    |none=>none
    |some (x,j)=>if a1=3 then match getN (((l.drop k0).drop k1).drop j) with
      |none=>none
      |some (y,j2)=>some ((a0,⟨a1,y,x,[]⟩),(((l.drop k0).drop k1).drop j).drop j2)
     else some ((a0,⟨a1,x,0,[]⟩),((l.drop k0).drop k1).drop j):=by
 unfold celP
 rw[h0]
 simp only
 rw[h1]
 all_goals rfl
theorem cel_law (l:List UInt8):(∃ r,celP l=some ((nV (numO (some l)),(getW (nR (numO (some l)))).1),r)∧(getW (nR (numO (some l)))).2=some r) ∨
  ((getW (nR (numO (some l)))).2=none∧(celP l=none∨∃ c r,celP l=some (c,r)∧right c.2=false)) ∨
  (celP l=none∧∀ was q,ok1 was q (getW (nR (numO (some l)))).1=false):=by
 have e0:numO (some l)=nmO l:=rfl
 rw[e0]
 rcases h0:getN l with _|⟨a0,k0⟩
 ·refine .inr (.inl ⟨?_,.inl ?_⟩)
  ·rw[nmO_no h0,getW_no rfl]
  ·unfold celP;rw[h0]
 rw[nmO_of h0]
 show (∃ r,celP l=some ((a0,(getW (some (l.drop k0))).1),r)∧(getW (some (l.drop k0))).2=some r)∨((getW (some (l.drop k0))).2=none∧(celP l=none∨∃ c r,celP l=some (c,r)∧right c.2=false))∨(celP l=none∧∀ was q,ok1 was q (getW (some (l.drop k0))).1=false)
 rcases h1:getN (l.drop k0) with _|⟨a1,k1⟩
 ·refine .inr (.inl ⟨?_,.inl ?_⟩)
  ·rw[getW_no (o:=some (l.drop k0)) (nmO_no h1)]
  ·unfold celP;rw[h0];simp only;rw[h1]
 rw[getW_of (o:=some (l.drop k0)) (nmO_of h1),celP_of h0 h1]
 generalize (l.drop k0).drop k1=l2
 by_cases k1':a1=1
 ·subst k1'
  rw[if_pos rfl,if_neg (by omega),if_neg (by omega)]
  rcases h2:getN l2 with _|⟨x,j⟩
  ·exact .inr (.inl ⟨by rw[flO_no (nmO_no h2)];rfl,.inl rfl⟩)
  ·simp only
   rw[flO_of (nmO_of h2),if_neg (by omega)]
   by_cases hx:x<0∨1<x
   ·refine .inr (.inl ⟨?_,.inr ⟨_,_,rfl,?_⟩⟩)
    ·rw[cond_t (by
      rcases hx with q|q
      ·rw[decide_eq_true q];rfl
      ·rw[decide_eq_true q,decide_eq_false (by omega)];rfl)]
     rfl
    ·rw[← right_B]
     show ((x==0||x==1)&&_)=false
     rw[show (x==0)=false by rw[beq_eq_false_iff_ne];omega,show (x==1)=false by rw[beq_eq_false_iff_ne];omega]
     rfl
   ·rw[cond_f (by rw[decide_eq_false (by omega),decide_eq_false (by omega)];rfl)]
    refine .inl ⟨l2.drop j,?_,rfl⟩
    show some ((a0,(⟨1,x,0,[]⟩:Val)),_)=some ((a0,(⟨1,b1 (x==1),0,[]⟩:Val)),_)
    have:b1 (x==1)=x:=by
     have:x=0∨x=1:=by omega
     rcases this with rfl|rfl<;>rfl
    rw[this]
 rw[if_neg k1']
 by_cases k2':a1=2
 ·subst k2'
  rw[if_pos rfl,if_neg (by omega),if_neg (by omega)]
  rcases h2:getN l2 with _|⟨x,j⟩
  ·exact .inr (.inl ⟨by rw[nmO_no h2];rfl,.inl rfl⟩)
  ·simp only
   rw[nmO_of h2,if_neg (by omega)]
   exact .inl ⟨l2.drop j,rfl,rfl⟩
 rw[if_neg k2']
 by_cases k3':a1=3
 ·subst k3'
  rw[if_pos rfl,if_neg (by omega),if_neg (by omega)]
  rcases h2:getN l2 with _|⟨x,j⟩
  ·exact .inr (.inl ⟨by rw[nmO_no h2];rfl,.inl rfl⟩)
  ·simp only
   rw[nmO_of h2,if_pos trivial]
   have e3:numO (nR (some (x,l2.drop j)))=nmO (l2.drop j):=rfl
   rw[e3]
   rcases h3:getN (l2.drop j) with _|⟨y,j2⟩
   ·exact .inr (.inl ⟨by rw[nmO_no h3];rfl,.inl rfl⟩)
   ·rw[nmO_of h3]
    exact .inl ⟨(l2.drop j).drop j2,rfl,rfl⟩
 rw[if_neg k3']
 by_cases k4':a1<1∨5<a1
 ·rw[if_pos k4']
  refine .inr (.inr ⟨rfl,fun was q=>?_⟩)
  unfold ok1
  by_cases hz:a1=0
  ·subst hz
   simp
  ·rw[right_k (v:=⟨a1,0,0,_⟩) k4' hz]
   simp
 ·rw[if_neg k4',if_pos (by omega)]
  rcases h2:getT l2 with _|⟨s,j⟩
  ·exact .inr (.inl ⟨by rw[txO_no h2];rfl,.inl rfl⟩)
  ·rw[txO_of h2]
   exact .inl ⟨l2.drop j,rfl,rfl⟩
theorem fP_cons {was q:Int}{v:Val}{o:Option (List Cel×List UInt8)}:fP was (o.map fun p=>((q,v)::p.1,p.2))=if ok1 was q v=true then (fP q o).map ((q,v) :: ·) else none:=by
 cases o with
 |none=>unfold fP;split<;>rfl
 |some p =>
  unfold fP
  simp only[Option.map_some,Option.bind_some]
  rw[rowR_cons]
  cases ok1 was q v
  ·rw[if_neg (fun h=>by cases h.2),if_neg (by decide)]
  ·rw[if_pos rfl,Bool.true_and]
   split<;>rfl
theorem fQ_cons {was q:Int}{v:Val}{p:List Cel×Option (List UInt8)}:fQ was ((q,v)::p.1,p.2)=if ok1 was q v=true then (fQ q p).map ((q,v) :: ·) else none:=by
 unfold fQ
 simp only
 rw[rowR_cons]
 cases ok1 was q v
 ·rw[if_neg (fun h=>by cases h.2),if_neg (by decide)]
 ·rw[if_pos rfl,Bool.true_and]
  split<;>rfl
theorem fQ_fP:∀ (k:Nat) (was:Int) (l:List UInt8),fQ was (rowsQ k (some l))=fP was (rowsP k l)
 |0,was,l=>by
  unfold fQ fP rowsQ rowsP
  simp only[Option.bind_some]
  by_cases h:l=[]
  ·subst h;rfl
  ·rw[if_neg (fun q=>h (Option.some.inj q.1)),if_neg (fun q=>h q.1)]
 |k+1,was,l=>by
  have eQ:rowsQ (k+1) (some l)=((nV (numO (some l)),(getW (nR (numO (some l)))).1)::(rowsQ k (getW (nR (numO (some l)))).2).1,(rowsQ k (getW (nR (numO (some l)))).2).2):=rfl
  have eP:rowsP (k+1) l=(celP l).bind fun p=>(rowsP k p.2).map fun q=>(p.1::q.1,q.2):=rfl
  rw[eQ,eP,fQ_cons]
  rcases cel_law l with ⟨r,h1,h2⟩|⟨h1,h2⟩|⟨h1,h2⟩
  ·rw[h1,h2,Option.bind_some]
   simp only
   rw[fP_cons,fQ_fP k _ r]
  ·rw[h1,fQ_none]
   rcases h2 with h2|⟨⟨q,v⟩,r,h2,h3⟩
   ·rw[h2]
    show (if _ then none else none)=none
    split<;>rfl
   ·rw[h2,Option.bind_some]
    simp only
    rw[fP_cons]
    have:ok1 was q v=false:=by
     unfold ok1
     rw[show right v=false from h3]
     simp
    rw[this]
    split<;>rfl
  ·rw[h1,h2,if_neg (by decide)]
   rfl
theorem rowsP_len:∀ (k:Nat) (l:List UInt8) {q:List Cel×List UInt8},rowsP k l=some q→2 * k≤l.length
 |0,l,q,_=>by omega
 |k+1,l,q,h=>by
  have eP:rowsP (k+1) l=(celP l).bind fun p=>(rowsP k p.2).map fun q=>(p.1::q.1,q.2):=rfl
  rw[eP] at h
  obtain⟨⟨c,r⟩,h1,h2⟩:=Option.bind_eq_some_iff.1 h
  obtain⟨q2,h3,_⟩:=Option.map_eq_some_iff.1 h2
  obtain⟨j,j1,j2,rfl,_⟩:=celP_k h1
  have:=rowsP_len k _ h3
  rw[List.length_drop] at this
  omega
theorem pr_eq (l:List UInt8)(hl:l.length≤1000000):prun (enH lpPr lhPr []) hPr (l.length+4) false fPr [.sl (some false) 1 l.length (bC l)]=some (okP (parseR l)):=by
 rw[pr_raw,decY_bC,Option.bind_some,cond_t (decide_eq_true hl),decY_bC,Option.bind_some,cond_t (by rw[decide_eq_true hl,decide_eq_true (by omega)];rfl)]
 unfold parseR
 rcases hn:getN l with _|⟨v,k⟩
 ·have e:cn2 false l (l.length:Int)=none:=by show (nmO l).bind _=none;rw[nmO_no hn];rfl
  rw[e]
  exact pr_loop (l.length+4) 0 (by omega) 0 (l.length+4) none [] (by exact Nat.zero_le _) rfl (by omega) (fun c h=>by cases h)
 ·obtain⟨k1,k2,v1,v2⟩:=getN_k hn
  have e:cn2 false l (l.length:Int)=bif (bif decide (v<0) then true else decide ((l.length:Int)<v)) then none else some (v,l.drop k):=by show (nmO l).bind _=_;rw[nmO_of hn];rfl
  simp only
  by_cases hv:v<0
  ·rw[e,cond_t (by rw[decide_eq_true hv];rfl),if_pos hv]
   exact pr_loop (l.length+4) 0 (by omega) 0 (l.length+4) none [] (by exact Nat.zero_le _) rfl (by omega) (fun c h=>by cases h)
  ·rw[if_neg hv]
   by_cases hv2:(l.length:Int)<v
   ·rw[e,cond_t (by rw[decide_eq_false hv,decide_eq_true hv2];rfl)]
    have hz:rowsP v.toNat (l.drop k)=none:=by
     rcases hr:rowsP v.toNat (l.drop k) with _|q
     ·rfl
     ·have:=rowsP_len _ _ hr
      rw[List.length_drop] at this
      omega
    rw[hz]
    exact pr_loop (l.length+4) 0 (by omega) 0 (l.length+4) none [] (by exact Nat.zero_le _) rfl (by omega) (fun c h=>by cases h)
   ·rw[e,cond_f (by rw[decide_eq_false hv,decide_eq_false hv2];rfl)]
    have:=pr_loop (l.length+4) v.toNat (by omega) v.toNat (l.length+4) (some (l.drop k)) [] (by show (l.drop k).length≤_;rw[List.length_drop];omega) (by simp) (by omega) (fun c h=>by cases h)
    rw[List.nil_append,show ((rowsQ v.toNat (some (l.drop k))).1,(rowsQ v.toNat (some (l.drop k))).2)=rowsQ v.toNat (some (l.drop k)) from rfl,fQ_fP,show ((v.toNat:Nat):Int)=v by omega] at this
    exact this
def p_PrR:PFn:=⟨fun xs k=>match xs with|[.sl (some false) 1 n c]=>(decY n c).bind fun l=>bif decide (l.length≤1000000) then k (okP (parseR l)) else none|_=>none,false⟩
theorem ok_PrR:FOK NGk Tabs 68 p_PrR:=by
 refine fokH wokk (allOK_cons ok_rowRp allOK_nil) ok_lhPr allI_nil (h:=hPr) Tryz.func68 rfl (by decide) ?_ ?_
 ·intro R xs k
  simp only[p_PrR]
  split
  ·exact bindY_nat
  ·rfl
 ·intro xs r h
  simp only[p_PrR] at h
  split at h
  ·rename_i n c
   obtain⟨l,h1,hg,rfl⟩:=bindY_inv h
   obtain⟨rfl,rfl⟩:=decY_inv h1
   simp only[decide_eq_true_eq] at hg
   exact⟨l.length+4,pr_eq l hg⟩
  ·cases h
end Go.Proofs.YthjmjoioagocdaaGreatDoor
end
section
set_option maxRecDepth 100000
namespace Go.Proofs.YthjmjoioagocdaaGreatDoor.TS
open Go.RowKit
def rowG (i:Int)(s:Ky):RowC×Int:=match parseR s with|some cs=>((i,some cs.isEmpty,cs.length,celsC cs),0)|none=>((i,some true,0,[]),50)
def goR (i:Int)(s:Ky):Option (RowC×Int):=bif decide (s.length≤1000000) then some (rowG i s) else none
theorem ro_raw1 (i:Int)(s:Ky):prun (en [(68,p_PrR)]) ⟨[],[]⟩ 0 false Tryz.f38 [.int .i64 i,.str s] =
  bif decide (s.length≤9223372036854775807) then (decY s.length (bC s)).bind fun l=>bif decide (l.length≤1000000) then
   bif !(parseR l).isSome then some (.tuple [.agg [.int .i64 i,.sl (some true) 5 0 []],.int .i64 50])
   else some (.tuple [.agg [.int .i64 i,.sl (some ((parseR l).getD []).isEmpty) 5 ((parseR l).getD []).length (celsC ((parseR l).getD []))],.int .i64 0]) else none else none:=by kernel_rfl
theorem ok_rowOf:FOK NGt Wt 38 (tRowOf goR):=by
 refine fok wokt (allOK_cons ok_PrR allOK_nil) (h:=⟨[],[]⟩) Tryz.func38 rfl (by decide) (tRowOf_nat goR) ?_
 intro xs r h
 simp only[tRowOf] at h
 split at h
 ·rename_i i s
  unfold goR at h
  rcases hb:decide (s.length≤1000000) with _|_<;>rw[hb] at h
  ·cases h
  ·have hs:s.length≤1000000:=of_decide_eq_true hb
   rw[cond_true,Option.bind_some] at h
   refine⟨0,(ro_raw1 i s).trans (Eq.trans ?_ h)⟩
   rw[cond_t (decide_eq_true (by omega)),decY_bC,Option.bind_some,cond_t (decide_eq_true hs)]
   unfold rowG
   cases parseR s<;>rfl
 ·cases h
def p_Of:PFn:=⟨fun xs k=>match xs with|[.int .i64 i,.str s]=>bif decide (s.length≤1000000) then k (.agg [.int .i64 (rowG i s).1.1,.sl (rowG i s).1.2.1 5 (rowG i s).1.2.2.1 (rowG i s).1.2.2.2,.int .i64 (rowG i s).2]) else none|_=>none,false⟩
end Go.Proofs.YthjmjoioagocdaaGreatDoor.TS
end
section
set_option maxRecDepth 100000
namespace Go.Proofs.YthjmjoioagocdaaGreatDoor
open Go.RowKit
noncomputable def fNb:Func:=Tryz.f61
def hNb:Hints:=⟨[],[(0,⟨[(0,false),(3,false),(4,false)],[]⟩)]⟩
def frNb (n h:Int)(nl:Option Bool)(l:Nat)(c:List PV):St:=frame 27 [(0,(.int .i64 n,0)),(3,(.int .u8 h,0)),(4,(.sl nl 1 l c,0))] []
noncomputable def nbLoop (fu n:Nat)(st:St):Option PV:=loopF (en []) hNb fu true fNb [1,1,1,1,0,0] 0 n st
noncomputable def roomU {S:Type}(l:Nat)(k:Option S):Option S:=bif decide (1+l≤9223372036854775807)&&decide ((1+l) * bytesOf Tryz.prog 5≤roomB) then k else none
theorem nb_raw (fu:Nat)(n:Int):prun (en []) hNb fu true fNb [.int .i64 n] =
  bif decide (n<0) then nbLoop fu fu (frNb (IntKind.i64.wrap (-1-n)) 128 (some true) 0 []) else nbLoop fu fu (frNb n 0 (some true) 0 []):=prunN_eq.trans (by kernel_rfl)
theorem nb_step (fu:Nat)(n h:Int)(nl:Option Bool)(l:Nat)(c:List PV)(K:St→Option PV) :
  stepF (en []) hNb fu true fNb [1,1,1,1,0,0] (frNb n h nl l c) (fun st=>pnorm (hNb.loop.lookup 0) st K) =
  bif decide (0<n) then roomU l (K (frNb (IntKind.i64.wrap (n.tdiv 256)) h (some false) (1+l) (.int .u8 (IntKind.u8.wrap (n.tmod 256))::c)))
  else roomU l (some (.sl (some false) 1 (1+l) (.int .u8 (IntKind.u8.wrap (h+IntKind.u8.wrap (l:Int)))::c))):=by kernel_rfl
theorem roomU_t {S:Type}{l:Nat}(h:l≤2000000)(k:Option S):roomU l k=k:=by
 unfold roomU
 rw[show bytesOf Tryz.prog 5=1 by kernel_rfl]
 exact cond_t (by rw[decide_eq_true (by omega),decide_eq_true (by unfold roomB;omega)];rfl)
def digN:Nat→Nat→List UInt8→List UInt8
 |0,_,acc=>acc
 |f+1,n,acc=>if n=0 then acc else digN f (n/256) (UInt8.ofNat (n%256)::acc)
theorem digN_zero (f:Nat)(acc:List UInt8):digN f 0 acc=acc:=by cases f<;>rfl
theorem digN_len:∀ (f n:Nat) (acc:List UInt8),(digN f n acc).length≤f+acc.length
 |0,_,acc=>by show acc.length≤_;omega
 |f+1,n,acc=>by
  rw[digN]
  split
  ·omega
  ·have:=digN_len f (n/256) (UInt8.ofNat (n%256)::acc)
   rw[List.length_cons] at this
   omega
def numM (n:Int):Nat:=if n<0 then (-1-n).toNat else n.toNat
def numH (n:Int):Nat:=if n<0 then 128 else 0
def numB (n:Int):List UInt8:=UInt8.ofNat (numH n+(digN 8 (numM n) []).length)::digN 8 (numM n) []
theorem numB_len (n:Int):(numB n).length≤9:=by
 have:=digN_len 8 (numM n) []
 unfold numB
 rw[List.length_cons]
 simp at this
 omega
theorem nb_loop (fu h:Nat)(hh:h=0∨h=128):∀ (f k m:Nat) (nl:Option Bool) (ds:List UInt8),m<256^f→f+ds.length≤8→f<k →
  nbLoop fu k (frNb (m:Int) (h:Int) nl ds.length (bC ds))=some (.sl (some false) 1 (UInt8.ofNat (h+(digN f m ds).length)::digN f m ds).length (bC (UInt8.ofNat (h+(digN f m ds).length)::digN f m ds)))
 |f,0,m,nl,ds,_,_,hk=>by omega
 |f,k+1,m,nl,ds,hm,hl,hk=>by
  unfold nbLoop
  rw[loopF_succ,nb_step]
  by_cases h0:m=0
  ·subst h0
   rw[cond_f (by rfl),roomU_t (by omega),digN_zero]
   have e:IntKind.u8.wrap ((h:Int)+IntKind.u8.wrap (ds.length:Int))=(((UInt8.ofNat (h+ds.length)).toNat:Nat):Int):=by
    rw[UInt8.toNat_ofNat',IntKind.wrap_u8,IntKind.wrap_u8]
    omega
   rw[e,Nat.add_comm 1]
   rfl
  ·match f,hm,hl,hk with
   |0,hm,_,_=>exact absurd hm (by simp;omega)
   |f+1,hm,hl,hk =>
    have ih:=nb_loop fu h hh f k (m/256) (some false) (UInt8.ofNat (m%256)::ds) (by rw[Nat.pow_succ] at hm;omega) (by rw[List.length_cons];omega) (by omega)
    have h63:256^(f+1)≤256^8:=Nat.pow_le_pow_right (by omega) (by omega)
    unfold nbLoop at ih
    rw[cond_t (decide_eq_true (by omega)),roomU_t (by omega)]
    have e1:IntKind.i64.wrap ((m:Int).tdiv 256)=((m/256:Nat):Int):=by
     rw[Int.tdiv_eq_ediv_of_nonneg (by omega),IntKind.wrap_i64]
     have:(256:Nat)^8=18446744073709551616:=by decide
     omega
    have e2:IntKind.u8.wrap ((m:Int).tmod 256)=(((UInt8.ofNat (m%256)).toNat:Nat):Int):=by
     rw[Int.tmod_eq_emod_of_nonneg (by omega),UInt8.toNat_ofNat',IntKind.wrap_u8]
     omega
    rw[e1,e2,Nat.add_comm 1,digN,if_neg h0]
    exact ih
def p_RN:PFn:=⟨fun xs k=>match xs with|[.int .i64 n]=>bif decide (-9223372036854775808≤n)&&decide (n≤9223372036854775807) then k (.sl (some false) 1 (numB n).length (bC (numB n))) else none|_=>none,true⟩
theorem nb_eq (n:Int)(h1:-9223372036854775808≤n)(h2:n≤9223372036854775807):prun (en []) hNb 10 true fNb [.int .i64 n]=some (.sl (some false) 1 (numB n).length (bC (numB n))):=by
 rw[nb_raw]
 unfold numB numM numH
 have h8:(256:Nat)^8=18446744073709551616:=by decide
 by_cases hn:n<0
 ·rw[cond_t (decide_eq_true hn),if_pos hn,if_pos hn,wrapI_of (by omega) (by omega)]
  have:=nb_loop 10 128 (.inr rfl) 8 10 (-1-n).toNat (some true) [] (by omega) (by simp) (by omega)
  rw[show (((-1-n).toNat:Nat):Int)=-1-n by omega] at this
  exact this
 ·rw[cond_f (decide_eq_false hn),if_neg hn,if_neg hn]
  have:=nb_loop 10 0 (.inl rfl) 8 10 n.toNat (some true) [] (by omega) (by simp) (by omega)
  rw[show ((n.toNat:Nat):Int)=n by omega] at this
  exact this
theorem ok_RN:FOK NGk Tabs 61 p_RN:=by
 refine fok wokk allOK_nil (h:=hNb) Tryz.func61 rfl (by decide) ?_ ?_
 ·intro R xs k
  simp only[p_RN]
  split
  ·rename_i n
   cases (decide (-9223372036854775808≤n)&&decide (n≤9223372036854775807))<;>rfl
  ·rfl
 ·intro xs r h
  simp only[p_RN] at h
  split at h
  ·rename_i n
   rcases hb:(decide (-9223372036854775808≤n)&&decide (n≤9223372036854775807)) with _|_<;>rw[hb] at h
   ·cases h
   ·simp only[Bool.and_eq_true,decide_eq_true_eq] at hb
    exact⟨10,(nb_eq n hb.1 hb.2).trans h⟩
  ·cases h
theorem bC_append (x y:List UInt8):bC (x++y)=bC x++bC y:=by unfold bC;rw[List.map_append]
def rng (n:Int):Bool:=decide (-9223372036854775808≤n)&&decide (n≤9223372036854775807)
def nuO {R:Type}(n:Int)(K:List UInt8→Option R):Option R:=bif rng n then (pbytes (bC (numB n))).bind K else none
theorem nuO_eq {R:Type}{n:Int}(h:rng n=true){K:List UInt8→Option R}:nuO n K=K (numB n):=by
 unfold nuO
 rw[cond_t h,pbytes_bC]
 rfl
def txB (s:List UInt8):List UInt8:=numB s.length++s
theorem rtx_raw (s:List UInt8):prun (en [(61,p_RN)]) ⟨[],[]⟩ 0 true Tryz.f87 [.str s] =
  bif rng (s.length:Int) then (bif decide ((numB s.length).length+s.length≤9223372036854775807)&&decide (((numB s.length).length+s.length) * bytesOf Tryz.prog 5≤roomB) then
   some (.sl (some false) 1 ((numB s.length).length+s.length) (bC (numB s.length)++bC s)) else none) else none:=by kernel_rfl
def p_RT:PFn:=⟨fun xs k=>match xs with|[.str s]=>bif decide (s.length≤1000000) then k (.sl (some false) 1 (txB s).length (bC (txB s))) else none|_=>none,true⟩
theorem ok_RT:FOK NGk Tabs 87 p_RT:=by
 refine fok wokk (allOK_cons ok_RN allOK_nil) (h:=⟨[],[]⟩) Tryz.func87 rfl (by decide) ?_ ?_
 ·intro R xs k
  simp only[p_RT]
  split
  ·rename_i s
   cases decide (s.length≤1000000)<;>rfl
  ·rfl
 ·intro xs r h
  simp only[p_RT] at h
  split at h
  ·rename_i s
   rcases hb:decide (s.length≤1000000) with _|_<;>rw[hb] at h
   ·cases h
   ·have hs:s.length≤1000000:=of_decide_eq_true hb
    have h9:=numB_len s.length
    refine⟨0,(rtx_raw s).trans (Eq.trans ?_ h)⟩
    rw[cond_t (by unfold rng;rw[decide_eq_true (by omega),decide_eq_true (by omega)];rfl),show bytesOf Tryz.prog 5=1 by kernel_rfl,
     cond_t (by rw[decide_eq_true (by omega),decide_eq_true (by unfold roomB;omega)];rfl)]
    unfold txB
    rw[List.length_append,bC_append]
    rfl
  ·cases h
noncomputable def lVl:List (FuncId×PFn):=[(61,p_RN),(87,p_RT)]
def teO {R:Type}(s:List UInt8)(K:List UInt8→Option R):Option R:=bif decide (s.length≤1000000) then (pbytes (bC (txB s))).bind K else none
def catS {R:Type}(x y:List UInt8)(K:List UInt8→Option R):Option R:=catO x y (K (x++y))
def vlB (a n c:Int)(s:List UInt8):List UInt8:=numB a++(if a=1∨a=2 then numB n else if a=3 then numB c++numB n else txB s)
def vlX {R:Type}(x:List UInt8)(n:Int)(K:List UInt8→Option R):Option R:=nuO n fun y=>catS x y K
def vlY {R:Type}(x:List UInt8)(a n c:Int)(s:List UInt8)(K:List UInt8→Option R):Option R :=
 bif a==3 then nuO c fun y=>catS x y fun z=>nuO n fun w=>catS z w K else teO s fun y=>catS x y K
theorem vl_raw (a n c:Int)(s:List UInt8):prun (en lVl) ⟨[],[]⟩ 0 false Tryz.f62 [.agg [.int .i64 a,.int .i64 n,.int .i64 c,.str s]] =
  nuO a fun x=>bif a==1 then (bif a==1 then vlX x n fun z=>some (.str z) else vlY x a n c s fun z=>some (.str z)) else
   bif a==2 then vlX x n fun z=>some (.str z) else vlY x a n c s fun z=>some (.str z):=by kernel_rfl
def vGood (a n c:Int)(s:List UInt8):Bool:=rng a&&rng n&&rng c&&decide (s.length≤1000000)
theorem catS_eq {R:Type}{x y:List UInt8}{K:List UInt8→Option R}(h:x.length+y.length≤9223372036854775807):catS x y K=K (x++y):=catO_eq h
theorem teO_eq {R:Type}{s:List UInt8}(h:s.length≤1000000){K:List UInt8→Option R}:teO s K=K (txB s):=by
 unfold teO
 rw[cond_t (decide_eq_true h),pbytes_bC]
 rfl
theorem txB_len (s:List UInt8):(txB s).length≤9+s.length:=by
 have:=numB_len s.length
 unfold txB
 rw[List.length_append]
 omega
theorem vlB_len (a n c:Int)(s:List UInt8):(vlB a n c s).length≤27+s.length:=by
 have h1:=numB_len a
 have h2:=numB_len n
 have h3:=numB_len c
 have h4:=txB_len s
 unfold vlB
 rw[List.length_append]
 split
 ·omega
 ·split
  ·rw[List.length_append];omega
  ·omega
theorem vl_eq (a n c:Int)(s:List UInt8)(h:vGood a n c s=true):prun (en lVl) ⟨[],[]⟩ 0 false Tryz.f62 [.agg [.int .i64 a,.int .i64 n,.int .i64 c,.str s]]=some (.str (vlB a n c s)):=by
 unfold vGood at h
 simp only[Bool.and_eq_true,decide_eq_true_eq] at h
 obtain⟨⟨⟨ha,hn⟩,hc⟩,hs⟩:=h
 have h1:=numB_len a
 have h2:=numB_len n
 have h3:=numB_len c
 have h4:=txB_len s
 have eX:∀ K:List UInt8→Option PV,vlX (numB a) n K=K (numB a++numB n):=fun K=>by
  unfold vlX
  rw[nuO_eq hn,catS_eq (by omega)]
 have eY:∀ K:List UInt8→Option PV,vlY (numB a) a n c s K=K (numB a++if a=3 then numB c++numB n else txB s):=fun K=>by
  unfold vlY
  by_cases k3:a=3
  ·rw[cond_t (by rw[k3];rfl),if_pos k3,nuO_eq hc,catS_eq (by omega),nuO_eq hn,catS_eq (by rw[List.length_append];omega),List.append_assoc]
  ·rw[cond_f (by rw[beq_eq_false_iff_ne];exact k3),if_neg k3,teO_eq hs,catS_eq (by omega)]
 rw[vl_raw,nuO_eq ha,eX,eY]
 unfold vlB
 by_cases k1:a=1
 ·rw[cond_t (by rw[k1];rfl),cond_t (by rw[k1];rfl),if_pos (.inl k1)]
 ·rw[cond_f (show (a==1)=false by rw[beq_eq_false_iff_ne];exact k1)]
  by_cases k2:a=2
  ·rw[cond_t (by rw[k2];rfl),if_pos (.inr k2)]
  ·rw[cond_f (by rw[beq_eq_false_iff_ne];exact k2),if_neg (show ¬ (a=1∨a=2) by omega)]
def p_RV:PFn:=⟨fun xs k=>match xs with|[.agg [.int .i64 a,.int .i64 n,.int .i64 c,.str s]]=>bif vGood a n c s then k (.str (vlB a n c s)) else none|_=>none,false⟩
theorem ok_RV (hT:FOK NGk Tabs 87 p_RT):FOK NGk Tabs 62 p_RV:=by
 refine fok wokk (allOK_cons ok_RN (allOK_cons hT allOK_nil)) (h:=⟨[],[]⟩) Tryz.func62 rfl (by decide) ?_ ?_
 ·intro R xs k
  simp only[p_RV]
  split
  ·rename_i a n c s
   cases vGood a n c s<;>rfl
  ·rfl
 ·intro xs r h
  simp only[p_RV] at h
  split at h
  ·rename_i a n c s
   rcases hb:vGood a n c s with _|_<;>rw[hb] at h
   ·cases h
   ·exact⟨0,(vl_eq a n c s hb).trans h⟩
  ·cases h
noncomputable def lPt:List (FuncId×PFn):=[(61,p_RN),(62,p_RV)]
def hPt:Hints:=⟨[],[(0,⟨[(3,false),(10,false),(11,false),(12,false)],[]⟩)]⟩
def frPt (t:List UInt8)(nl:Option Bool)(n:Nat)(c:List PV)(L i:Int):St:=frame 28 [(3,(.str t,0)),(10,(.sl nl 5 n c,0)),(11,(.int .i64 L,0)),(12,(.int .i64 i,0))] []
noncomputable def ptLoop (fu n:Nat)(st:St):Option PV:=loopF (en lPt) hPt fu false Tryz.f32 [1,1,0,1,0] 0 n st
def vlO {R:Type}(a n c:Int)(s:List UInt8)(K:List UInt8→Option R):Option R:=bif vGood a n c s then K (vlB a n c s) else none
theorem pt_raw (fu:Nat)(nl:Option Bool)(n:Nat)(c:List PV):prun (en lPt) hPt fu false Tryz.f32 [.sl nl 5 n c]=nuO (n:Int) fun t=>ptLoop fu fu (frPt t nl n c (n:Int) 0):=prunN_eq.trans (by kernel_rfl)
theorem pt_step (fu:Nat)(t:List UInt8)(nl:Option Bool)(l0:Nat)(c0:List PV)(L i:Int)(K:St→Option PV) :
  stepF (en lPt) hPt fu false Tryz.f32 [1,1,0,1,0] (frPt t nl l0 c0 L i) (fun st=>pnorm (hPt.loop.lookup 0) st K) =
  bif decide (i<L) then ixC l0 c0 i fun q a n b s=>nuO q fun x=>vlO a n b s fun y=>catS x y fun z=>catS t z fun z=>K (frPt z nl l0 c0 L (IntKind.i64.wrap (i+1)))
  else some (.str t):=by kernel_rfl
theorem vlO_eq {R:Type}{a n c:Int}{s:List UInt8}(h:vGood a n c s=true){K:List UInt8→Option R}:vlO a n c s K=K (vlB a n c s):=cond_t h
def cGood (c:Cel):Bool:=rng c.1&&vGood c.2.kind c.2.n c.2.scale c.2.s
def celB (c:Cel):List UInt8:=numB c.1++vlB c.2.kind c.2.n c.2.scale c.2.s
def putC (l:List Cel):List UInt8:=l.flatMap celB
def putB (l:List Cel):List UInt8:=numB l.length++putC l
theorem celB_len {c:Cel}(h:cGood c=true):(celB c).length≤1000036:=by
 unfold cGood vGood at h
 simp only[Bool.and_eq_true,decide_eq_true_eq] at h
 have h1:=numB_len c.1
 have h2:=vlB_len c.2.kind c.2.n c.2.scale c.2.s
 unfold celB
 rw[List.length_append]
 omega
theorem pt_loop (fu:Nat)(nl:Option Bool)(l:List Cel)(hl:l.length≤1000000)(hg:∀ c∈l,cGood c=true):∀ (k i n:Nat) (t:List UInt8),i+k=l.length→k<n→t.length≤9+i * 1000036 →
  ptLoop fu n (frPt t nl l.length (celsC l) (l.length:Int) (i:Int))=some (.str (t++putC (l.drop i)))
 |k,i,0,_,_,h,_=>by omega
 |0,i,n+1,t,hi,hn,_=>by
  unfold ptLoop
  rw[loopF_succ,pt_step,cond_f (decide_eq_false (by omega)),List.drop_of_length_le (by omega)]
  unfold putC
  rw[List.flatMap_nil,List.append_nil]
 |k+1,i,n+1,t,hi,hn,ht=>by
  unfold ptLoop
  have hc:=List.getElem?_eq_getElem (l:=l) (i:=i) (by omega)
  have hgc:=hg l[i] (List.getElem_mem _)
  have hb:=celB_len hgc
  have ih:=pt_loop fu nl l hl hg k (i+1) n (t++celB l[i]) (by omega) (by omega) (by rw[List.length_append];omega)
  unfold ptLoop at ih
  unfold cGood at hgc
  simp only[Bool.and_eq_true] at hgc
  have hb':=hb
  unfold celB at hb'
  rw[List.length_append] at hb'
  rw[loopF_succ,pt_step,cond_t (decide_eq_true (by omega)),ixC_eq hc,nuO_eq hgc.1,vlO_eq hgc.2,catS_eq (by omega),catS_eq (by rw[List.length_append];omega),wrapI_of (by omega) (by omega),List.drop_eq_getElem_cons (show i<l.length by omega)]
  refine Eq.trans ?_ (ih.trans ?_)
  ·rfl
  ·unfold putC
   rw[List.flatMap_cons,List.append_assoc]
def p_RPt:PFn:=⟨fun xs k=>match xs with|[.sl _ 5 n c]=>(decG 5 celG n c).bind fun l=>bif decide (l.length≤1000000)&&l.all cGood then k (.str (putB l)) else none|_=>none,false⟩
theorem ok_RPt (hT:FOK NGk Tabs 87 p_RT):FOK NGk Tabs 32 p_RPt:=by
 refine fok wokk (allOK_cons ok_RN (allOK_cons (ok_RV hT) allOK_nil)) (h:=hPt) Tryz.func32 rfl (by decide) ?_ ?_
 ·intro R xs k
  simp only[p_RPt]
  split
  ·exact bindL_nat
  ·rfl
 ·intro xs r h
  simp only[p_RPt] at h
  split at h
  ·rename_i nl n c
   obtain⟨l,h1,hg,rfl⟩:=bindL_inv h
   obtain⟨rfl,rfl⟩:=decG_inv celG_inv h1
   simp only[Bool.and_eq_true,decide_eq_true_eq,List.all_eq_true] at hg
   have h9:=numB_len l.length
   refine⟨l.length+1,(pt_raw _ nl _ _).trans ?_⟩
   rw[nuO_eq (by unfold rng;rw[decide_eq_true (by omega),decide_eq_true (by omega)];rfl)]
   exact pt_loop _ nl l hg.1 hg.2 l.length 0 (l.length+1) (numB l.length) (by omega) (by omega) (by omega)
  ·cases h
end Go.Proofs.YthjmjoioagocdaaGreatDoor
end
section
set_option maxRecDepth 100000
namespace Go.Proofs.YthjmjoioagocdaaGreatDoor.TS
open Go.RowKit
def prC (p:Ky×Ky):List PV:=[.str p.1,.str p.2]
def prsC (l:List (Ky×Ky)):List PV:=l.flatMap prC
theorem prC_len (p:Ky×Ky):(prC p).length=2:=rfl
def prG:List PV→Option (Ky×Ky)
 |[.str a,.str b]=>some (a,b)
 |_=>none
theorem prG_of (p:Ky×Ky):prG (prC p)=some p:=rfl
theorem prG_inv (l:List PV)(p:Ky×Ky)(h:prG l=some p):l=prC p:=by
 unfold prG at h
 split at h
 ·injection h with h;subst h;rfl
 ·cases h
theorem prsC_snoc (l:List (Ky×Ky))(p:Ky×Ky):prsC l++prC p=prsC (l++[p]):=by simp[prsC]
noncomputable def fKp:Func:=Tryz.f30
def hKp:Hints:=⟨[],[(0,⟨[(1,false),(2,false),(7,true),(8,false),(11,false),(12,false),(13,false)],[]⟩)]⟩
def frKp (k v:Ky)(no:Option Bool)(lo:Nat)(co:List PV)(inn:Bool)(nl:Option Bool)(n:Nat)(c:List PV)(L i:Int):St :=
 frame 51 [(1,(.str k,0)),(2,(.str v,0)),(7,(.sl no 2 lo co,60)),(8,(.bool inn,0)),(11,(.sl nl 2 n c,0)),(12,(.int .i64 L,0)),(13,(.int .i64 i,0))] []
noncomputable def kpLoop (fu n:Nat)(st:St):Option PV:=loopF (en []) hKp fu false fKp [1,1,1,0,1,0] 0 n st
noncomputable def roomK {S:Type}(lo:Nat)(k:Option S):Option S:=bif decide (lo+1≤9223372036854775807)&&decide ((lo+1) * bytesOf Tryz.prog 96≤roomB) then k else none
def ixP {R:Type}(len:Nat)(c:List PV)(i:Int)(K:Ky→Ky→Option R):Option R :=
 bif decide (0≤i)&&decide (i<(len:Int)) then
  ((c.drop (i.toNat * 2)).take 2).head?.bind fun v=>v.asStr.bind fun a=>((c.drop (i.toNat * 2)).take 2).tail.head?.bind fun v=>v.asStr.bind fun b=>K a b else none
theorem ixP_eq {R:Type}{l:List (Ky×Ky)}{i:Nat}{x:Ky×Ky}{K:Ky→Ky→Option R}(h:l[i]? = some x):ixP l.length (prsC l) (i:Int) K=K x.1 x.2:=by
 have:=(List.getElem?_eq_some_iff.1 h).1
 unfold ixP
 rw[cond_t (by rw[decide_eq_true (by omega),decide_eq_true (by omega)];rfl),Int.toNat_natCast,prsC,flat_at prC_len h]
 rfl
theorem kp_raw (fu:Nat)(nl:Option Bool)(n:Nat)(c:List PV)(k v:Ky):prun (en []) hKp fu false fKp [.sl nl 2 n c,.str k,.str v]=kpLoop fu fu (frKp k v (some true) 0 [] false nl n c (n:Int) 0):=prunN_eq.trans (by kernel_rfl)
theorem kp_step (fu:Nat)(k v:Ky)(no:Option Bool)(lo:Nat)(co:List PV)(inn:Bool)(nl:Option Bool)(n:Nat)(c:List PV)(L i:Int)(K:St→Option PV) :
  stepF (en []) hKp fu false fKp [1,1,1,0,1,0] (frKp k v no lo co inn nl n c L i) (fun st=>pnorm (hKp.loop.lookup 0) st K) =
  bif decide (i<L) then ixP n c i fun a b=>bif a==k then roomK lo (K (frKp k v (no.map (· && (1==0))) (lo+1) (co++[.str a,.str v]) true nl n c L (IntKind.i64.wrap (i+1))))
   else bif (bif !inn then Op.bytesLess k a else false) then roomK lo (roomK (lo+1) (K (frKp k v ((no.map (· && (1==0))).map (· && (1==0))) (lo+1+1) (co++[.str k,.str v]++[.str a,.str b]) true nl n c L (IntKind.i64.wrap (i+1)))))
   else roomK lo (K (frKp k v (no.map (· && (1==0))) (lo+1) (co++[.str a,.str b]) inn nl n c L (IntKind.i64.wrap (i+1))))
  else bif !inn then roomK lo (some (.sl (no.map (· && (1==0))) 2 (lo+1) (co++[.str k,.str v]))) else some (.sl no 2 lo co):=by kernel_rfl
theorem roomK_t {S:Type}{lo:Nat}(h:lo≤2000000)(k:Option S):roomK lo k=k:=by
 unfold roomK
 rw[show bytesOf Tryz.prog 96=32 by kernel_rfl]
 exact cond_t (by rw[decide_eq_true (by omega),decide_eq_true (by unfold roomB;omega)];rfl)
def putW (k v:Ky):Bool→List (Ky×Ky)→List (Ky×Ky)
 |inn,[]=>bif !inn then [(k,v)] else []
 |inn,p::r=>bif p.1==k then (p.1,v)::putW k v true r else bif (bif !inn then Op.bytesLess k p.1 else false) then (k,v)::p::putW k v true r else p::putW k v inn r
def kpV (r:List (Ky×Ky)):PV:=.sl (some r.isEmpty) 2 r.length (prsC r)
theorem emp_snoc (o:List (Ky×Ky))(p:Ky×Ky):(some o.isEmpty).map (· && ((1:Nat)==0))=some (o++[p]).isEmpty:=by cases o<;>rfl
theorem kp_loop (fu:Nat)(nl:Option Bool)(k v:Ky)(l:List (Ky×Ky))(hl:l.length≤1000000):∀ (m i n:Nat) (inn:Bool) (o:List (Ky×Ky)),i+m=l.length→m<n→o.length≤i+1→(inn=false→o.length≤i) →
  kpLoop fu n (frKp k v (some o.isEmpty) o.length (prsC o) inn nl l.length (prsC l) (l.length:Int) (i:Int))=some (kpV (o++putW k v inn (l.drop i)))
 |m,i,0,inn,o,_,h,_,_=>by omega
 |0,i,n+1,inn,o,hi,hn,ho,hf=>by
  unfold kpLoop
  rw[loopF_succ,kp_step,cond_f (decide_eq_false (by omega)),List.drop_of_length_le (by omega)]
  cases inn with
  |true =>
   show some (PV.sl (some o.isEmpty) 2 o.length (prsC o))=some (kpV (o++[]))
   rw[List.append_nil]
   rfl
  |false =>
   rw[Bool.not_false,cond_true,roomK_t (by omega),emp_snoc o (k,v)]
   show some (PV.sl (some (o++[(k,v)]).isEmpty) 2 (o.length+1) (prsC o++prC (k,v)))=some (kpV (o++[(k,v)]))
   rw[prsC_snoc]
   unfold kpV
   rw[List.length_append]
   rfl
 |m+1,i,n+1,inn,o,hi,hn,ho,hf=>by
  have hc:=List.getElem?_eq_getElem (l:=l) (i:=i) (by omega)
  rw[List.drop_eq_getElem_cons (show i<l.length by omega)]
  generalize l[i]=p at hc
  have ih:=fun inn o=>kp_loop fu nl k v l hl m (i+1) n inn o (by omega) (by omega)
  unfold kpLoop at ih ⊢
  rw[loopF_succ,kp_step,cond_t (decide_eq_true (by omega)),ixP_eq hc,wrapI_of (by omega) (by omega),putW]
  cases p.1==k
  ·rw[cond_false,cond_false]
   rcases hg:(bif !inn then Op.bytesLess k p.1 else false) with _|_
   ·rw[cond_false,cond_false,roomK_t (by omega),emp_snoc o p]
    have h:=ih inn (o++[p]) (by rw[List.length_append];show o.length+1≤_;omega) (fun q=>by rw[List.length_append];show o.length+1≤_;have:=hf q;omega)
    rw[List.length_append,← prsC_snoc,List.append_assoc] at h
    exact h
   ·rw[cond_true,cond_true,roomK_t (by omega),roomK_t (by omega),emp_snoc o (k,v),emp_snoc (o++[(k,v)]) p]
    have hi0:inn=false:=by
     cases inn with
     |false=>rfl
     |true=>cases hg
    have h0:=hf hi0
    have h:=ih true (o++[(k,v)]++[p]) (by rw[List.length_append,List.length_append];show o.length+1+1≤_;omega) (fun q=>by cases q)
    rw[List.length_append,List.length_append,← prsC_snoc,← prsC_snoc] at h
    exact h.trans (by rw[List.append_assoc,List.append_assoc];rfl)
  ·rw[cond_true,cond_true,roomK_t (by omega),emp_snoc o (p.1,v)]
   have h:=ih true (o++[(p.1,v)]) (by rw[List.length_append];show o.length+1≤_;omega) (fun q=>by cases q)
   rw[List.length_append,← prsC_snoc,List.append_assoc] at h
   exact h
def p_Kp:PFn:=⟨fun xs K=>match xs with|[.sl _ 2 n c,.str k,.str v]=>(decG 2 prG n c).bind fun l=>bif decide (l.length≤1000000) then K (kpV (putW k v false l)) else none|_=>none,false⟩
theorem ok_Kp:FOK NGt Wt 30 p_Kp:=by
 refine fok wokt allOK_nil (h:=hKp) Tryz.func30 rfl (by decide) ?_ ?_
 ·intro R xs k
  simp only[p_Kp]
  split
  ·exact bindL_nat
  ·rfl
 ·intro xs r h
  simp only[p_Kp] at h
  split at h
  ·rename_i nl n c k v
   obtain⟨l,h1,hg,rfl⟩:=bindL_inv h
   obtain⟨rfl,rfl⟩:=decG_inv prG_inv h1
   simp only[decide_eq_true_eq] at hg
   exact⟨l.length+1,(kp_raw _ nl _ _ k v).trans (kp_loop _ nl k v l hg l.length 0 (l.length+1) false [] (by omega) (by omega) (by simp) (fun _=>by simp))⟩
  ·cases h
theorem putW_high {k v:Ky}:∀ {r:List (Ky×Ky)},High k r→putW k v true r=r
 |[],_=>rfl
 |p::r,h=>by
  have hp:=h p List.mem_cons_self
  have hne:(p.1==k)=false:=by rw[beq_eq_false_iff_ne];exact (kl_ne hp).symm
  rw[putW,hne,cond_false,Bool.not_true,cond_false,cond_false,putW_high (fun q hq=>h q (List.mem_cons_of_mem _ hq))]
theorem putW_ins {k v:Ky}:∀ {l:List (Ky×Ky)},Srt l→putW k v false l=insK k v l
 |[],_=>rfl
 |p::r,h=>by
  have hh:=List.pairwise_cons.1 h
  rw[putW,insK]
  by_cases he:p.1=k
  ·have hb:(p.1==k)=true:=by rw[he];exact beq_self_eq_true k
   rw[hb,cond_true,if_pos rfl,putW_high (fun q hq=>by rw[← he];exact hh.1 q hq),he]
  ·have hb:(p.1==k)=false:=by rw[beq_eq_false_iff_ne];exact he
   rw[hb,cond_false,if_neg (by decide),Bool.not_false,cond_true]
   rcases hl:Op.bytesLess k p.1 with _|_
   ·rw[cond_false,if_neg (by decide),putW_ins hh.2]
   ·rw[cond_true,if_pos rfl,putW_high (fun q hq=>kl_trans hl (hh.1 q hq))]
noncomputable def fLd:Func:=Tryz.f12
noncomputable def lhLd:List (FuncId×HFn):=[(39,hE0 Tryz.f39),(40,hTPut gPuA)]
theorem ok_lhLd:AllH NGt Wt lhLd:=allH_cons (hE0_ok Tryz.func39 rfl (by decide)) (allH_cons ok_tput allH_nil)
noncomputable def enLd:Env:=enH [] lhLd []
def hLd:Hints:=⟨[],[(0,⟨[(3,false),(7,false),(8,false),(9,false)],[6]⟩)]⟩
def frLd (x:PV)(nl:Option Bool)(n:Nat)(c:List PV)(L i:Int):St:=frame 21 [(3,(.ptr 6 0,0)),(7,(.sl nl 2 n c,0)),(8,(.int .i64 L,0)),(9,(.int .i64 i,0))] [(6,[(x,0)])]
def on1' {S:Type}(bs:List (List PV))(k:PV→Option S):Option S:=match bs with|[[x]]=>k x|_=>none
section
variable {R:Type} (fu:Nat) (kk:List (List PV)→PV→Option R)
noncomputable def ldKr (st:St):Option R:=pfinH enLd 0 fLd st fun bs _ v=>kk bs v
noncomputable def ldLoop (n:Nat)(st:St):Option R:=loopK enLd hLd fu (ldKr kk) fLd (fun _=>none) [1,1,0,1,0] 0 n st
theorem ld_raw (nl:Option Bool)(n:Nat)(c:List PV):prunH enLd hLd fu fLd [] [.sl nl 2 n c] kk=ldLoop fu kk fu (frLd .nilptr nl n c (n:Int) 0):=prunHN_eq.trans (by kernel_rfl)
theorem ld_step {x:PV}(hx:IsR x)(nl:Option Bool)(n:Nat)(c:List PV)(L i:Int)(K:St→Option R) :
  stepK enLd hLd fu (ldKr kk) fLd [1,1,0,1,0] (fun _=>none) (frLd x nl n c L i) (fun st=>pnorm (hLd.loop.lookup 0) st K) =
  bif decide (i<L) then ixP n c i fun a b=>(hTPut gPuA).F [[x]] [.ptr 0 0,.str a,.str b] fun bs _=>on1' bs fun x'=>K (frLd x' nl n c L (IntKind.i64.wrap (i+1)))
  else kk [[x]] (.ptr 0 0):=by
 rcases hx with rfl|⟨cx,rfl⟩<;>kernel_rfl
def insAll (l:List (Ky×Ky))(o:List (Ky×PV)):List (Ky×PV):=l.foldl (fun o p=>insK p.1 (.str p.2) o) o
theorem insK_len1 {k:Ky}{v:PV}:∀ (l:List (Ky×PV)),(insK k v l).length≤l.length+1
 |[]=>Nat.le_refl _
 |p::r=>by
  rw[insK]
  split
  ·exact Nat.le_succ _
  ·split
   ·exact Nat.le_refl _
   ·have:=insK_len1 (k:=k) (v:=v) r
    rw[List.length_cons,List.length_cons]
    omega
def prV (p:Ky×Ky):Ky×PV:=(p.1,.str p.2)
theorem insAll_srt:∀ (l:List (Ky×Ky)) (o:List (Ky×PV)),Srt l→(∀ p∈l,Low p.1 o)→insAll l o=o++l.map prV
 |[],o,_,_=>by rw[List.map_nil,List.append_nil];rfl
 |p::l,o,h,hlo=>by
  have hh:=List.pairwise_cons.1 h
  have e:insK p.1 (.str p.2) o=o++[prV p]:=by
   have:=ins_low (k:=p.1) (v:=PV.str p.2) (A:=o) [] (hlo p List.mem_cons_self)
   rw[List.append_nil] at this
   exact this
  show insAll l (insK p.1 (.str p.2) o)=_
  rw[e,insAll_srt l _ hh.2 (fun q hq=>?_),List.append_assoc]
  ·rfl
  ·intro r hr
   rcases List.mem_append.1 hr with hr|hr
   ·exact hlo q (List.mem_cons_of_mem _ hq) r hr
   ·rw[List.mem_singleton] at hr
    subst hr
    exact hh.1 q hq
end
end Go.Proofs.YthjmjoioagocdaaGreatDoor.TS
end
section
set_option maxRecDepth 100000
namespace Go.Proofs.YthjmjoioagocdaaGreatDoor
open Go.RowKit
def rwsC (l:List Rw):List PV:=l.flatMap rwC
end Go.Proofs.YthjmjoioagocdaaGreatDoor
end
section
set_option maxRecDepth 100000
namespace Go.Proofs.YthjmjoioagocdaaGreatDoor.TS
open Go.RowKit
noncomputable def fRs:Func:=Tryz.f14
def gK13 (s:Ky):Option (Int×Int×Bool):=bif decide (s.length≤100000) then some (rowK s) else none
noncomputable def lRs:List (FuncId×PFn):=[(41,tRow gK13),(42,p_Of)]
def hRs:Hints:=⟨[],[(0,⟨[(1,false),(5,true),(11,false),(12,false),(13,false)],[]⟩)]⟩
def frRs (t:Int)(no:Option Bool)(lo:Nat)(co:List PV)(nl:Option Bool)(n:Nat)(c:List PV)(L i:Int):St :=
 frame 40 [(1,(.int .i64 t,0)),(5,(.sl no 3 lo co,47)),(11,(.sl nl 2 n c,0)),(12,(.int .i64 L,0)),(13,(.int .i64 i,0))] []
noncomputable def rsLoop (fu n:Nat)(st:St):Option PV:=loopF (en lRs) hRs fu false fRs [1,1,0,1,0] 0 n st
theorem rs_raw (fu:Nat)(nl:Option Bool)(n:Nat)(c:List PV)(t:Int):prun (en lRs) hRs fu false fRs [.sl nl 2 n c,.int .i64 t]=rsLoop fu fu (frRs t (some true) 0 [] nl n c (n:Int) 0):=prunN_eq.trans (by kernel_rfl)
end Go.Proofs.YthjmjoioagocdaaGreatDoor.TS
end
section
set_option maxRecDepth 100000
namespace Go.Proofs.YthjmjoioagocdaaGreatDoor
open Go.RowKit
noncomputable def lLg:List (FuncId×PFn):=[(25,p_Small)]
def hLg:Hints:=⟨[],[(2,⟨[(44,false),(45,false),(46,false),(50,false),(51,false),(52,false)],[]⟩),(0,⟨[(44,false),(45,false),(46,false)],[]⟩)]⟩
noncomputable def fLg:Func:=Tryz.f8
def frLg (cs:List PV)(L i:Int):St:=frame 62 [(44,(.sl (some false) 1 3 cs,0)),(45,(.int .i64 L,0)),(46,(.int .i64 i,0))] []
def frLgI (cs:List PV)(L i:Int)(n1:Option Bool)(l1:Nat)(c1:List PV)(M j:Int):St:=frame 62 [(44,(.sl (some false) 1 3 cs,0)),(45,(.int .i64 L,0)),(46,(.int .i64 i,0)),(50,(.sl n1 4 l1 c1,0)),(51,(.int .i64 M,0)),(52,(.int .i64 j,0))] []
noncomputable def lgL (fu n:Nat)(st:St):Option PV:=loopF (en lLg) hLg fu false fLg [1,1,0,1,0] 0 n st
noncomputable def lgI (fu:Nat)(K:St→Option PV)(n:Nat)(st:St):Option PV:=loopP (en lLg) hLg fu false fLg (fun st=>pnorm (hLg.loop.lookup 0) st K) [1,1,0,1,0,0,1,1,0,0,1,1,0] 2 n st
def lgB (b:Bool)(lx le ll lh:Nat):Bool:=bif (bif (bif (bif !b then true else decide (6<(lx:Int))) then true else decide (6<(le:Int))) then true else decide (1<(ll:Int))) then true else decide (1<(lh:Int))
theorem lg_raw (fu:Nat)(nr:Option Bool)(lr:Nat)(cr:List PV)(x0:Int)(x1:List UInt8)(nx:Option Bool)(lx:Nat)(cx:List PV)(x3:Bool)(x4:Int)(ne:Option Bool)(le:Nat)(ce:List PV)(nl:Option Bool)(ll:Nat)(cl:List PV)(lo:Bool)(nh:Option Bool)(lh:Nat)(ch:List PV)(ho:Bool) :
  prun (en lLg) hLg fu false fLg [.sl nr 2 lr cr,.agg [.int .i64 x0,.str x1,.sl nx 1 lx cx,.bool x3,.int .i64 x4],.agg [.sl ne 4 le ce,.sl nl 4 ll cl,.bool lo,.sl nh 4 lh ch,.bool ho]] =
   smO lr cr fun b=>bif lgB b lx le ll lh then some (.bool true) else lgL fu fu (frLg [.sl ne 4 le ce,.sl nl 4 ll cl,.sl nh 4 lh ch] 3 0):=prunN_eq.trans (by kernel_rfl)
theorem lg_step (fu:Nat)(cs:List PV)(L i:Int)(K:St→Option PV) :
  stepF (en lLg) hLg fu false fLg [1,1,0,1,0] (frLg cs L i) (fun st=>pnorm (hLg.loop.lookup 0) st K) =
  bif decide (i<L) then (bif decide (0≤i)&&decide (i<((3:Nat):Int)) then ((cs.drop (i.toNat * 1)).take 1).head?.bind fun v=>(PV.asSl 4 v).bind fun p=>lgI fu K fu (frLgI cs L i p.1 p.2.1 p.2.2 ((p.2.1:Nat):Int) 0) else none)
  else some (.bool false):=(stepF_eq (by kernel_rfl)).trans (by kernel_rfl)
theorem lgI_step (fu:Nat)(cs:List PV)(L i:Int)(n1:Option Bool)(l1:Nat)(c1:List PV)(M j:Int)(K K2:St→Option PV) :
  stepP (en lLg) hLg fu false fLg [1,1,0,1,0,0,1,1,0,0,1,1,0] (fun st=>pnorm (hLg.loop.lookup 0) st K) (frLgI cs L i n1 l1 c1 M j) (fun st=>pnorm (hLg.loop.lookup 2) st K2) =
  bif decide (j<M) then ixV l1 c1 j fun _ _ _ s=>bif decide (200<(s.length:Int)) then some (.bool true) else K2 (frLgI cs L i n1 l1 c1 M (IntKind.i64.wrap (j+1)))
  else K (frLg cs L (IntKind.i64.wrap (i+1))):=(stepP_eq (by kernel_rfl)).trans (by kernel_rfl)
def valSm (v:Val):Bool:=decide (v.s.length≤200)
theorem lgI_loop (fu:Nat)(K:St→Option PV)(cs:List PV)(L i:Int)(n1:Option Bool)(vs:List Val)(hl:vs.length≤1000):∀ (k j n:Nat),j+k=vs.length→k<n →
  lgI fu K n (frLgI cs L i n1 vs.length (valsC vs) (vs.length:Int) (j:Int))=bif (vs.drop j).all valSm then K (frLg cs L (IntKind.i64.wrap (i+1))) else some (.bool true)
 |k,j,0,_,h=>by omega
 |0,j,n+1,hj,hn=>by
  unfold lgI
  rw[loopP_succ,lgI_step,cond_f (decide_eq_false (by omega)),List.drop_of_length_le (by omega)]
  rfl
 |k+1,j,n+1,hj,hn=>by
  have ih:=lgI_loop fu K cs L i n1 vs hl k (j+1) n (by omega) (by omega)
  have hc:=List.getElem?_eq_getElem (l:=vs) (i:=j) (by omega)
  unfold lgI at ih ⊢
  rw[loopP_succ,lgI_step,cond_t (decide_eq_true (by omega)),ixV_eq hc,wrapI_of (x:=(j:Int)+1) (by omega) (by omega),List.drop_eq_getElem_cons (show j<vs.length by omega),List.all_cons]
  by_cases hx:200<vs[j].s.length
  ·rw[cond_t (decide_eq_true (by omega)),show valSm vs[j]=false from decide_eq_false (by omega)]
   rfl
  ·rw[cond_f (decide_eq_false (by omega)),show valSm vs[j]=true from decide_eq_true (by omega),Bool.true_and]
   exact ih
theorem lgB_false {b:Bool}{lx le ll lh:Nat}(h:lgB b lx le ll lh=false):b=true∧lx≤6∧le≤6∧ll≤1∧lh≤1:=by
 unfold lgB at h
 cases b with
 |false=>cases h
 |true =>
  by_cases h1:6<(lx:Int)
  ·rw[decide_eq_true h1] at h;cases h
  ·by_cases h2:6<(le:Int)
   ·rw[decide_eq_false h1,decide_eq_true h2] at h;cases h
   ·by_cases h3:1<(ll:Int)
    ·rw[decide_eq_false h1,decide_eq_false h2,decide_eq_true h3] at h;cases h
    ·by_cases h4:1<(lh:Int)
     ·rw[decide_eq_false h1,decide_eq_false h2,decide_eq_false h3,decide_eq_true h4] at h;cases h
     ·exact⟨rfl,by omega,by omega,by omega,by omega⟩
def longS (rs:List Rw)(x:Idx)(r:Rng):Bool:=lgB (smS rs) x.cols.length r.eq.length r.lo.length r.hi.length||!(r.eq.all valSm&&(r.lo.all valSm&&r.hi.all valSm))
theorem longS_not {rs:List Rw}{x:Idx}{r:Rng}(h:longS rs x r=false):smS rs=true∧x.cols.length≤6∧r.eq.length≤6∧r.lo.length≤1∧r.hi.length≤1∧(∀ v∈r.eq,v.s.length≤200)∧(∀ v∈r.lo,v.s.length≤200)∧∀ v∈r.hi,v.s.length≤200:=by
 unfold longS at h
 simp only[Bool.or_eq_false_iff,Bool.not_eq_false',Bool.and_eq_true,List.all_eq_true] at h
 obtain⟨h1,h2,h3,h4⟩:=h
 obtain⟨a,b,c,d,e⟩:=lgB_false h1
 exact⟨a,b,c,d,e,fun v hv=>of_decide_eq_true (h2 v hv),fun v hv=>of_decide_eq_true (h3 v hv),fun v hv=>of_decide_eq_true (h4 v hv)⟩
def rngG:List PV→Option Rng
 |[.sl ne 4 le ce,.sl nl 4 ll cl,.bool lo,.sl nh 4 lh ch,.bool ho]=>(decV le ce).bind fun e=>(decV ll cl).bind fun l=>(decV lh ch).map fun h=>⟨ne,e,nl,l,lo,nh,h,ho⟩
 |_=>none
theorem rngG_of (r:Rng):rngG (rngC r)=some r:=by
 simp only[rngC,rngG,decV_vals,Option.bind_some,Option.map_some]
theorem rngG_inv (c:List PV)(r:Rng)(h:rngG c=some r):c=rngC r:=by
 unfold rngG at h
 split at h
 ·obtain⟨e,h1,h⟩:=Option.bind_eq_some_iff.1 h
  obtain⟨l,h2,h⟩:=Option.bind_eq_some_iff.1 h
  obtain⟨g,h3,rfl⟩:=Option.map_eq_some_iff.1 h
  obtain⟨rfl,rfl⟩:=decV_inv h1
  obtain⟨rfl,rfl⟩:=decV_inv h2
  obtain⟨rfl,rfl⟩:=decV_inv h3
  rfl
 ·cases h
theorem lg_loop (fu:Nat)(hfu:1001<fu)(r:Rng)(h1:r.eq.length≤6)(h2:r.lo.length≤1)(h3:r.hi.length≤1) :
  lgL fu fu (frLg [.sl r.ne 4 r.eq.length (valsC r.eq),.sl r.nlo 4 r.lo.length (valsC r.lo),.sl r.nhi 4 r.hi.length (valsC r.hi)] 3 0)=some (.bool (!(r.eq.all valSm&&(r.lo.all valSm&&r.hi.all valSm)))):=by
 obtain⟨n,rfl⟩:∃ n,fu=n+4:=⟨fu-4,by omega⟩
 generalize hcs:[PV.sl r.ne 4 r.eq.length (valsC r.eq),.sl r.nlo 4 r.lo.length (valsC r.lo),.sl r.nhi 4 r.hi.length (valsC r.hi)]=cs
 have s0:∀ (G:St→Option PV),(fun st=>stepF (en lLg) hLg (n+4) false fLg [1,1,0,1,0] st (fun st=>pnorm (hLg.loop.lookup 0) st G)) (frLg cs 3 0)=lgI (n+4) G (n+4) (frLgI cs 3 0 r.ne r.eq.length (valsC r.eq) (r.eq.length:Int) 0):=fun G=>by
  show stepF _ _ _ _ _ _ _ _=_
  rw[lg_step,← hcs];rfl
 have s1:∀ (G:St→Option PV),(fun st=>stepF (en lLg) hLg (n+4) false fLg [1,1,0,1,0] st (fun st=>pnorm (hLg.loop.lookup 0) st G)) (frLg cs 3 1)=lgI (n+4) G (n+4) (frLgI cs 3 1 r.nlo r.lo.length (valsC r.lo) (r.lo.length:Int) 0):=fun G=>by
  show stepF _ _ _ _ _ _ _ _=_
  rw[lg_step,← hcs];rfl
 have s2:∀ (G:St→Option PV),(fun st=>stepF (en lLg) hLg (n+4) false fLg [1,1,0,1,0] st (fun st=>pnorm (hLg.loop.lookup 0) st G)) (frLg cs 3 2)=lgI (n+4) G (n+4) (frLgI cs 3 2 r.nhi r.hi.length (valsC r.hi) (r.hi.length:Int) 0):=fun G=>by
  show stepF _ _ _ _ _ _ _ _=_
  rw[lg_step,← hcs];rfl
 have s3:∀ (G:St→Option PV),(fun st=>stepF (en lLg) hLg (n+4) false fLg [1,1,0,1,0] st (fun st=>pnorm (hLg.loop.lookup 0) st G)) (frLg cs 3 3)=some (.bool false):=fun G=>by
  show stepF _ _ _ _ _ _ _ _=_
  rw[lg_step];rfl
 have w1:IntKind.i64.wrap ((0:Int)+1)=1:=by rw[wrapI_of (by omega) (by omega)];rfl
 have w2:IntKind.i64.wrap ((1:Int)+1)=2:=by rw[wrapI_of (by omega) (by omega)];rfl
 have w3:IntKind.i64.wrap ((2:Int)+1)=3:=by rw[wrapI_of (by omega) (by omega)];rfl
 unfold lgL
 rw[loopF_succ]
 refine (s0 _).trans ?_
 refine (lgI_loop (n+4) _ cs 3 0 r.ne r.eq (by omega) r.eq.length 0 (n+4) (by omega) (by omega)).trans ?_
 rw[List.drop_zero,w1]
 rcases r.eq.all valSm with _|_
 ·rfl
 rw[cond_true,loopF_succ]
 refine (s1 _).trans ?_
 refine (lgI_loop (n+4) _ cs 3 1 r.nlo r.lo (by omega) r.lo.length 0 (n+4) (by omega) (by omega)).trans ?_
 rw[List.drop_zero,w2]
 rcases r.lo.all valSm with _|_
 ·rfl
 rw[cond_true,loopF_succ]
 refine (s2 _).trans ?_
 refine (lgI_loop (n+4) _ cs 3 2 r.nhi r.hi (by omega) r.hi.length 0 (n+4) (by omega) (by omega)).trans ?_
 rw[List.drop_zero,w3]
 rcases r.hi.all valSm with _|_
 ·rfl
 rw[cond_true,loopF_succ]
 exact s3 _
def p_long23:PFn:=⟨fun xs k=>match xs with|[.sl _ 2 lr cr,.agg xc,.agg rc]=>(decG 2 rwG lr cr).bind fun rs=>(idxG xc).bind fun x=>(rngG rc).bind fun r=>bif decide (rs.length≤1000000) then k (.bool (longS rs x r)) else none|_=>none,false⟩
theorem ok_long23:FOK NGk Tabs 8 p_long23:=by
 refine fok wokk (allOK_cons ok_Small allOK_nil) (h:=hLg) Tryz.func8 rfl (by decide) ?_ ?_
 ·intro R xs k
  simp only[p_long23]
  split
  ·simp only[Option.bind_assoc]
   congr 1;funext rs;congr 1;funext x;congr 1;funext r
   cases decide (rs.length≤1000000)<;>rfl
  ·rfl
 ·intro xs r h
  simp only[p_long23] at h
  split at h
  ·rename_i nl lr cr xc rc
   obtain⟨rs,h1,ha⟩:=Option.bind_eq_some_iff.1 h
   obtain⟨x,h2,hd⟩:=Option.bind_eq_some_iff.1 ha
   obtain⟨g,h3,he⟩:=Option.bind_eq_some_iff.1 hd
   clear h ha hd
   obtain⟨rfl,rfl⟩:=decG_inv rwG_inv h1
   obtain rfl:=idxG_inv _ _ h2
   obtain rfl:=rngG_inv _ _ h3
   have h:=he
   clear he
   rcases hb:decide (rs.length≤1000000) with _|_<;>rw[hb] at h
   ·cases h
   refine⟨1010,(lg_raw 1010 nl _ _ x.id x.name x.nl x.cols.length (colC x.cols) x.u x.st g.ne g.eq.length (valsC g.eq) g.nlo g.lo.length (valsC g.lo) g.lout g.nhi g.hi.length (valsC g.hi) g.hout).trans ?_⟩
   rw[← h]
   unfold smO
   rw[decG_of rwC_len rwG_of,Option.bind_some,hb,cond_true,cond_true]
   unfold longS
   show (bif lgB (smS rs) x.cols.length g.eq.length g.lo.length g.hi.length then some (PV.bool true) else _)=_
   rcases hl:lgB (smS rs) x.cols.length g.eq.length g.lo.length g.hi.length with _|_
   ·obtain⟨_,_,q1,q2,q3⟩:=lgB_false hl
    rw[cond_false,Bool.false_or]
    exact lg_loop 1010 (by omega) g q1 q2 q3
   ·rfl
  ·cases h
def bndS (r:Rng):Nat:=r.eq.length+if 0<r.lo.length+r.hi.length then 1 else 0
def bndI (le ll lh:Nat)(K:Int→Option PV):Option PV:=bif decide (0<IntKind.i64.wrap ((ll:Int)+(lh:Int))) then K (IntKind.i64.wrap ((le:Int)+1)) else K (le:Int)
theorem bndI_eq (r:Rng)(h:r.eq.length≤1000000∧r.lo.length≤1000000∧r.hi.length≤1000000)(K:Int→Option PV):bndI r.eq.length r.lo.length r.hi.length K=K ((bndS r:Nat):Int):=by
 unfold bndI bndS
 rw[wrapI_of (x:=(r.lo.length:Int)+(r.hi.length:Int)) (by omega) (by omega),wrapI_of (by omega) (by omega)]
 by_cases h0:0<r.lo.length+r.hi.length
 ·rw[cond_t (decide_eq_true (by omega)),if_pos h0];rfl
 ·rw[cond_f (decide_eq_false (by omega)),if_neg h0];rfl
theorem bn_raw (ne:Option Bool)(le:Nat)(ce:List PV)(nl:Option Bool)(ll:Nat)(cl:List PV)(lo:Bool)(nh:Option Bool)(lh:Nat)(ch:List PV)(ho:Bool) :
  prun (en []) ⟨[],[]⟩ 0 false Tryz.f47 [.agg [.sl ne 4 le ce,.sl nl 4 ll cl,.bool lo,.sl nh 4 lh ch,.bool ho]]=bndI le ll lh fun n=>some (.int .i64 n):=by kernel_rfl
def rngB (r:Rng):Bool:=decide (r.eq.length≤1000)&&(decide (r.lo.length≤1000)&&decide (r.hi.length≤1000))
theorem rngB_iff {r:Rng}:rngB r=true↔r.eq.length≤1000∧r.lo.length≤1000∧r.hi.length≤1000:=by simp only[rngB,Bool.and_eq_true,decide_eq_true_eq]
def rngO {R:Type}(rc:List PV)(K:Rng→Option R):Option R:=(rngG rc).bind fun r=>bif rngB r then K r else none
theorem rngO_nat {R S:Type}(rc:List PV)(f:Rng→Option R)(k:R→Option S):rngO rc (fun r=>(f r).bind k)=(rngO rc f).bind k:=by
 unfold rngO
 rw[Option.bind_assoc]
 congr 1
 funext r
 cases rngB r<;>rfl
theorem rngO_inv {R:Type}{rc:List PV}{K:Rng→Option R}{v:R}(h:rngO rc K=some v):∃ r,rc=rngC r∧(r.eq.length≤1000∧r.lo.length≤1000∧r.hi.length≤1000)∧K r=some v:=by
 unfold rngO at h
 obtain⟨r,h1,ha⟩:=Option.bind_eq_some_iff.1 h
 clear h
 obtain rfl:=rngG_inv _ _ h1
 have h:=ha
 clear ha
 rcases hb:rngB r with _|_<;>rw[hb] at h
 ·cases h
 ·exact⟨r,rfl,rngB_iff.1 hb,h⟩
theorem rngO_of {R:Type}{r:Rng}(h:r.eq.length≤1000∧r.lo.length≤1000∧r.hi.length≤1000)(K:Rng→Option R):rngO (rngC r) K=K r:=by
 unfold rngO
 rw[rngG_of,Option.bind_some,rngB_iff.2 h,cond_true]
def p_bounds:PFn:=⟨fun xs k=>match xs with|[.agg rc]=>rngO rc fun r=>k (.int .i64 ((bndS r:Nat):Int))|_=>none,false⟩
theorem ok_bounds:FOK NGk Tabs 47 p_bounds:=by
 refine fok wokk allOK_nil (h:=⟨[],[]⟩) Tryz.func47 rfl (by decide) ?_ ?_
 ·intro R xs k
  simp only[p_bounds]
  split
  ·exact rngO_nat _ (fun r=>some _) k
  ·rfl
 ·intro xs v h
  simp only[p_bounds] at h
  split at h
  ·obtain⟨r,hr,hl,ha⟩:=rngO_inv h
   clear h
   subst hr
   have h:=ha
   clear ha
   exact⟨0,((bn_raw ..).trans (bndI_eq r (by omega) _)).trans h⟩
  ·cases h
def fitS (x:Idx)(r:Rng):Bool:=decide (bndS r≤x.cols.length)
def hdO {R:Type}(n:Nat)(c:List PV)(K:Int→Int→Int→List UInt8→Option R):Option R:=ixV n c 0 K
theorem p5_raw (a n b:Int)(s:List UInt8):prun (en [(46,p_One),(45,p_RGet)]) ⟨[],[]⟩ 0 false Tryz.f17 [.agg [.int .i64 a,.int .i64 n,.int .i64 b,.str s]] =
  oneO a n b s fun y=>bif decide (y.length≤100000) then (bif ((((getV y).getD []).length:Nat):Int) != 1 then some (.agg [.int .i64 0,.int .i64 0,.int .i64 0,.str []]) else hdO ((getV y).getD []).length (valsC ((getV y).getD [])) fun a n b s=>some (.agg [.int .i64 a,.int .i64 n,.int .i64 b,.str s])) else none:=by kernel_rfl
def p_plain5:PFn:=⟨fun xs k=>match xs with|[.agg [.int .i64 a,.int .i64 n,.int .i64 b,.str s]]=>bif decide (s.length≤1000000)&&inI n then k (.agg (V4.cs (plain ⟨a,n,b,s⟩))) else none|_=>none,false⟩
theorem ok_plain5:FOK NGk Tabs 17 p_plain5:=by
 refine fok wokk (allOK_cons ok_One (allOK_cons ok_RGet allOK_nil)) (h:=⟨[],[]⟩) Tryz.func17 rfl (by decide) ?_ ?_
 ·intro R xs k
  simp only[p_plain5]
  split
  ·exact cond_nat
  ·rfl
 ·intro xs r h
  simp only[p_plain5] at h
  split at h
  ·rename_i a n b s
   rcases hb:(decide (s.length≤1000000)&&inI n) with _|_<;>rw[hb] at h
   ·cases h
   simp only[Bool.and_eq_true,decide_eq_true_eq] at hb
   rw[cond_true] at h
   refine⟨0,(p5_raw a n b s).trans ?_⟩
   rw[← h]
   unfold oneO
   rw[cond_t (decide_eq_true hb.1)]
   have hl:=enc_length ⟨a,n,b,s⟩
   have hg:getV (enc ⟨a,n,b,s⟩)=some [plain ⟨a,n,b,s⟩]:=by
    have:=getV_encs [⟨a,n,b,s⟩] (fun x hx=>by rw[List.mem_singleton] at hx;subst hx;exact inI_iff.1 hb.2)
    simpa [encs] using this
   show (bif decide ((enc ⟨a,n,b,s⟩).length≤100000) then _ else _)=_
   rw[cond_t (decide_eq_true (by omega)),hg]
   refine (cond_f (by rfl)).trans ?_
   exact ixV_eq (vs:=[plain ⟨a,n,b,s⟩]) (i:=0) rfl
  ·cases h
theorem n13_raw (n:Int):prun (en []) ⟨[],[]⟩ 0 false Tryz.f51 [.int .i64 n]=some (.agg [.int .i64 2,.int .i64 n,.int .i64 0,.str []]):=by kernel_rfl
theorem ok_num13:FOK NGk Tabs 51 p_numV:=by
 refine fok wokk allOK_nil (h:=⟨[],[]⟩) Tryz.func51 rfl (by decide) ?_ ?_
 ·intro R xs k
  simp only[p_numV]
  split<;>rfl
 ·intro xs r h
  simp only[p_numV] at h
  split at h
  ·exact⟨0,(n13_raw _).trans h⟩
  ·cases h
theorem oneO_eq {R:Type}{a n c:Int}{s:List UInt8}{K:List UInt8→Option R}(h:s.length≤1000000):oneO a n c s K=K (enc ⟨a,n,c,s⟩):=cond_t (decide_eq_true h)
noncomputable def lRe:List (FuncId×PFn):=[(51,p_numV),(46,p_One),(22,p_Values)]
theorem ok_lRe:AllOK NGk Tabs lRe:=allOK_cons ok_num13 (allOK_cons ok_One (allOK_cons (ok_Values ok_refGet) allOK_nil))
def hRe:Hints:=⟨[],[(0,⟨[(5,false),(7,false),(22,false),(23,false),(24,false)],[5]⟩)]⟩
noncomputable def fRe:Func:=Tryz.f20
def frRe (r0:Int)(n1:Option Bool)(l1:Nat)(c1:List PV)(s:List UInt8)(nv:Option Bool)(lv:Nat)(cv:List PV)(L i:Int):St :=
 frame 39 [(5,(.ptr 5 0,0)),(7,(.str s,0)),(22,(.sl nv 4 lv cv,0)),(23,(.int .i64 L,0)),(24,(.int .i64 i,0))] [(5,[(.int .i64 r0,0),(.sl n1 5 l1 c1,0)])]
noncomputable def reLoop (fu n:Nat)(st:St):Option PV:=loopF (en lRe) hRe fu false fRe [1,1,0,1,0] 0 n st
theorem re_raw (fu:Nat)(t x0:Int)(x1:List UInt8)(n9:Option Bool)(l9:Nat)(c9:List PV)(x3:Bool)(x4:Int)(r0:Int)(n1:Option Bool)(l1:Nat)(c1:List PV) :
  prun (en lRe) hRe fu false fRe [.int .i64 t,.agg [.int .i64 x0,.str x1,.sl n9 1 l9 c9,.bool x3,.int .i64 x4],.agg [.int .i64 r0,.sl n1 5 l1 c1]] =
  oneO 2 t 0 [] fun y1=>catO [105] y1 (oneO 2 x0 0 [] fun y2=>catO (105::y1) y2 (valsO l9 c9 l1 c1 fun p=>reLoop fu fu (frRe r0 n1 l1 c1 (105::(y1++y2)) (some p.1.isEmpty) p.1.length (valsC (valsOf p.1 p.2)) (p.1.length:Int) 0))):=prunN_eq.trans (by kernel_rfl)
theorem re_step (fu:Nat)(r0:Int)(n1:Option Bool)(l1:Nat)(c1:List PV)(s:List UInt8)(nv:Option Bool)(lv:Nat)(cv:List PV)(L i:Int)(K:St→Option PV) :
  stepF (en lRe) hRe fu false fRe [1,1,0,1,0] (frRe r0 n1 l1 c1 s nv lv cv L i) (fun st=>pnorm (hRe.loop.lookup 0) st K) =
  bif decide (i<L) then ixV lv cv i fun a n b t=>oneO a n b t fun y=>catO s y (K (frRe r0 n1 l1 c1 (s++y) nv lv cv L (IntKind.i64.wrap (i+1))))
  else oneO 2 r0 0 [] fun y=>catO s y (some (.str (s++y))):=by kernel_rfl
theorem re_loop (fu:Nat)(r0:Int)(n1:Option Bool)(l1:Nat)(c1:List PV)(nv:Option Bool)(vs:List Val)(hl:vs.length≤90000)(hs:∀ v∈vs,v.s.length≤1000000)(t x:Int):∀ (k i n:Nat),i+k=vs.length→k<n →
  reLoop fu n (frRe r0 n1 l1 c1 (105::encs (numV t::numV x::vs.take i)) nv vs.length (valsC vs) (vs.length:Int) (i:Int))=some (.str (105::encs (numV t::numV x::(vs++[numV r0]))))
 |k,i,0,_,h=>by omega
 |0,i,n+1,hi,hn=>by
  have hle:=encs_length (numV t::numV x::vs.take i)
  have hlo:=enc_length (numV r0)
  unfold reLoop
  rw[loopF_succ,re_step,cond_f (decide_eq_false (by omega))]
  have e:encs (numV t::numV x::(vs++[numV r0]))=encs (numV t::numV x::vs.take i)++enc (numV r0):=by
   rw[List.take_of_length_le (by omega)]
   simp[encs]
  rw[oneO_eq (by simp),catO_eq (by simp only[List.length_cons,List.length_take] at hle ⊢;show _+(enc (numV r0)).length≤_;omega),e]
  rfl
 |k+1,i,n+1,hi,hn=>by
  have hc:=List.getElem?_eq_getElem (l:=vs) (i:=i) (by omega)
  have hsv:=hs vs[i] (List.getElem_mem _)
  have ih:=re_loop fu r0 n1 l1 c1 nv vs hl hs t x k (i+1) n (by omega) (by omega)
  have hle:=encs_length (numV t::numV x::vs.take i)
  have hlo:=enc_length vs[i]
  have e:encs (numV t::numV x::vs.take (i+1))=encs (numV t::numV x::vs.take i)++enc vs[i]:=by
   rw[List.take_add_one,hc]
   simp only[encs,Option.toList_some,List.flatMap_cons,List.flatMap_append,List.flatMap_nil,List.append_nil,List.append_assoc]
  rw[e] at ih
  unfold reLoop at ih ⊢
  rw[loopF_succ,re_step,cond_t (decide_eq_true (by omega)),ixV_eq hc,oneO_eq hsv,catO_eq (by simp only[List.length_cons,List.length_take] at hle ⊢;show _+(enc vs[i]).length≤_;omega),wrapI_of (by omega) (by omega)]
  exact ih
def celsSm (l:List Cel):Bool:=l.all fun c=>decide (c.2.s.length≤1000000)
theorem colV_sm {l:List Cel}(h:celsSm l=true)(j:Int):(colV l j).s.length≤1000000:=by
 induction l with
 |nil=>simp[colV,vnull]
 |cons c l ih =>
  unfold celsSm at h ih
  rw[List.all_cons,Bool.and_eq_true] at h
  simp only[colV]
  split
  ·exact of_decide_eq_true h.1
  ·exact ih h.2
def p_REnt:PFn:=⟨fun xs k=>match xs with|[.int .i64 t,.agg [.int .i64 x0,.str _,.sl _ 1 n9 c9,.bool _,.int .i64 _],.agg [.int .i64 r0,.sl _ 5 n1 c1]]=>(entK n9 c9 n1 c1).bind fun p=>bif celsSm p.2 then k (.str (entL t x0 p.1 p.2 r0)) else none|_=>none,false⟩
theorem ok_REnt:FOK NGk Tabs 20 p_REnt:=by
 refine fok wokk ok_lRe (h:=hRe) Tryz.func20 rfl (by decide) ?_ ?_
 ·intro R xs k
  simp only[p_REnt]
  split
  ·rw[Option.bind_assoc]
   congr 1
   funext p
   exact cond_nat
  ·rfl
 ·intro xs r h
  simp only[p_REnt] at h
  split at h
  ·rename_i t x0 x1 n9 l9 c9 x3 x4 r0 n1 l1 c1
   obtain⟨p,h1,h⟩:=Option.bind_eq_some_iff.1 h
   rcases hb:celsSm p.2 with _|_<;>rw[hb] at h
   ·cases h
   rw[cond_true] at h
   unfold entK at h1
   obtain⟨q,h4,h3⟩:=Option.bind_eq_some_iff.1 h1
   split at h3
   ·rename_i hl
    injection h3 with h3
    subst h3
    refine⟨q.1.length+1,(re_raw _ t x0 x1 n9 l9 c9 x3 x4 r0 n1 l1 c1).trans ?_⟩
    have g1:=enc_length (numV t)
    have g2:=enc_length (numV x0)
    rw[oneO_eq (by simp),catO_eq (by simp only[List.length_cons,List.length_nil];show _+(enc (numV t)).length≤_;omega),oneO_eq (by simp),catO_eq (by simp only[List.length_cons];show (enc (numV t)).length+1+(enc (numV x0)).length≤_;omega)]
    unfold valsO
    rw[h4,Option.bind_some]
    have:=re_loop (q.1.length+1) r0 n1 l1 c1 (some q.1.isEmpty) (valsOf q.1 q.2) (by rw[valsOf_len];exact hl) (fun v hv=>by
     obtain⟨j,_,rfl⟩:=List.mem_map.1 hv
     exact colV_sm hb j) t x0 q.1.length 0 (q.1.length+1) (by rw[valsOf_len];omega) (by omega)
    rw[valsOf_len] at this
    refine Eq.trans ?_ (this.trans h)
    have e:encs (numV t::numV x0::(valsOf q.1 q.2).take 0)=enc (numV t)++enc (numV x0):=by simp[encs]
    rw[e]
    rfl
   ·cases h3
  ·cases h
def hIn:Hints:=⟨[],[(0,⟨[(0,false),(3,false),(11,false),(12,false),(13,false)],[3]⟩)]⟩
noncomputable def lSn:List (FuncId×PFn):=[(47,p_bounds),(48,p_Span),(49,p_KeysPut),(50,p_Above)]
theorem ok_lSn:AllOK NGk Tabs lSn:=allOK_cons ok_bounds (allOK_cons ok_Span (allOK_cons ok_KeysPut (allOK_cons ok_Above allOK_nil)))
def maxK (a b:List UInt8):List UInt8:=bif Op.bytesLess a b then b else a
def bdO {R:Type}(rc:List PV)(K:Int→Option R):Option R:=rngO rc fun r=>K ((bndS r:Nat):Int)
def oneK {R:Type}(b:List UInt8)(ll:Nat)(cl:List PV)(K:List UInt8→Option R):Option R:=ixV ll cl 0 fun a n c s=>putO 1 [.int .i64 a,.int .i64 n,.int .i64 c,.str s] fun y=>(pbytes (bC y)).bind fun y=>catO b y (K (b++y))
def abvK {R:Type}(s:List UInt8)(K:List UInt8→Option R):Option R:=bif decide (s.length≤9223372036854775807) then abO s.length (bC s) fun a=>(pbytes (bC a)).bind K else none
def outK (f t:List UInt8):Option PV:=some (.tuple [.str f,.str t])
def snHi (b:List UInt8)(lh:Nat)(ch:List PV)(ho:Bool)(f t:List UInt8):Option PV :=
 bif decide (0<(lh:Int)) then oneK b lh ch fun o=>abvK o fun a=>bif ho then outK f o else outK f a else outK f t
def snLo (b:List UInt8)(ll:Nat)(cl:List PV)(lo:Bool)(lh:Nat)(ch:List PV)(ho:Bool)(f t:List UInt8):Option PV :=
 bif decide (0<(ll:Int)) then oneK b ll cl fun o=>bif lo then abvK o fun a=>snHi b lh ch ho (maxK (maxK f o) a) t else snHi b lh ch ho (maxK f o) t else snHi b lh ch ho f t
theorem sn_raw (tb x0:Int)(x1:List UInt8)(nx:Option Bool)(lx:Nat)(cx:List PV)(x3:Bool)(x4:Int)(ne:Option Bool)(le:Nat)(ce:List PV)(nl:Option Bool)(ll:Nat)(cl:List PV)(lo:Bool)(nh:Option Bool)(lh:Nat)(ch:List PV)(ho:Bool) :
  prun (en lSn) ⟨[],[]⟩ 0 false Tryz.f18 [.int .i64 tb,.agg [.int .i64 x0,.str x1,.sl nx 1 lx cx,.bool x3,.int .i64 x4],.agg [.sl ne 4 le ce,.sl nl 4 ll cl,.bool lo,.sl nh 4 lh ch,.bool ho]] =
   bdO [.sl ne 4 le ce,.sl nl 4 ll cl,.bool lo,.sl nh 4 lh ch,.bool ho] fun n=>bif decide ((lx:Int)<n) then outK [] [] else spnO tb x0 le ce fun b e =>
    bif decide (0<IntKind.i64.wrap ((ll:Int)+(lh:Int))) then catO b [1] (snLo b ll cl lo lh ch ho (b++[1]) e) else snLo b ll cl lo lh ch ho b e:=by kernel_rfl
end Go.Proofs.YthjmjoioagocdaaGreatDoor
end
section
set_option maxRecDepth 100000
namespace Go.Proofs.YthjmjoioagocdaaGreatDoor
open Go.RowKit
open TS (kl_irr kl_trans kl_tri kl_asym kl_le_lt kl_lt_le)
def leK (a b:List UInt8):Bool:=!Op.bytesLess b a
theorem leK_or (a b:List UInt8):(Op.bytesLess a b||a==b)=leK a b:=by
 unfold leK
 rcases h:Op.bytesLess a b with _|_
 ·rcases h2:Op.bytesLess b a with _|_
  ·have:=kl_tri h h2
   subst this
   simp
  ·have:a≠b:=by rintro rfl;rw[kl_irr] at h2;cases h2
   simp[this]
 ·simp[kl_asym h]
theorem leK_max (a b e:List UInt8):leK (maxK a b) e=(leK a e&&leK b e):=by
 unfold maxK leK
 rcases h:Op.bytesLess a b with _|_
 ·rw[cond_false]
  rcases h2:Op.bytesLess e a with _|_
  ·rcases h3:Op.bytesLess e b with _|_
   ·rfl
   ·have:=kl_lt_le h3 h
    rw[h2] at this
    cases this
  ·simp
 ·rw[cond_true]
  rcases h2:Op.bytesLess e b with _|_
  ·rcases h3:Op.bytesLess e a with _|_
   ·rfl
   ·have:=kl_trans h3 h
    rw[h2] at this
    cases this
  ·simp
theorem less_pre (p a b:List UInt8):Op.bytesLess (p++a) (p++b)=Op.bytesLess a b:=by rw[lss_txt,lss_txt,txt_pre]
theorem leK_pre (p a b:List UInt8):leK (p++a) (p++b)=leK a b:=by unfold leK;rw[less_pre]
theorem less_nil (a:List UInt8):Op.bytesLess a []=false:=by cases a<;>rfl
theorem leK_app (p a:List UInt8):leK p (p++a)=true:=by
 have:=leK_pre p [] a
 rw[List.append_nil] at this
 rw[this]
 unfold leK
 rw[less_nil]
 rfl
theorem lt_above (b r:List UInt8)(h:aboveL b≠[]):Op.bytesLess (b++r) (aboveL b)=true:=by
 rw[lss_txt]
 have:=(above_law b r h).1
 rw[textCmp_txt] at this
 exact decide_eq_true this
theorem above_le (b e:List UInt8)(h:aboveL b≠[])(h1:leK b e=true)(h2:∀ r,e≠b++r):leK (aboveL b) e=true:=by
 have:=span_iff (b:=b) (e:=e) h
 have hp:¬ (e.take b.length=b):=fun q=>h2 (e.drop b.length) (by conv=>lhs;rw[← List.take_append_drop b.length e,q])
 rw[decide_eq_false hp] at this
 unfold inSpan at this
 rw[leK_or,h1,Bool.true_and] at this
 unfold leK
 rw[this]
 rfl
theorem enc_plain (w:Val):enc (plain w)=enc w:=by
 unfold enc
 rw[plain_right (right_plain w)]
theorem Dif.not_pre {a b:List UInt8}{z:Int}(h:Dif a b z)(r s:List UInt8):a++s≠b++r:=by
 intro e
 have h2:=h.append s r
 rw[e] at h2
 have:=h2.txt
 rw[txt_self] at this
 exact h.ne this.symm
def spanS (tb:Int)(x:Idx)(r:Rng):List UInt8×List UInt8 :=
 if fitS x r then
  let b:=fromL tb x.id r.eq
  let f0:=if 0<r.lo.length+r.hi.length then b++[1] else b
  let f1:=match r.lo with|[]=>f0|v::_=>if r.lout then maxK (maxK f0 (b++enc v)) (aboveL (b++enc v)) else maxK f0 (b++enc v)
  let t1:=match r.hi with|[]=>aboveL b|v::_=>if r.hout then b++enc v else aboveL (b++enc v)
  (f1,t1)
 else ([],[])
def loOK (v:Val)(r:Rng):Bool:=match r.lo with|[]=>true|w::_=>!(decide (txtL (enc v) (enc w)<0)||(decide (txtL (enc v) (enc w)=0)&&r.lout))
def hiOK (v:Val)(r:Rng):Bool:=match r.hi with|[]=>true|w::_=>!(decide (0<txtL (enc v) (enc w))||(decide (txtL (enc v) (enc w)=0)&&r.hout))
def inS (vs:List Val)(r:Rng):Bool :=
 decide (vs.take r.eq.length=r.eq)&&(if r.lo.length+r.hi.length=0 then true else match vs[r.eq.length]? with|none=>false|some v=>!(v.kind==0)&&(loOK v r&&hiOK v r))
def inBetween (p:List UInt8×List UInt8)(e:List UInt8):Bool:=leK p.1 e&&Op.bytesLess e p.2
theorem from_ne (t x:Int)(l:List Val)(s:List UInt8):aboveL (fromL t x l++s)≠[]:=above_ne (by decide) _
theorem from_ne' (t x:Int)(l:List Val):aboveL (fromL t x l)≠[]:=above_ne (by decide) _
def okR (v:Val):Prop:=right v=true∧v.in64
theorem plain_ok (w:Val)(h:w.in64):okR (plain w):=by
 refine⟨right_plain w,?_⟩
 unfold plain
 split
 ·exact h
 ·show (-9223372036854775808:Int)≤0∧(0:Int)≤9223372036854775807;omega
theorem one_cmp {v w:Val}(hv:okR v)(hw:w.in64)(s:List UInt8):(txtL (enc v) (enc w)=0∧enc v=enc w)∨(∃ z,Dif (enc v) (enc w) z∧txtL (enc v) (enc w)=z):=by
 have hp:=plain_ok w hw
 rw[← enc_plain w]
 rcases enc_any hv.1 hp.1 hv.2 hp.2 with e|⟨z,h⟩
 ·left
  rw[e]
  exact⟨txt_self _,rfl⟩
 ·exact .inr ⟨z,h,h.txt⟩
theorem lo_side {v w:Val}(hv:okR v)(hw:w.in64)(t x:Int)(l:List Val)(s:List UInt8)(out:Bool) :
  leK (fromL t x l++enc w) (fromL t x l++(enc v++s))=decide (0≤txtL (enc v) (enc w)) ∧
  leK (aboveL (fromL t x l++enc w)) (fromL t x l++(enc v++s))=decide (0<txtL (enc v) (enc w)):=by
 have ha:=from_ne t x l (enc w)
 rcases one_cmp hv hw s with ⟨h0,he⟩|⟨z,hd,hz⟩
 ·rw[h0]
  constructor
  ·rw[leK_pre,he,leK_app];rfl
  ·unfold leK
   rw[he,← List.append_assoc,lt_above _ _ ha]
   rfl
 ·have hz0:=hd.ne
  rw[hz]
  have hd2:Dif (enc v++s) (enc w) z:=by have:=hd.append s [];rwa [List.append_nil] at this
  have h1:leK (fromL t x l++enc w) (fromL t x l++(enc v++s))=decide (0≤z):=by
   rw[leK_pre]
   unfold leK
   rw[hd2.lss]
   by_cases h:z<0
   ·rw[decide_eq_true h,decide_eq_false (by omega)];rfl
   ·rw[decide_eq_false h,decide_eq_true (by omega)];rfl
  refine⟨h1,?_⟩
  by_cases h:0<z
  ·rw[decide_eq_true h]
   refine above_le _ _ ha (by rw[h1];exact decide_eq_true (by omega)) fun r e=>?_
   have e2:enc v++s=enc w++r:=by rw[List.append_assoc] at e;exact List.append_cancel_left e
   exact hd.not_pre r s e2
  ·rw[decide_eq_false h]
   unfold leK
   rw[Bool.not_eq_false']
   have h3:Op.bytesLess (fromL t x l++(enc v++s)) (fromL t x l++enc w)=true:=by
    rw[less_pre,hd2.lss]
    exact decide_eq_true (by omega)
   have h4:=lt_above (fromL t x l++enc w) [] ha
   rw[List.append_nil] at h4
   exact kl_trans h3 h4
theorem hi_side {v w:Val}(hv:okR v)(hw:w.in64)(t x:Int)(l:List Val)(s:List UInt8) :
  Op.bytesLess (fromL t x l++(enc v++s)) (fromL t x l++enc w)=decide (txtL (enc v) (enc w)<0) ∧
  Op.bytesLess (fromL t x l++(enc v++s)) (aboveL (fromL t x l++enc w))=decide (txtL (enc v) (enc w)≤0):=by
 obtain⟨h1,h2⟩:=lo_side hv hw t x l s false
 constructor
 ·have:Op.bytesLess (fromL t x l++(enc v++s)) (fromL t x l++enc w)=!leK (fromL t x l++enc w) (fromL t x l++(enc v++s)):=by unfold leK;rw[Bool.not_not]
  rw[this,h1]
  by_cases h:txtL (enc v) (enc w)<0
  ·rw[decide_eq_false (by omega),decide_eq_true h];rfl
  ·rw[decide_eq_true (by omega),decide_eq_false h];rfl
 ·have:Op.bytesLess (fromL t x l++(enc v++s)) (aboveL (fromL t x l++enc w))=!leK (aboveL (fromL t x l++enc w)) (fromL t x l++(enc v++s)):=by unfold leK;rw[Bool.not_not]
  rw[this,h2]
  by_cases h:txtL (enc v) (enc w)≤0
  ·rw[decide_eq_false (by omega),decide_eq_true h];rfl
  ·rw[decide_eq_true (by omega),decide_eq_false h];rfl
theorem null_side {v:Val}(hv:okR v)(b s:List UInt8):leK (b++[1]) (b++(enc v++s))=!(v.kind==0):=by
 rw[leK_pre]
 have hk:=right_kind hv.1
 rw[enc_kind hv.1]
 unfold leK
 have e:∀ (c:UInt8) (q:List UInt8),Op.bytesLess (c::q) [1]=decide (c<1):=by
  intro c q
  simp only[Op.bytesLess,less_nil,Bool.and_false,Bool.or_false]
 rw[List.cons_append,e]
 obtain⟨h0,h5⟩:=hk
 generalize v.kind=k at h0 h5
 match k,h0,h5 with
 |(n:Nat),_,h5 =>
  have hn:n≤5:=by omega
  match n,hn with
  |0,_=>rfl
  |1,_=>rfl
  |2,_=>rfl
  |3,_=>rfl
  |4,_=>rfl
  |5,_=>rfl
theorem entL_eq (tb:Int)(x:Idx)(l:List Cel)(id:Int):entL tb x.id x.cols l id=fromL tb x.id (valsOf x.cols l)++enc (numV id):=by
 simp[entL,fromL,encs]
theorem from_app (tb x:Int)(a b:List Val):fromL tb x (a++b)=fromL tb x a++encs b:=by simp[fromL,encs]
theorem span_in {tb:Int}{x:Idx}{r:Rng}(hf:fitS x r=true)(l:List Cel)(id:Int)(hv:∀ v∈valsOf x.cols l,okR v)(he:∀ v∈r.eq,okR v)(hlo:∀ v∈r.lo,v.in64)(hhi:∀ v∈r.hi,v.in64) :
  inBetween (spanS tb x r) (entL tb x.id x.cols l id)=inS (valsOf x.cols l) r:=by
 have hfit:bndS r≤x.cols.length:=of_decide_eq_true hf
 have hlen:=valsOf_len x.cols l
 generalize hvs:valsOf x.cols l=vs at hv hlen
 rw[entL_eq,hvs]
 have hn:r.eq.length≤vs.length:=by unfold bndS at hfit;omega
 have hne:aboveL (fromL tb x.id r.eq)≠[]:=from_ne' _ _ _
 unfold spanS
 rw[if_pos hf]
 simp only
 by_cases hp:vs.take r.eq.length=r.eq
 ·
  have hsplit:fromL tb x.id vs++enc (numV id)=fromL tb x.id r.eq++(encs (vs.drop r.eq.length)++enc (numV id)):=by
   conv=>lhs;rw[← List.take_append_drop r.eq.length vs,from_app,hp]
   rw[List.append_assoc]
  unfold inS
  rw[decide_eq_true hp,Bool.true_and,hsplit]
  by_cases h0:r.lo.length+r.hi.length=0
  ·have h1:r.lo=[]:=List.length_eq_zero_iff.1 (by omega)
   have h2:r.hi=[]:=List.length_eq_zero_iff.1 (by omega)
   rw[if_pos h0,if_neg (by omega),h1,h2]
   simp only
   unfold inBetween
   rw[leK_app,lt_above _ _ hne]
   rfl
  ·rw[if_neg h0,if_pos (by omega)]
   have hn2:r.eq.length<vs.length:=by unfold bndS at hfit;rw[if_pos (by omega)] at hfit;omega
   have hg:=List.getElem?_eq_getElem (l:=vs) (i:=r.eq.length) hn2
   rw[hg,List.drop_eq_getElem_cons hn2]
   have hov:=hv _ (List.getElem_mem hn2)
   generalize vs[r.eq.length]=v at hov
   have er:encs (v::vs.drop (r.eq.length+1))++enc (numV id)=enc v++(encs (vs.drop (r.eq.length+1))++enc (numV id)):=by simp[encs]
   rw[er]
   generalize encs (vs.drop (r.eq.length+1))++enc (numV id)=s
   simp only
   unfold inBetween loOK hiOK
   have hnull:=null_side hov (fromL tb x.id r.eq) s
   have hLo:leK (match r.lo with|[]=>fromL tb x.id r.eq++[1]|w::_=>if r.lout then maxK (maxK (fromL tb x.id r.eq++[1]) (fromL tb x.id r.eq++enc w)) (aboveL (fromL tb x.id r.eq++enc w)) else maxK (fromL tb x.id r.eq++[1]) (fromL tb x.id r.eq++enc w)) (fromL tb x.id r.eq++(enc v++s)) =
     (!(v.kind==0)&&(match r.lo with|[]=>true|w::_=>!(decide (txtL (enc v) (enc w)<0)||(decide (txtL (enc v) (enc w)=0)&&r.lout)))):=by
    rcases hl:r.lo with _|⟨w,t⟩
    ·simp only[Bool.and_true]
     exact hnull
    ·simp only
     obtain⟨g1,g2⟩:=lo_side hov (hlo w (by rw[hl];exact List.mem_cons_self)) tb x.id r.eq s false
     cases r.lout with
     |true =>
      rw[if_pos rfl,leK_max,leK_max,hnull,g1,g2,Bool.and_assoc]
      congr 1
      generalize txtL (enc v) (enc w)=z
      by_cases hz:0<z
      ·rw[decide_eq_true hz,decide_eq_true (show 0≤z by omega),decide_eq_false (show ¬ z<0 by omega),decide_eq_false (show ¬ z=0 by omega)];rfl
      ·rw[decide_eq_false hz,Bool.and_false]
       by_cases hz2:z<0
       ·rw[decide_eq_true hz2];rfl
       ·rw[decide_eq_false hz2,decide_eq_true (show z=0 by omega)];rfl
     |false =>
      rw[if_neg (by simp),leK_max,hnull,g1]
      congr 1
      generalize txtL (enc v) (enc w)=z
      by_cases hz:z<0
      ·rw[decide_eq_true hz,decide_eq_false (show ¬ 0≤z by omega)];rfl
      ·rw[decide_eq_false hz,decide_eq_true (show 0≤z by omega),Bool.and_false];rfl
   have hHi:Op.bytesLess (fromL tb x.id r.eq++(enc v++s)) (match r.hi with|[]=>aboveL (fromL tb x.id r.eq)|w::_=>if r.hout then fromL tb x.id r.eq++enc w else aboveL (fromL tb x.id r.eq++enc w)) =
     (match r.hi with|[]=>true|w::_=>!(decide (0<txtL (enc v) (enc w))||(decide (txtL (enc v) (enc w)=0)&&r.hout))):=by
    rcases hl:r.hi with _|⟨w,t⟩
    ·simp only
     exact lt_above _ _ hne
    ·simp only
     obtain⟨g1,g2⟩:=hi_side hov (hhi w (by rw[hl];exact List.mem_cons_self)) tb x.id r.eq s
     cases r.hout with
     |true =>
      rw[if_pos rfl,g1]
      generalize txtL (enc v) (enc w)=z
      by_cases hz:z<0
      ·rw[decide_eq_true hz,decide_eq_false (show ¬ 0<z by omega),decide_eq_false (show ¬ z=0 by omega)];rfl
      ·rw[decide_eq_false hz]
       by_cases hz2:0<z
       ·rw[decide_eq_true hz2];rfl
       ·rw[decide_eq_false hz2,decide_eq_true (show z=0 by omega)];rfl
     |false =>
      rw[if_neg (by simp),g2]
      generalize txtL (enc v) (enc w)=z
      by_cases hz:0<z
      ·rw[decide_eq_true hz,decide_eq_false (show ¬ z≤0 by omega)];rfl
      ·rw[decide_eq_false hz,decide_eq_true (show z≤0 by omega),Bool.and_false];rfl
   rw[hLo,hHi,Bool.and_assoc]
 ·
  unfold inS
  rw[decide_eq_false hp,Bool.false_and]
  have hd:∃ z,Dif (encs (vs.take r.eq.length)) (encs r.eq) z:=by
   rcases encs_any (vs.take r.eq.length) r.eq (by rw[List.length_take];omega) (fun v hv'=>hv v (List.mem_of_mem_take hv')) he with h|h
   ·exact absurd h hp
   ·exact h
  obtain⟨z,hd⟩:=hd
  have hsplit:fromL tb x.id vs++enc (numV id)=fromL tb x.id []++(encs (vs.take r.eq.length)++(encs (vs.drop r.eq.length)++enc (numV id))):=by
   conv=>lhs;rw[← List.take_append_drop r.eq.length vs,← List.nil_append (List.take _ _),from_app,from_app]
   simp only[List.append_assoc]
  have hb:fromL tb x.id r.eq=fromL tb x.id []++encs r.eq:=by
   have:=from_app tb x.id [] r.eq
   rwa [List.nil_append] at this
  rw[hsplit]
  generalize encs (vs.drop r.eq.length)++enc (numV id)=s
  generalize he2:fromL tb x.id []++(encs (vs.take r.eq.length)++s)=e
  have hnp:∀ q,e≠fromL tb x.id r.eq++q:=by
   intro q h
   rw[← he2,hb,List.append_assoc] at h
   exact hd.not_pre q s (List.append_cancel_left h)
  rcases hlt:Op.bytesLess e (fromL tb x.id r.eq) with _|_
  ·
   have hge:leK (fromL tb x.id r.eq) e=true:=by unfold leK;rw[hlt];rfl
   have hab:=above_le _ e hne hge hnp
   have hto:∀ t,leK t (aboveL (fromL tb x.id r.eq))=true→Op.bytesLess e t=false:=by
    intro t ht
    rcases h:Op.bytesLess e t with _|_
    ·rfl
    ·unfold leK at ht hab
     rw[Bool.not_eq_true'] at ht hab
     have:=kl_lt_le h ht
     rw[hab] at this
     cases this
   unfold inBetween
   have:Op.bytesLess e (match r.hi with|[]=>aboveL (fromL tb x.id r.eq)|w::_=>if r.hout then fromL tb x.id r.eq++enc w else aboveL (fromL tb x.id r.eq++enc w))=false:=by
    apply hto
    have o1:∀ w:Val,leK (fromL tb x.id r.eq++enc w) (aboveL (fromL tb x.id r.eq))=true:=by
     intro w
     unfold leK
     rw[kl_asym (lt_above _ _ hne)]
     rfl
    rcases r.hi with _|⟨w,t⟩
    ·simp only
     unfold leK
     rw[kl_irr]
     rfl
    ·simp only
     cases r.hout with
     |true=>rw[if_pos rfl];exact o1 w
     |false =>
      rw[if_neg (by simp)]
      refine above_le _ _ (from_ne _ _ _ _) (o1 w) fun q h=>?_
      have:=lt_above (fromL tb x.id r.eq) (enc w++q) hne
      rw[h,List.append_assoc,kl_irr] at this
      cases this
   rw[this,Bool.and_false]
  ·
   have hfr:∀ q,leK (fromL tb x.id r.eq++q) e=false:=by
    intro q
    unfold leK
    rw[Bool.not_eq_false']
    have h1:=leK_app (fromL tb x.id r.eq) q
    unfold leK at h1
    rw[Bool.not_eq_true'] at h1
    exact kl_lt_le hlt h1
   have hf0:leK (if 0<r.lo.length+r.hi.length then fromL tb x.id r.eq++[1] else fromL tb x.id r.eq) e=false:=by
    split
    ·exact hfr _
    ·have:=hfr [];rwa [List.append_nil] at this
   unfold inBetween
   have:leK (match r.lo with|[]=>(if 0<r.lo.length+r.hi.length then fromL tb x.id r.eq++[1] else fromL tb x.id r.eq)|w::_=>if r.lout then maxK (maxK (if 0<r.lo.length+r.hi.length then fromL tb x.id r.eq++[1] else fromL tb x.id r.eq) (fromL tb x.id r.eq++enc w)) (aboveL (fromL tb x.id r.eq++enc w)) else maxK (if 0<r.lo.length+r.hi.length then fromL tb x.id r.eq++[1] else fromL tb x.id r.eq) (fromL tb x.id r.eq++enc w)) e=false:=by
    generalize (if 0<r.lo.length+r.hi.length then fromL tb x.id r.eq++[1] else fromL tb x.id r.eq)=f0 at hf0
    rcases r.lo with _|⟨w,t⟩
    ·exact hf0
    ·simp only
     cases r.lout with
     |true=>rw[if_pos rfl,leK_max,leK_max,hf0];rfl
     |false=>rw[if_neg (by simp),leK_max,hf0];rfl
   rw[this,Bool.false_and]
end Go.Proofs.YthjmjoioagocdaaGreatDoor
end
