/-
  Lemmas, part L2: what the claim needs of the texts of wip/tpl.
-/
import Derived.Test.YtegmldndflfohaaGreatDoorPlLA
set_option linter.unusedVariables false
set_option linter.unusedSimpArgs false
section
set_option maxRecDepth 100000
namespace Go.Proofs.YtegmldndflfohaaGreatDoor
open Go.RowKit
open SC (Col Idx Tbl colC' colG colG_of colG_inv colC_len idxC idxG idxG_of idxG_inv idxC_len tblC tblG tblG_of tblG_inv tblC_len atE atE_eq tblE tblE_eq colE colE_eq idxE idxE_eq Cel celC celsC celG celG_of celG_inv celC_len intG colC Rng rngC rngO rngO_of ixC ixC_eq Rw rwC rwG rwG_of rwG_inv rwC_len valsOf valsC decV colV inA inGA fitS bndS pubI)
theorem decT (ts:List Tbl):decG 4 tblG ts.length (ts.flatMap tblC)=some ts:=decG_of tblC_len tblG_of ts
theorem decI (js:List Int):decG 1 intG js.length (colC js)=some js:=decG_of (f:=fun j=>[PV.int .i64 j]) (sz:=1) (fun _=>rfl) (fun _=>rfl) js
theorem atZ_get {α:Type}{l:List α}{z:Int}{x:α}(h:atZ l z=some x):∃ k:Nat,z=(k:Int)∧l[k]? = some x:=by
 unfold atZ at h
 split at h
 ·cases h
 ·exact⟨z.toNat,by omega,h⟩
theorem atE_at {R α:Type}{f:α→List PV}{sz:Nat}(hf:∀ x,(f x).length=sz){l:List α}{z:Int}{x:α}(h:atZ l z=some x){K:List PV→Option R}:atE sz l.length (l.flatMap f) z K=K (f x):=by
 obtain⟨k,rfl,h⟩:=atZ_get h
 exact atE_eq hf h
theorem cond_to {c:Bool}{a b t:Option PV}(h1:c=true→a=t)(h2:c=false→b=t):(bif c then a else b)=t:=by
 cases c
 ·exact h2 rfl
 ·exact h1 rfl
theorem lv_true (v w:Int)(nt:Option Bool)(ts:List Tbl)(z0:Option Bool)(js:List Int)(z1:Option Bool)(on:List NdC)(z2:Option Bool)(wh:List NdC)(q:QR)(nr:Option Bool)(rs:List Rw)
  (hon:∀ y∈on,∃ D,wfN D y) (hwh:∀ y∈wh,∃ D,wfN D y) (hsl:∀ y∈wh,∃ d,SlI d y) (hrs:∀ r∈rs,∀ c∈r.2.2,inI c.2.n=true) :
  ∃ fu,prun (en (lLv (ptS 62) (qznotG (quS 61)) (s4G 61) (paG (evGd 61)))) hLv fu false fLv [.agg [.int .i64 v,.int .i64 w,.sl nt 4 ts.length (ts.flatMap tblC)],.agg (qC (.sl z0 1 js.length (colC js)) (.sl z1 11 on.length (ndC on)) (.sl z2 11 wh.length (ndC wh)) q),.sl nr 2 rs.length (rs.flatMap rwC)]=some (.bool true):=by
 refine⟨rs.length+1,(lv_raw _ _ _ _ _ ⟨v,w,nt,ts.length,ts.flatMap tblC,z0,js.length,colC js,z1,on.length,ndC on,z2,wh.length,ndC wh,q⟩ nr rs.length (rs.flatMap rwC)).trans ?_⟩
 show (SC.s12O ts.length (ts.flatMap tblC) _)=_
 unfold SC.s12O
 rw[decT,Option.bind_some,cond_t (decide_eq_true (Nat.zero_le _))]
 refine cond_to (fun hb1=>?_) fun _=>rfl
 have hs12:ts.length≤20∧∀ t∈ts,SC.tblSm t=true:=by
  rw[Bool.not_not] at hb1
  unfold SC.s12S at hb1
  rw[Bool.and_eq_true,decide_eq_true_eq,List.all_eq_true] at hb1
  exact hb1
 have hall:ts.all SC.tblSm=true:=List.all_eq_true.2 hs12.2
 unfold riO
 simp only
 rw[decT,Option.bind_some,cond_t (by rw[hall,decide_eq_true (show ts.length≤1000000 by omega)];rfl)]
 refine cond_to (fun hb2=>?_) fun _=>rfl
 unfold sqO
 rw[decNd_of,Option.bind_some,decNd_of,Option.bind_some]
 have hsq:∃ b3,(bif sqB js.length on.length wh.length then some false else sqS (s4G 61) (on++wh) 0)=some b3∧(b3=true→wh.length≤5∧sqS (s4G 61) (on++wh) 0=some true):=by
  rcases hB:sqB js.length on.length wh.length with _|_
  ·obtain⟨b,hb,_⟩:=sq_some (on++wh) 0 (fun y hy=>by
    rcases List.mem_append.1 hy with hy|hy
    ·exact hon y hy
    ·exact hwh y hy) (by omega) (by omega)
   refine⟨b,hb,fun h=>⟨?_,by rw[hb,h]⟩⟩
   unfold sqB at hB
   by_cases h5:5<(wh.length:Int)
   ·rw[decide_eq_true h5] at hB
    revert hB
    cases (bif decide (5<(js.length:Int)) then true else decide (5<(on.length:Int)))<;>intro hB<;>cases hB
   ·omega
  ·exact⟨false,rfl,fun h=>by cases h⟩
 obtain⟨b3,e3,h3⟩:=hsq
 rw[e3,Option.bind_some]
 refine cond_to (fun hb3=>?_) fun _=>rfl
 rw[Bool.not_not] at hb3
 obtain⟨h5,hsq⟩:=h3 hb3
 unfold smaO
 rw[show decG 2 rwG rs.length (rs.flatMap rwC)=some rs from decG_of rwC_len rwG_of rs,Option.bind_some]
 refine cond_to (fun hb4=>?_) fun _=>rfl
 rw[Bool.not_eq_true'] at hb4
 have h4:SC.smS rs=true∧js.length=1∧on=[]:=by
  rcases hs:SC.smS rs with _|_
  ·rw[hs] at hb4;cases hb4
  ·rw[hs] at hb4
   by_cases hj:(js.length:Int)=1
   ·rw[show ((js.length:Int) != 1)=false by simpa using hj] at hb4
    have:¬ 0<(on.length:Int):=of_decide_eq_false hb4
    exact⟨rfl,by omega,List.length_eq_zero_iff.1 (by omega)⟩
   ·rw[show ((js.length:Int) != 1)=true by simpa using hj] at hb4
    cases hb4
 obtain⟨hsm,hj1,rfl⟩:=h4
 match js,hj1 with
 |[j],_ =>
 rw[List.nil_append] at hsq
 have ixj:∀ {K:Int→Option PV},ixN [j].length (colC [j]) 0 K=K j:=fun {K}=>ixN_eq (l:=[j]) (i:=0) rfl
 show (ixN [j].length (colC [j]) 0 _)=_
 rw[ixj]
 refine cond_to (fun hb5=>?_) fun _=>rfl
 rw[ixj]
 refine cond_to (fun _=>rfl) fun hb6=>?_
 have hts:tblsOK ts=true:=by
  unfold tblsOK
  rw[decide_eq_true (show ts.length≤1000000 by omega),Bool.true_and,List.all_eq_true]
  intro t ht
  have:=(tblSm_of (hs12.2 t ht)).2.1
  exact decide_eq_true (by omega)
 have hti:∀ t∈ts,t.idx.length≤1000000∧∀ x∈t.idx,x.cols.length≤1000000:=fun t ht=>by
  obtain⟨_,_,a3,_,a5⟩:=tblSm_of (hs12.2 t ht)
  exact⟨by omega,fun x hx=>by have:=(a5 x hx).2;omega⟩
 obtain⟨b,hb,hb2⟩:=sq_some wh 0 hwh (by omega) (by omega)
 rw[hsq] at hb
 injection hb with hb
 obtain⟨ps,p1,p2,p3⟩:=hb2 hb.symm
 have hSmall:Small24 wh:=⟨h5,p3,ps,p1,by omega⟩
 obtain⟨a,ha,hch⟩:=as_some (j:=j) hts hti hSmall
 show (agO (ptS 62) (qznotG (quS 61)) ts.length (ts.flatMap tblC) [j].length (colC [j]) 0 [] wh.length (ndC wh) _)=_
 unfold agO
 rw[decI,Option.bind_some,show decG 11 ndG 0 []=some [] from rfl,Option.bind_some,decT,Option.bind_some,decNd_of,Option.bind_some]
 show (bif decide ([j].length=1)&&([]:List NdC).isEmpty then (asS (ptS 62) (qznotG (quS 61)) ts j wh).bind _ else none)=_
 refine (cond_t (show (decide ([j].length=1)&&([]:List NdC).isEmpty)=true from rfl)).trans ?_
 rw[ha,Option.bind_some]
 refine cond_to (fun _=>rfl) fun hb7=>?_
 obtain⟨ch⟩:=hch (by have:=of_decide_eq_false hb7;omega)
 rw[ixj]
 obtain⟨kt,e1,e2⟩:=atZ_get ch.ht
 obtain⟨kx,e4,e5⟩:=atZ_get ch.hx
 have htm:ch.t∈ts:=List.mem_of_getElem? e2
 have hxm:ch.x∈ch.t.idx:=List.mem_of_getElem? e5
 obtain⟨_,a2,a3,_,a5⟩:=tblSm_of (hs12.2 ch.t htm)
 unfold taE
 rw[atE_at tblC_len ch.ht,tblE_eq]
 unfold xiE
 simp only
 rw[atE_at idxC_len ch.hx,idxE_eq]
 have hsm2:rs.length≤60∧∀ r∈rs,r.2.2.length≤20∧∀ c∈r.2.2,c.2.s.length≤250:=by
  unfold SC.smS at hsm
  rw[Bool.and_eq_true,decide_eq_true_eq,List.all_eq_true] at hsm
  refine⟨hsm.1,fun r hr=>?_⟩
  have:=hsm.2 r hr
  unfold SC.rwSm at this
  rw[Bool.and_eq_true,decide_eq_true_eq,List.all_eq_true] at this
  exact⟨this.1,fun c hc=>of_decide_eq_true (this.2 c hc)⟩
 exact lv_loop (rs.length+1) ch hts (by omega) (by have:=(a5 ch.x hxm).2;omega) (by omega) p3 hsl v w nt z0 z1 0 (ndC []) z2 q j a.1 nr (by omega) (fun y hy=>⟨by have:=(hsm2.2 y hy).1;omega,fun c hc=>⟨(hsm2.2 y hy).2 c hc,hrs y hy c hc⟩⟩) rs.length 0 (rs.length+1) (by omega) (by omega)
end Go.Proofs.YtegmldndflfohaaGreatDoor
end
section
set_option maxRecDepth 100000
namespace Go.Proofs.YtegmldndflfohaaGreatDoor
open Go.ChangeShapes Go.WideShapes Go.ChangeAt Go.RowKit Go.Deep
open SC (colC int_tr str_tr bool_tr sl_tr ints_tr relU1 inR Typ_tr)
def PNd (x:NdC):Prop:=(∃ D,wfN D x)∧∃ d,SlI d x
section
variable {H:Type} {enc:TypeId × Value→H} {w:World} {base:Nat} {sp:Nat→Bool} {held:Bool}
theorem node_trS:∀ (F fuel:Nat) (cs:List Value) (y:DataW H×List MemPlace),fuel≤F →
  DataW.trod enc Tryz.prog w base sp held fuel 73 cs=some y→∃ x:NdC,(wfN F x∧SlI F x)∧RelU w x.cs cs
 |0,fuel,cs,y,hF,h=>by
  obtain⟨xs,k,hk,_⟩:=DataW.trod_struct Tryz.underlying73 h
  omega
 |F+1,fuel,cs,y,hF,h=>by
  obtain⟨xs,k,hk,_,hl,hxl,hf⟩:=DataW.trod_struct Tryz.underlying73 h
  rw[show Tryz.prog.cellsOf 73=11 by kernel_rfl] at hl
  match cs,hl with
  |[v0,v1,v2,v3,v4,v5,v6,v7,v8,v9,v10],_ =>
   match xs,hxl with
   |[y0,y1,y2,y3,y4,y5,y6],_ =>
    have g0:DataW.trod enc Tryz.prog w base sp held k 71 [v0]=some y0:=hf 0 _ rfl
    have g1:DataW.trod enc Tryz.prog w base sp held k 9 [v1]=some y1:=hf 1 _ rfl
    have g2:DataW.trod enc Tryz.prog w base sp held k 3 [v2]=some y2:=hf 2 _ rfl
    have g3:DataW.trod enc Tryz.prog w base sp held k 68 [v3,v4,v5,v6]=some y3:=(hf 3 _ rfl)
    have g4:DataW.trod enc Tryz.prog w base sp held k 4 [v7]=some y4:=hf 4 _ rfl
    have g5:DataW.trod enc Tryz.prog w base sp held k 66 [v8,v9]=some y5:=hf 5 _ rfl
    have g6:DataW.trod enc Tryz.prog w base sp held k 26 [v10]=some y6:=hf 6 _ rfl
    obtain⟨k1,e0,_,_⟩:=DataW.trod_int Tryz.underlying71 g0
    obtain⟨o1,e1,_,_⟩:=DataW.trod_string Tryz.underlying9 g1
    obtain⟨j1,e2,_,hj⟩:=DataW.trod_int Tryz.underlying3 g2
    obtain⟨v,iv,e3⟩:=val_trod g3
    obtain⟨b1,e4,_⟩:=DataW.trod_bool Tryz.underlying4 g4
    obtain⟨t1,u1,e5⟩:=typ_trod g5
    obtain⟨A,c,l,e6,wl,B,hB⟩:=open_slR (f:=NdC.cs) (Pa:=fun x=>wfN F x∧SlI F x) (size:=11) (by omega) Tryz.underlying26 (by kernel_rfl) NdC.cs_len (fun n cs' y hn h=>node_trS F n cs' y (by omega) h) g6
    simp only[List.cons.injEq,and_true] at e0 e1 e2 e3 e4 e5 e6
    obtain⟨rfl,rfl,rfl,rfl⟩:=e3
    obtain⟨rfl,rfl⟩:=e5
    subst e0 e1 e2 e4 e6
    refine⟨⟨k1,o1.data.toList,j1,v,b1,t1,u1,none,l.length,ndC l⟩,⟨⟨iv,l,rfl,rfl,fun y hy=>(wl y hy).1⟩,⟨inI_iff.2 (bounds_i64 hj),iv⟩,l,rfl,rfl,fun y hy=>(wl y hy).2⟩,B,fun U hU=>?_⟩
    have:=hB U hU
    simp only[NdC.cs,RelL]
    refine⟨_,_,rfl,rfl,rfl,_,_,rfl,rfl,?_,_,_,rfl,rfl,rfl,_,_,rfl,rfl,rfl,_,_,rfl,rfl,rfl,_,_,rfl,rfl,rfl,_,_,rfl,rfl,rfl,_,_,rfl,rfl,rfl,_,_,rfl,rfl,rfl,_,_,rfl,rfl,rfl,_,_,rfl,rfl,this,rfl⟩
    simp[RelD]
theorem nd_tr {n:Nat}{cs:List Value}{y:DataW H×List MemPlace}(h:DataW.trod enc Tryz.prog w base sp held n 73 cs=some y):∃ x:NdC,PNd x∧RelU w x.cs cs:=by
 obtain⟨x,⟨h1,h2⟩,h3⟩:=node_trS n n cs y (Nat.le_refl _) h
 exact⟨x,⟨⟨n,h1⟩,n,h2⟩,h3⟩
theorem nds_tr {n:Nat}{v:Value}{x:DataW H×List MemPlace}(h:DataW.trod enc Tryz.prog w base sp held n 26 [v]=some x):∃ l:List NdC,(∀ y∈l,PNd y)∧RelU w [.sl none 11 l.length (ndC l)] [v]:=by
 obtain⟨l,h1,h2,h3⟩:=sl_tr (f:=NdC.cs) (Pa:=PNd) (size:=11) (by omega) Tryz.underlying26 (by kernel_rfl) NdC.cs_len (fun n cs' y h=>nd_tr h) h
 exact⟨l,h1,relU1 h2 h3⟩
def agC (a:List UInt8×List NdC×(Int×Int)):List PV:=[.str a.1,.sl none 11 a.2.1.length (ndC a.2.1),.int .i64 a.2.2.1,.int .i64 a.2.2.2]
theorem Ag_tr {fuel:Nat}{cs:List Value}{x:DataW H×List MemPlace}(h:DataW.trod enc Tryz.prog w base sp held fuel 236 cs=some x):∃ x:List UInt8×List NdC×(Int×Int),True∧RelU w (agC x) cs:=by
 obtain⟨xs,k,_,_,hl,hxl,hf⟩:=DataW.trod_struct Tryz.underlying236 h
 rw[show Tryz.prog.cellsOf 236=4 by kernel_rfl] at hl
 match cs,hl with
 |[v0,v1,v2,v3],_ =>
  match xs,hxl with
  |[y0,y1,y2],_ =>
   have g0:DataW.trod enc Tryz.prog w base sp held k 9 [v0]=some y0:=hf 0 _ rfl
   obtain⟨a0,r0⟩:=str_tr (by kernel_rfl) g0
   have g1:DataW.trod enc Tryz.prog w base sp held k 26 [v1]=some y1:=hf 1 _ rfl
   obtain⟨a1,_,r1⟩:=nds_tr g1
   have g2:DataW.trod enc Tryz.prog w base sp held k 66 [v2,v3]=some y2:=hf 2 _ rfl
   obtain⟨a2,_,r2⟩:=Typ_tr g2
   exact⟨(a0,a1,a2),trivial,(r0.append (r1.append r2))⟩
def byC (a:NdC×Bool):List PV:=a.1.cs++[.bool a.2]
theorem By_tr {fuel:Nat}{cs:List Value}{x:DataW H×List MemPlace}(h:DataW.trod enc Tryz.prog w base sp held fuel 238 cs=some x):∃ x:NdC×Bool,True∧RelU w (byC x) cs:=by
 obtain⟨xs,k,_,_,hl,hxl,hf⟩:=DataW.trod_struct Tryz.underlying238 h
 rw[show Tryz.prog.cellsOf 238=12 by kernel_rfl] at hl
 match cs,hl with
 |[v0,v1,v2,v3,v4,v5,v6,v7,v8,v9,v10,v11],_ =>
  match xs,hxl with
  |[y0,y1],_ =>
   have g0:DataW.trod enc Tryz.prog w base sp held k 73 [v0,v1,v2,v3,v4,v5,v6,v7,v8,v9,v10]=some y0:=hf 0 _ rfl
   obtain⟨a0,_,r0⟩:=nd_tr g0
   have g1:DataW.trod enc Tryz.prog w base sp held k 4 [v11]=some y1:=hf 1 _ rfl
   obtain⟨a1,r1⟩:=bool_tr (by kernel_rfl) g1
   exact⟨(a0,a1),trivial,r0.append r1⟩
structure Qy where
 js:List Int
 on:List NdC
 wh:List NdC
 q:QR
def qyC (x:Qy):List PV:=qC (.sl none 1 x.js.length (colC x.js)) (.sl none 11 x.on.length (ndC x.on)) (.sl none 11 x.wh.length (ndC x.wh)) x.q
def PQy (x:Qy):Prop:=(∀ y∈x.on,PNd y)∧∀ y∈x.wh,PNd y
theorem Qy_tr {fuel:Nat}{cs:List Value}{x:DataW H×List MemPlace}(h:DataW.trod enc Tryz.prog w base sp held fuel 31 cs=some x):∃ x:Qy,PQy x∧RelU w (qyC x) cs:=by
 obtain⟨xs,k,_,_,hl,hxl,hf⟩:=DataW.trod_struct Tryz.underlying31 h
 rw[show Tryz.prog.cellsOf 31=10 by kernel_rfl] at hl
 match cs,hl with
 |[v0,v1,v2,v3,v4,v5,v6,v7,v8,v9],_ =>
  match xs,hxl with
  |[y0,y1,y2,y3,y4,y5,y6,y7,y8,y9],_ =>
   have g0:DataW.trod enc Tryz.prog w base sp held k 25 [v0]=some y0:=hf 0 _ rfl
   obtain⟨a0,_,u0,r0'⟩:=ints_tr Tryz.underlying25 Tryz.underlying3 (by kernel_rfl) g0
   have r0:=relU1 u0 r0'
   have g1:DataW.trod enc Tryz.prog w base sp held k 26 [v1]=some y1:=hf 1 _ rfl
   obtain⟨a1,p1,r1⟩:=nds_tr g1
   have g2:DataW.trod enc Tryz.prog w base sp held k 26 [v2]=some y2:=hf 2 _ rfl
   obtain⟨a2,p2,r2⟩:=nds_tr g2
   have g3:DataW.trod enc Tryz.prog w base sp held k 4 [v3]=some y3:=hf 3 _ rfl
   obtain⟨a3,r3⟩:=bool_tr (by kernel_rfl) g3
   have g4:DataW.trod enc Tryz.prog w base sp held k 26 [v4]=some y4:=hf 4 _ rfl
   obtain⟨a4,p4,r4⟩:=nds_tr g4
   have g5:DataW.trod enc Tryz.prog w base sp held k 27 [v5]=some y5:=hf 5 _ rfl
   obtain⟨a5,_,u5,r5'⟩:=sl_tr (f:=agC) (Pa:=fun _=>True) (size:=4) (by omega) Tryz.underlying27 (by kernel_rfl) (fun _=>rfl) (fun n cs' y h=>Ag_tr h) g5
   have r5:=relU1 u5 r5'
   have g6:DataW.trod enc Tryz.prog w base sp held k 26 [v6]=some y6:=hf 6 _ rfl
   obtain⟨a6,p6,r6⟩:=nds_tr g6
   have g7:DataW.trod enc Tryz.prog w base sp held k 28 [v7]=some y7:=hf 7 _ rfl
   obtain⟨a7,_,u7,r7'⟩:=sl_tr (f:=stC) (Pa:=fun _=>True) (size:=1) (by omega) Tryz.underlying28 (by kernel_rfl) (fun _=>rfl) (fun n cs' y h=>by
    match cs',DataW.trod_string Tryz.underlying9 h with
    |_,⟨s,e,_,_⟩ =>
     subst e
     exact⟨s.data.toList,trivial,relU1 rfl (SC.argS fun M=>by simp only[RelD])⟩) g7
   have r7:=relU1 u7 r7'
   have g8:DataW.trod enc Tryz.prog w base sp held k 29 [v8]=some y8:=hf 8 _ rfl
   obtain⟨a8,_,u8,r8'⟩:=sl_tr (f:=byC) (Pa:=fun _=>True) (size:=12) (by omega) Tryz.underlying29 (by kernel_rfl) (fun x=>by unfold byC;rw[List.length_append,NdC.cs_len];rfl) (fun n cs' y h=>By_tr h) g8
   have r8:=relU1 u8 r8'
   have g9:DataW.trod enc Tryz.prog w base sp held k 3 [v9]=some y9:=hf 9 _ rfl
   obtain⟨a9,p9,r9⟩:=int_tr (by kernel_rfl) g9
   exact⟨⟨a0,a1,a2,⟨a3,none,a4.length,ndC a4,none,a5.length,a5.flatMap agC,none,a6.length,ndC a6,none,a7.length,a7.flatMap stC,none,a8.length,a8.flatMap byC,a9⟩⟩,⟨p1,p2⟩,(r0.append (r1.append (r2.append (r3.append (r4.append (r5.append (r6.append (r7.append (r8.append r9)))))))))⟩
end
end Go.Proofs.YtegmldndflfohaaGreatDoor
end
