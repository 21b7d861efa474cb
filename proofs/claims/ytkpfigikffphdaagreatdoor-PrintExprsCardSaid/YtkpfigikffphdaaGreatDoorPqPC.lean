/-
  Lemmas, part P3: what the claim needs of the texts of wip/tpl.
-/
import Derived.OrdersIn
import Derived.TacticsIn
import Derived.Test.YtkpfigikffphdaaGreatDoorPqPB
set_option linter.unusedVariables false
set_option linter.unusedSimpArgs false
open Array renaming mem_toList_iff→Dh,ext'→Eh
open Bool renaming and_eq_true→Ae,false_eq_true→Bp,or_eq_true→Cc,not_eq_true'→Er
open List renaming getElem?_eq_getElem→Ag,getElem?_eq_some_iff→Aj,mem_cons_self→An,mem_cons_of_mem→Ap,length_drop→Ax,getElem?_set_ne→Ay,getElem?_map→Az,getElem?_append_left→Bd,mem_cons→Be,append_nil→Bf,all_eq_true→Bg,mem_of_getElem?→Bi,length→Bn,getElem?_eq_none→Bs,length_map→By,getElem?_cons_succ→Bz,getElem?_drop→Ca,map_cons→Cb,length_take→Cf,getElem?_of_mem→Cm,lookup_cons→Ct,getElem?_take→De,map_congr_left→Dk,nodup_cons→Dm,any_eq_true→Dp,map_nil→Ei,mem_filterMap→El,ext_getElem?→Ep,mem_singleton→Ey,isEmpty_nil→Ff,set_comm→Fg,getElem?_set→Fo,length_set→Ft
open List.cons renaming injEq→Cl
open Nat renaming le_refl→Ak,lt_of_lt_of_le→As,le_trans→Aw,zero_add→Bm,lt_or_ge→Dx
open Option renaming map_eq_some_iff→Am,map_some→Aq
open Option.some renaming injEq→Ah,inj→Cr
section
namespace Go.Proofs.YtkpfigikffphdaaGreatDoor
open Go.RowKit
theorem E6 {α β:Type}{f:α->Option β}:∀{l:List α} {r:List β},F7 f l=some r->r.length=l.length
 |[],r,h=>by simp only[F7,Ah]at h;subst h;rfl
 |x::l,r,h=>by
  simp only[F7]at h;split at h
  ·split at h
   ·rename_i ys hy;injection h with h;subst h;simp[E6 hy]
   ·cases h
  ·cases h
theorem J8 {α β:Type}{f:α->Option β}:∀{l:List α} {r:List β},F7 f l=some r->∀(j:Nat) (x:α),l[j]? =some x->∃y,r[j]? =some y/\f x=some y
 |[],r,h,j,x,hx=>by simp at hx
 |a::l,r,h,j,x,hx=>by
  simp only[F7]at h;split at h
  ·rename_i y hy;split at h
   ·rename_i ys hys;injection h with h;subst h
    cases j with
    |zero=>simp at hx;subst hx;exact⟨y,rfl,hy⟩
    |succ j =>
     obtain⟨z,h1,h2⟩:=J8 hys j x (by simpa using hx);exact⟨z,by simpa using h1,h2⟩
   ·cases h
  ·cases h
theorem fG {α β:Type}{f:α->Option β}{l:List α}{r:List β}(h:F7 f l=some r)(j:Nat)(y:β)(hy:r[j]? =some y):∃x,l[j]? =some x/\f x=some y:=by
 have hlt:j<l.length:=by rw[<-E6 h];exact(Aj.1 hy).1
 obtain⟨z,h1,h2⟩:=J8 h j l[j] (Ag hlt);rw[hy]at h1;injection h1 with h1;exact⟨_,Ag hlt,by rw[h1];exact h2⟩
theorem O2 {M:C4}{β β':Nat->Option Nat}{f:PV->Option PV}:∀{xs ys:List PV} {vs:List Value},(∀x y v,f x=some y->C1 M β x v->C1 M β' y v)->F7 f xs=some ys->B9 M β xs vs->B9 M β' ys vs
 |[],ys,vs,_,h,hr=>by
  simp only[F7,Ah]at h;subst h;simp only[B9]at hr ⊢;exact hr
 |x::xs,ys,vs,hf,h,hr=>by
  simp only[F7]at h;split at h
  ·rename_i y hy;split at h
   ·rename_i zs hz;injection h with h;subst h;simp only[B9]at hr ⊢;obtain⟨u,us,rfl,h1,h2⟩:=hr;exact⟨u,us,rfl,hf x y u hy h1,O2 hf hz h2⟩
   ·cases h
  ·cases h
theorem V3 {M:C4}{β β':Nat->Option Nat}{σ:Nat->Option Nat}{o:Bool}(hσ:∀id j,σ id=some j->∀b,β id=some b->β' j=some b):∀(n:Nat) (x y:PV) (v:Value),Q2 σ o n x=some y->C1 M β x v->C1 M β' y v
 |0,x,y,v,h,hr=>by
  simp only[Q2]at h;obtain⟨hd,h⟩:=A5 h;injection h with h;subst h;exact C1.of_data (hr.data hd)
 |n+1,x,y,v,h,hr=>by
  have ih:=V3 (M:=M) (β:=β) (β':=β') (o:=o) hσ n
  cases x<;>simp only[Q2]at h
  case ptr id off =>
   split at h
   ·rename_i j hj;injection h with h;subst h;simp only[C1]at hr ⊢;obtain⟨b,h1,h2⟩:=hr;exact⟨b,hσ id j hj b h1,h2⟩
   ·cases h
  case bsl id off sz m =>
   split at h
   ·rename_i j hj;injection h with h;subst h;simp only[C1]at hr ⊢;obtain⟨b,c,h1,h2,h3,h4,h5⟩:=hr;exact⟨b,c,hσ id j hj b h1,h2,h3,h4,h5⟩
   ·cases h
  case clo f caps =>
   split at h
   ·rename_i cs hc;injection h with h;subst h;simp only[C1]at hr ⊢;obtain⟨vs,h1,h2⟩:=hr;exact⟨vs,h1,O2 ih hc h2⟩
   ·cases h
  case agp cells =>
   split at h
   ·rename_i cs hc;injection h with h;subst h;simp only[C1]at hr ⊢;obtain⟨vs,h1,h0,h2⟩:=hr;exact⟨vs,h1,h0,O2 ih hc h2⟩
   ·cases h
  case tupp cells =>
   split at h
   ·rename_i cs hc;injection h with h;subst h;simp only[C1]at hr ⊢;obtain⟨vs,h1,h2⟩:=hr;exact⟨vs,h1,O2 ih hc h2⟩
   ·cases h
  case yld =>
   obtain⟨_,h⟩:=A5 h;injection h with h;subst h;simp only[C1]at hr ⊢;exact hr
  case optr d i off =>
   obtain⟨_,h⟩:=A5 h;injection h with h;subst h;simp only[C1]at hr ⊢;exact hr
  all_goals
   injection h with h;subst h;exact C1.of_data (hr.data rfl)
theorem B3y {σ:Nat->Option Nat}{o:Bool}{zs ys:List PV}(h:F7 (Q2 σ o 4) [.tuple zs]=some ys):ys=[.tuple zs]:=by
 simp only[F7,Q2,Ah]at h;exact h.symm
theorem A7y {M:C4}{β β':Nat->Option Nat}{σ:Nat->Option Nat}{o:Bool}{xs ys:List PV}{arr:List Value}(hσ:∀id j,σ id=some j->∀b,β id=some b->β' j=some b)(h:BsK M β xs arr)(hm:F7 (Q2 σ o 4) xs=some ys):BsK M β' ys arr :=
 h.map hm (fun vs h=>O2 (V3 hσ 4) hm h) (fun zs e=>by subst e;exact B3y hm) (fun zs h=>h)
theorem sS:∀{ids:List Nat} {k id j:Nat},jB ids k id=some j->k<=j/\ids[j-k]? =some id
 |[],k,id,j,h=>by simp[jB]at h
 |i::is,k,id,j,h=>by
  simp only[jB]at h;split at h
  ·rename_i e;injection h with h;subst h
   have e:i=id:=by simpa using e
   subst e;exact⟨Ak _,by simp⟩
  ·obtain⟨h1,h2⟩:=sS h;refine⟨by omega,?_⟩
   have:j-k=(j-(k+1))+1:=by omega
   rw[this];simpa using h2
theorem bF {bx:List (Option (List TV))}{id:Nat}{cs:List PV}(h:cF bx id=some cs):∃ts,bx[id]? =some (some ts)/\cs=ts.map (·.1):=by
 unfold cF at h;split at h
 ·rename_i ts ht;injection h with h;exact⟨ts,ht,h.symm⟩
 ·cases h
theorem Q7:∀(ws:List (Nat×List PV)) (bx:List (Option (List TV))),(E1 ws bx).length=bx.length
 |[],bx=>rfl
 |(i,cs)::ws,bx=>by simp[E1,Q7 ws]
theorem G8:∀(ws:List (Nat×List PV)) (bx:List (Option (List TV))) (i:Nat),(∀p∈ws,p.1≠i)->(E1 ws bx)[i]? =bx[i]?
 |[],bx,i,_=>rfl
 |(k,cs)::ws,bx,i,h=>by
  simp only[E1];rw[G8 ws _ i (fun p hp=>h p (by simp[hp])),Ay (h (k,cs) (by simp))]
theorem bX:∀{ids:List Nat} {bs:List (List PV)} {p:Nat×List PV},p∈cB ids bs->p.1∈ids
 |[],bs,p,h=>by simp[cB]at h
 |i::is,[],p,h=>by simp[cB]at h
 |i::is,b::bs,p,h=>by
  simp only[cB,Be]at h;rcases h with rfl|h
  ·simp
  ·exact Ap _ (bX h)
theorem fQ:∀{ids:List Nat} {bs:List (List PV)} {bx:List (Option (List TV))} {j id:Nat} {cs:List PV},ids.Nodup->ids[j]? =some id->bs[j]? =some cs->id<bx.length->(E1 (cB ids bs) bx)[id]? =some (some (cs.map fun x=>(x,0)))
 |[],bs,bx,j,id,cs,_,h,_,_=>by simp at h
 |i::is,[],bx,j,id,cs,_,_,h,_=>by simp at h
 |i::is,b::bs,bx,0,id,cs,hn,h,h',hl=>by
  simp at h h';subst h;subst h';simp only[cB,E1];have hn:=Dm.1 hn;rw[G8 _ _ _ (fun p hp e=>hn.1 (by rw[<-e];exact bX hp))];simp[hl]
 |i::is,b::bs,bx,j+1,id,cs,hn,h,h',hl=>by
  simp only[cB,E1];exact fQ (Dm.1 hn).2 (by simpa using h) (by simpa using h') (by simpa using hl)
theorem W2:∀{l:List Nat},Z2 l=true->l.Nodup
 |[],_=>List.nodup_nil
 |x::l,h=>by
  simp only[Z2,Ae,Er,List.contains_eq_mem,decide_eq_false_iff_not]at h;exact Dm.2 ⟨h.1,W2 h.2⟩
theorem bL:∀{l:List Nat},l.Nodup->∀{i j x:Nat},l[i]? =some x->l[j]? =some x->i=j
 |[],_,i,j,x,hi,_=>by simp at hi
 |a::l,h,0,0,x,_,_=>rfl
 |a::l,h,0,j+1,x,hi,hj=>by
  simp at hi hj;subst hi;exact((Dm.1 h).1 (Bi hj)).elim
 |a::l,h,i+1,0,x,hi,hj=>by
  simp at hi hj;subst hj;exact((Dm.1 h).1 (Bi hi)).elim
 |a::l,h,i+1,j+1,x,hi,hj=>by
  simp at hi hj;rw[bL (Dm.1 h).2 hi hj]
section
variable {NG:Nat} {X:Cx} {st:St} {a:Act} {M:C4} {β κ:Nat->Option Nat}
theorem bO.moveX {M':C4}{ex:Nat->Prop}(hm:H8 M M' ex){g sz:Nat}{v:Value}(h:bO M g sz v)(hg:¬ex g):bO M' g sz v:=by
 obtain⟨n,cap,cur,e,h1,h2,h3,h4,h5,h6⟩:=h.ex;obtain⟨k1,k2⟩:=hm.block g (N6 h2) hg;exact⟨n,cap,cur,e,h1,k1.trans h2,h3,h4,h5,k2.trans h6⟩
theorem N1.moveX {M':C4}{ex:Nat->Prop}(hm:H8 M M' ex){x:PV}{c:Nat}{v:Value}(h:N1 M κ x c v)(hg:∀g,κ c=some g->¬ex g):N1 M' κ x c v:=by
 rcases h with h|⟨nl,sz,n,cells,hx,h⟩
 ·exact .inl h
 ·refine .inr ⟨nl,sz,n,cells,hx,?_⟩;rcases h with h|⟨hc,g,hk,ho⟩
  ·exact .inl h
  ·exact .inr ⟨hc,g,hk,ho.moveX hm (hg g hk)⟩
theorem Y8.moveX {M':C4}{ex:Nat->Prop}(hm:H8 M M' ex){β':Nat->Option Nat}(hb:∀id b,β id=some b->β' id=some b){cs:List TV}{arr:List Value}(h:Y8 M β κ cs arr)(hg:∀c g,κ c=some g->¬ex g):Y8 M' β' κ cs arr :=
 h.imp (fun h=>⟨h.1,fun j x hx=>let⟨u,h1,h2,h3,h4⟩:=h.2 j x hx;⟨u,h1,h2,h3.mono hm.le hb,h4.moveX hm (hg _)⟩⟩) fun⟨xs,e,h⟩=>⟨xs,e,D7.mono hm.le _ _ h⟩
def dI (β:Nat->Option Nat)(id:Nat)(j:Nat):Option Nat:=if j=id then none else β j
theorem U6 {id j b:Nat}(h:dI β id j=some b):j≠id/\β j=some b:=by
 unfold dI at h;split at h
 ·cases h
 ·rename_i e;exact⟨e,h⟩
theorem A73 {id:Nat}{x:PV}{v:Value}(h:C1 M β x v):C1 M (dI β id) (C2f id x) v:=by
 unfold C2f;rcases hr:Q2 (fun j=>if j=id then none else some j) true 4 x with _|y
 ·exact C1.undef
 ·refine V3 (fun j k hk b hb=>?_) 4 x y v hr h;have hk:(if j=id then none else some j)=some k:=hk;split at hk
  ·cases hk
  ·rename_i e;injection hk with hk;subst hk;unfold dI;rw[if_neg e];exact hb
theorem A6k {id:Nat}{x:TV}{v:Value}(h:N1 M κ x.1 x.2 v):N1 M κ (uI id x).1 (uI id x).2 v:=by
 rcases h with h|⟨nl,sz,n,cells,hx,h⟩
 ·exact .inl h
 ·refine .inr ⟨nl,sz,n,cells,?_,h⟩;show C2f id x.1=_;rw[hx];rfl
theorem Y8.kill (id:Nat){cs:List TV}{arr:List Value}(h:Y8 M β κ cs arr):Y8 M (dI β id) κ (cs.map (uI id)) arr:=by
 rcases h with h|⟨xs,rfl,h⟩
 ·refine .inl ⟨by rw[By];exact h.1,fun j x hx=>?_⟩;rw[Az]at hx;obtain⟨y,hy,rfl⟩:=Am.1 hx;obtain⟨u,h1,h2,h3,h4⟩:=h.2 j y hy;exact⟨u,h1,h2,A73 h3,A6k h4⟩
 ·exact .inr ⟨xs,rfl,h⟩
theorem C1o {id j:Nat}:(st.kill id).bx[j]? =if j=id then(if id<st.bx.length then some none else none)else(st.bx[j]?).map (Option.map (List.map (uI id))):=by
 simp only[St.kill]
 by_cases e:j=id
 ·subst e;rw[if_pos rfl,List.getElem?_set_self']
  by_cases hlt:j<st.bx.length
  ·rw[if_pos hlt,Az,Ag hlt];rfl
  ·rw[if_neg hlt,Az,Bs (by omega)];rfl
 ·rw[if_neg e,Ay (Ne.symm e),Az]
theorem InvB.kill (h:InvB NG X st a M β κ)(id:Nat):InvB NG X (st.kill id) a M (dI β id) κ where
 mv:=h.mv
 ng:=h.ng
 fpng:=h.fpng
 len:=by simp only[St.kill,By];exact h.len
 slot:=fun t x hx=>by
  simp only[St.kill,Az]at hx;obtain⟨y,hy,rfl⟩:=Am.1 hx;obtain⟨v,h1,h2,h3⟩:=h.slot t y hy;exact⟨v,h1,A73 h2,A6k h3⟩
 box:=fun j b hb=>by
  obtain⟨hj,hb⟩:=U6 hb;obtain⟨cs,arr,e,h1,h2,h3,h4,h5⟩:=h.box j b hb;exact⟨cs.map (uI id),arr,e,by rw[C1o,if_neg hj,h1];rfl,h2,h3.kill id,h4,h5⟩
 alive:=fun j cs hc=>by
  rw[C1o]at hc;split at hc
  ·split at hc<;>cases hc
  ·rename_i hj;obtain⟨o1,h1,h2⟩:=Am.1 hc;obtain⟨ts,h3,_⟩:=Am.1 h2;rw[h3]at h1;obtain⟨b,hb⟩:=h.alive j ts h1;exact⟨b,by unfold dI;rw[if_neg hj];exact hb⟩
 binj:=fun i j b h1 h2=>h.binj i j b (U6 h1).2 (U6 h2).2
 kinj:=h.kinj
 kbox:=fun c g i b h1 h2=>h.kbox c g i b h1 (U6 h2).2
 klow:=h.klow
 khigh:=h.khigh
theorem InvB.reslot (h:InvB NG X st a M β κ){t:Nat}{x:TV}{v:Value}(hv:a.tmps[t]? =some v)(hx:C1 M β x.1 v)(ht:N1 M κ x.1 x.2 v):InvB NG X ⟨st.ρ.set t x,st.bx,st.out⟩ a M β κ where
 mv:=h.mv
 ng:=h.ng
 fpng:=h.fpng
 len:=by simp only[Ft];exact h.len
 slot:=fun u y hy=>by
  simp only at hy
  by_cases e:t=u
  ·subst e;rw[Fo]at hy;simp only[if_true]at hy;split at hy
   ·injection hy with hy;subst hy;exact⟨v,hv,hx,ht⟩
   ·cases hy
  ·rw[Ay e]at hy;exact h.slot u y hy
 box:=h.box
 alive:=h.alive
 binj:=h.binj
 kinj:=h.kinj
 kbox:=h.kbox
 klow:=h.klow
 khigh:=h.khigh
theorem mW {bx:List (Option (List TV))}{id:Nat}{xs:List PV}(h:sF bx id=some xs):∃cs,bx[id]? =some (some cs)/\oG cs=some xs:=by
 unfold sF at h;split at h
 ·rename_i cs hc;exact⟨cs,hc,h⟩
 ·cases h
theorem I0.frz (hI:I0 NG X st a M β κ){t id off sz m:Nat}{xs:List PV}{c:Nat}(hs:st.ρ[t]? =some (.bsl id off sz m,c))(ha:sF st.bx id=some xs)(hid:id<st.ρ.length)(hle:off+m * sz<=xs.length) :
  ∃M' β',M'.w=M.w/\I0 NG X (C23 t id off sz m xs st) a M' β' κ:=by
 obtain⟨cs,hbx,hab⟩:=mW ha;obtain⟨v,hv,hr,_⟩:=hI.slot t _ hs;simp only[C1]at hr;obtain⟨b,cap,hb,rfl,hmc,hcm,_⟩:=hr;obtain⟨cs1,arr,e,k1,⟨tl,k2⟩,k3,k4,k5⟩:=hI.box id b hb;rw[hbx]at k1;injection k1 with k1;injection k1 with k1;subst k1;have hrl:=k3.arr hab
 have hlow0:X.M0.w.heap.size<=b:=by
  rcases hI.out.lent id b hb with⟨j,_,e2,_⟩|⟨h1,_⟩
  ·omega
  ·exact h1
 have hκ:∀c,κ c≠some b:=fun c hk=>hI.kbox c b id b hk hb rfl
 let M':C4:=⟨M.w,fun b'=>if b'=b then arr.length else M.U b',M.y⟩
 have hm:L4 M M' (some b) :=
  {os:=rfl,tape:=rfl,output:=rfl,size:=Ak _
   block:=fun b' _ hne=>⟨rfl,by simp only[M'];rw[if_neg (fun e=>hne (by rw[e]))]⟩
   le:=⟨fun b' o u h1 h2=>by
    refine⟨h1,?_⟩
    by_cases e1:b'=b
    ·subst e1;rw[k4]at h2;omega
    ·simp only[M'];rw[if_neg e1];exact h2,rfl,fun _ _ h=>h⟩}
 have hβ1:∀j,dI β id j≠some b:=fun j hj=>(U6 hj).1 (hI.binj j id b (U6 hj).2 hb);have h1:=(hI.toInvB.kill id).move hm (.inl hlow0) hκ hβ1;have hrl':D7 M' xs arr:=D7.mono hm.le _ _ hrl
 have hd:B7 M' (.sl (some false) sz m ((xs.drop off).take (m * sz))) (.slice (some ⟨b,off,none⟩) m cap):=by
  simp only[B7];refine⟨_,cap,(arr.drop off).take (m * sz),rfl,hmc,hcm,(fun b hb=>(by cases hb;rfl)),(fun h=>(by cases h)),(by rw[Cf,Ax];omega),(hrl'.drop off).take _,Or.inr ⟨b,off,rfl,fun j u hu=>?_⟩⟩;rw[De]at hu;split at hu
  ·rw[Ca]at hu;have hlt:=(Aj.1 hu).1;refine⟨?_,by simp only[M',if_true];exact hlt⟩;show M.w.cell? _=_;rw[cell_of_row _ _ _ (arr++tl).toArray e (0,0) k2,List.getElem?_toArray,Bd hlt];exact hu
  ·cases hu
 have h2:=h1.reslot (t:=t) (x:=(.sl (some false) sz m ((xs.drop off).take (m * sz)),0)) hv (C1.of_data hd) (.inl rfl);exact⟨M',dI β id,rfl,h2,hI.out.next2 (by simp[C23,St.kill]) (by simp[C23,St.kill]) rfl hI.size hm.x (fun b' e=>by injection e with e;subst e;exact .inl ⟨id,hb⟩) (fun j c hj=>.inl (U6 hj).2) (fun c g hg=>.inr (.inl ⟨c,hg⟩))⟩
theorem I0.newB (hI:I0 NG X st a M β κ){M':C4}(hm:L4 M M' none){d b c n sz:Nat}{e:TypeId}{arr:List Value}{cells:List PV}(hb:M.w.heap.size<=b)(hrow:eT M'.w b e arr)(hr:D7 M' cells arr)(hU:M'.U b=0)(hnc:n<=c)(hcm:c<=maxLen)(hs:A1y M'.w b (c * sz))
  {st':St} (hst:B0 (.hcall [] (some [.tuple cells]) [] (.bsl d 0 sz n) none) (some d) st=some st'):∃β',I0 NG X st' (a.put (some d) (.slice (some ⟨b,0,none⟩) n c)) M' β' κ:=by
 simp only[B0,E1,Ei,Bf,Option.getD_none,Cb]at hst;split at hst
 ·rename_i hbx;obtain⟨hdl,hst⟩:=A5 hst;injection hst with hst;subst hst;have h1:=hI.toInvB.grow hm
  have h2:=h1.addBox0 (d:=d) (cs:=[(.tuple cells,0)]) hrow hU (.inl (Aw hI.size hb)) (fun c hc=>by have:=hI.khigh c _ hc;omega) (fun id hi=>by
   obtain⟨_,_,_,_,k2,_⟩:=hI.box id b hi
   have:=k2.lt;omega) hbx (.inr ⟨cells,rfl,hr⟩)
  have ho:rY X ⟨st.ρ,st.bx.set d (some [(.tuple cells,0)]),st.out⟩ a.defers M' (fun id=>if id=d then some b else β id) κ:=hI.out.next rfl (by simp) rfl hI.size hm.x (fun b e=>by cases e) (fun id b' hb'=>by
   by_cases e1:id=d
   ·rw[if_pos e1]at hb';injection hb' with hb';subst hb';exact .inr ⟨hb,fun j _ e2=>by subst e1;have hlt:@LT.lt Nat _ id st.ρ.length:=hdl;omega⟩
   ·rw[if_neg e1]at hb';exact .inl hb') (fun c g hg=>.inr (.inl ⟨c,hg⟩))
  exact⟨_,(⟨h2,ho⟩:I0 NG X _ a M' _ κ).put (some d) (x:=(.bsl d 0 sz n,0)) (by simp only[C1];exact⟨b,c,by simp,rfl,hnc,hcm,by rw[Bm];exact hs⟩) (.inl rfl)⟩
 ·cases hst
theorem I0.consB (hI:I0 NG X st a M β κ){w':World}{U':Nat->Nat}{id d b b' c n sz:Nat}{e:TypeId}{arr:List Value}{cells:List PV}(hb0:β id=some b)(hid:id<st.ρ.length)(hm:L4 M ⟨w',U',M.y⟩ (some b))(hb:b'=b\/M.w.heap.size<=b')(hrow:eT w' b' e arr)(hr:D7 ⟨w',U',M.y⟩ cells arr)(hU:U' b'=0)(hnc:n<=c)(hcm:c<=maxLen)(hle:n * sz<=cells.length)
  {st':St} (hst:B0 (.cons id [] (.sl (some false) sz n (cells.take (n * sz)))) (some d) st=some st'):∃β',I0 NG X st' (a.put (some d) (.slice (some ⟨b',0,none⟩) n c)) ⟨w',fun k=>if k=b' then arr.length else U' k,M.y⟩ β' κ:=by
 simp only[B0]at hst;injection hst with hst;subst hst;obtain⟨cs1,arr1,e1,k1,k2,k3,k4,k5⟩:=hI.box id b hb0
 have hlow0:X.M0.w.heap.size<=b:=by
  rcases hI.out.lent id b hb0 with⟨j,_,e2,_⟩|⟨h1,_⟩
  ·omega
  ·exact h1
 have hκ:∀c,κ c≠some b:=fun c hk=>hI.kbox c b id b hk hb0 rfl;have hβ1:∀j,dI β id j≠some b:=fun j hj=>(U6 hj).1 (hI.binj j id b (U6 hj).2 hb0)
 have hmle:C4.le ⟨w',U',M.y⟩ ⟨w',fun k=>if k=b' then arr.length else U' k,M.y⟩:=⟨fun k o u h1 h2=>by
  refine⟨h1,?_⟩
  by_cases e1:k=b'
  ·subst e1;change o<U' k at h2;rw[hU]at h2;omega
  ·show o<if k=b' then _ else _
   rw[if_neg e1];exact h2,rfl,fun _ _ h=>h⟩
 have hm2:L4 M ⟨w',fun k=>if k=b' then arr.length else U' k,M.y⟩ (some b) :=
  {os:=hm.os,tape:=hm.tape,output:=hm.output,size:=hm.size
   block:=fun k hk hne=>⟨(hm.block k hk hne).1,by
    have hkb:k≠b':=by
     rcases hb with rfl|hb
     ·exact fun e=>hne (by rw[e])
     ·omega
    show(if k=b' then _ else _)=_;rw[if_neg hkb]
    exact(hm.block k hk hne).2⟩
   le:=C4.le_trans hm.le hmle}
 have h1:=(hI.toInvB.kill id).move hm2 (.inl hlow0) hκ hβ1;have hrl':D7 ⟨w',fun k=>if k=b' then arr.length else U' k,M.y⟩ cells arr:=D7.mono hmle _ _ hr
 have hd:B7 ⟨w',fun k=>if k=b' then arr.length else U' k,M.y⟩ (.sl (some false) sz n (cells.take (n * sz))) (.slice (some ⟨b',0,none⟩) n c):=by
  obtain⟨tl,hrow⟩:=hrow;simp only[B7];refine⟨_,c,arr.take (n * sz),rfl,hnc,hcm,(fun b hb=>(by cases hb;rfl)),(fun h=>(by cases h)),(by rw[Cf];omega),hrl'.take _,Or.inr ⟨b',0,rfl,fun j u hu=>?_⟩⟩;rw[De]at hu;split at hu
  ·have hlt:=(Aj.1 hu).1;refine⟨?_,by simp only[Bm,if_true];exact hlt⟩;show w'.cell? _=_;rw[cell_of_row _ _ _ (arr++tl).toArray e (0,0) hrow,List.getElem?_toArray,Bm,Bd hlt];exact hu
  ·cases hu
 have ho:rY X (st.kill id) a.defers ⟨w',fun k=>if k=b' then arr.length else U' k,M.y⟩ (dI β id) κ:=hI.out.next2 (by simp[St.kill]) (by simp[St.kill]) rfl hI.size hm2.x (fun b1 e=>by injection e with e;subst e;exact .inl ⟨id,hb0⟩) (fun j c hj=>.inl (U6 hj).2) (fun c g hg=>.inr (.inl ⟨c,hg⟩));exact⟨_,(⟨h1,ho⟩:I0 NG X _ a _ _ κ).put (some d) (x:=(.sl (some false) sz n (cells.take (n * sz)),0)) (C1.of_data hd) (.inl rfl)⟩
theorem InvB.lend (h:I0 NG X st a M β κ){M':C4}{ex:Nat->Prop}(hm:H8 M M' ex)(hex:∀b,ex b->X.low b/\∀c,κ c≠some b){β':Nat->Option Nat}(hmono:∀id b,β id=some b->β' id=some b)
  {bx':List (Option (List TV))} {o':kC}
  (mX:∀id b,β' id=some b->(β id=some b/\¬ex b/\bx'[id]? =st.bx[id]?)\/(∃cs arr e,bx'[id]? =some (some (cs.map fun x=>(x,0)))/\eT M'.w b e arr/\BsK M' β' cs arr/\M'.U b=0/\(β id=some b\/(M.w.heap.size<=b/\∀j,j<X.np->id≠st.ρ.length+j))))
  (halive:∀id cs,bx'[id]? =some (some cs)->∃b,β' id=some b) (hinj:∀i j b,β' i=some b->β' j=some b->i=j):InvB NG X ⟨st.ρ,bx',o'⟩ a M' β' κ:=by
 have hnew:∀id b,β' id=some b->β id=some b\/(M.w.heap.size<=b/\∀j,j<X.np->id≠st.ρ.length+j):=fun id b hb=>by
  rcases mX id b hb with⟨h1,_⟩|⟨_,_,_,_,_,_,_,h1⟩
  ·exact .inl h1
  ·exact h1
 have hκex:∀c g,κ c=some g->¬ex g:=fun c g hg he=>(hex g he).2 c hg;exact
  {mv :=h.mv.trans hm (fun b hb he=>by
    rcases(hex b he).1 with hl|hl
    ·omega
    ·exact hl)
   ng:=h.ng
   fpng:=h.fpng
   len:=h.len
   slot:=fun t x hx=>let⟨v,h1,h2,h3⟩:=h.slot t x hx;⟨v,h1,h2.mono hm.le hmono,h3.moveX hm (hκex _)⟩
   box :=by
    intro id b hb;rcases mX id b hb with⟨h1,h2,h3⟩|⟨cs,arr,e,h1,h2,h3,h5,h6⟩
    ·obtain⟨cs,arr,e,k1,k2,k3,k4,k5⟩:=h.box id b h1;obtain⟨m1,m2⟩:=hm.block b k2.lt h2;exact⟨cs,arr,e,h3.trans k1,k2.of_eq m1,k3.moveX hm hmono hκex,m2.trans k4,k5⟩
    ·refine⟨_,arr,e,h1,h2,Y8.of_bs h3,h5,?_⟩;rcases h6 with h6|h6
     ·obtain⟨_,_,_,_,_,_,_,hl⟩:=h.box id b h6;exact hl
     ·exact .inl (Aw h.size h6.1)
   alive:=halive
   binj:=hinj
   kinj:=h.kinj
   kbox:=by
    intro c g id b h1 h2;rcases hnew id b h2 with h3|h3
    ·exact h.kbox c g id b h1 h3
    ·have:=h.khigh c g h1;have:=h3.1;omega
   klow:=h.klow
   khigh:=fun c g hk=>As (h.khigh c g hk) hm.size}
theorem I0.lend (h:I0 NG X st a M β κ){M':C4}{ex:Nat->Prop}(hm:H8 M M' ex)(hex:∀b,ex b->∃id,β id=some b){β':Nat->Option Nat}(hmono:∀id b,β id=some b->β' id=some b)
  {bx':List (Option (List TV))}
  (mX:∀id b,β' id=some b->(β id=some b/\¬ex b/\bx'[id]? =st.bx[id]?)\/(∃cs arr e,bx'[id]? =some (some (cs.map fun x=>(x,0)))/\eT M'.w b e arr/\BsK M' β' cs arr/\M'.U b=0/\(β id=some b\/(M.w.heap.size<=b/\∀j,j<X.np->id≠st.ρ.length+j))))
  (hlen:st.bx.length<=bx'.length)
  (halive:∀id cs,bx'[id]? =some (some cs)->∃b,β' id=some b) (hinj:∀i j b,β' i=some b->β' j=some b->i=j):I0 NG X ⟨st.ρ,bx',st.out⟩ a M' β' κ:=by
 have hnew:∀id b,β' id=some b->β id=some b\/(M.w.heap.size<=b/\∀j,j<X.np->id≠st.ρ.length+j):=fun id b hb=>by
  rcases mX id b hb with⟨h1,_⟩|⟨_,_,_,_,_,_,_,h1⟩
  ·exact .inl h1
  ·exact h1
 refine⟨InvB.lend h hm (fun b hb=>?_) hmono mX halive hinj,h.out.next rfl hlen rfl h.size hm (fun b hb=>.inl (hex b hb)) hnew (fun c g hg=>.inr (.inl ⟨c,hg⟩))⟩;obtain⟨id,hid⟩:=hex b hb;obtain⟨_,_,_,_,_,_,_,hl⟩:=h.box id b hid;exact⟨hl,fun c hc=>h.kbox c b id b hc hid rfl⟩
def G0 (β:Nat->Option Nat)(ids:List Nat)(j:Nat):Option Nat:=(ids[j]?).bind β
theorem D2 {ids:List Nat}{j b:Nat}(h:G0 β ids j=some b):∃id,ids[j]? =some id/\β id=some b:=A6 h
theorem fH {ids:List Nat}:∀id j,jB ids 0 id=some j->∀b,β id=some b->G0 β ids j=some b:=by
 intro id j hj b hb;obtain⟨_,h⟩:=sS hj;simp only[Nat.sub_zero]at h;simp[G0,h,hb]
theorem A16 (h:I0 NG X st a M β κ){ids:List Nat}(hd:ids.Nodup){bs0 bs:List (List PV)}(h0:F7 (cF st.bx) ids=some bs0)(h1:F7 (F7 (Q2 (jB ids 0) false 4)) bs0=some bs):kJ M (G0 β ids) NG bs where
 box:=by
  intro j cs hj;obtain⟨cs0,hj0,hc⟩:=fG h1 j cs hj;obtain⟨id,hid,hc0⟩:=fG h0 j cs0 hj0;obtain⟨ts,ht,rfl⟩:=bF hc0;obtain⟨b,hb⟩:=h.alive id ts ht;obtain⟨ts',arr,e,k1,k2,k3,k4,k5⟩:=h.box id b hb;rw[ht]at k1;injection k1 with k1;injection k1 with k1;subst k1;exact⟨b,arr,e,by simp[G0,hid,hb],k2,k4,h.lowng k5,A7y fH k3.bs hc⟩
 lt:=by
  intro j b hb;obtain⟨id,hid,_⟩:=D2 hb;rw[E6 h1,E6 h0];exact(Aj.1 hid).1
 inj:=by
  intro i j b hi hj;obtain⟨id,h2,h3⟩:=D2 hi;obtain⟨id',h4,h5⟩:=D2 hj;have:=h.binj id id' b h3 h5;subst this;exact bL hd h2 h4
def qP (β βc:Nat->Option Nat)(k:Nat)(d n m:Nat)(i:Nat):Option Nat :=
 match β i with
 |some b=>some b
 |none=>if i=d then βc k else if n<=i/\i<n+m then βc (k+1+(i-n))else none
theorem X9 {βc:Nat->Option Nat}{k d n m i b:Nat}(h:β i=some b):qP β βc k d n m i=some b:=by simp[qP,h]
theorem iR {βc:Nat->Option Nat}{ids:List Nat}{d n m i b:Nat}(hdn:d<n)(h0:β i=none)(h:qP β βc ids.length d n m i=some b):∃p,ids.length<=p/\βc p=some b/\iB ids d n p=some i/\((i=d/\p=ids.length)\/(n<=i/\i<n+m/\p=ids.length+1+(i-n))):=by
 simp only[qP,h0]at h
 by_cases e:i=d
 ·rw[if_pos e]at h;refine⟨ids.length,Ak _,h,?_,.inl ⟨e,rfl⟩⟩;simp[iB,e]
 ·rw[if_neg e]at h;obtain⟨h1,h⟩:=A5 h;refine⟨ids.length+1+(i-n),by omega,h,?_,.inr ⟨h1.1,h1.2,rfl⟩⟩;have:ids[ids.length+1+(i-n)]? =none:=Bs (by omega);simp only[iB,this];rw[if_neg (by omega)];congr 1;omega
theorem I0.hback (hI:I0 NG X st a M β κ){ids:List Nat}(hd:ids.Nodup)(hal:∀id∈ids,∃cs,st.bx[id]? =some (some cs)){M':C4}{βc:Nat->Option Nat}(hm:H8 M M' (fun b=>∃j,G0 β ids j=some b)){bs':List (List PV)}(hB:kJ M' βc NG bs')(hlen:ids.length<=bs'.length)
  (hsame:∀j b,G0 β ids j=some b->βc j=some b) (hnew:∀j b,βc j=some b->G0 β ids j=some b\/M.w.heap.size<=b) {r:PV} {v:Value} (hr:C1 M' βc r v) {dst:Option Tmp} {act:C7} (h:kR st.bx ids dst bs' r some=some act) {st':St} (hst:B0 act dst st=some st') :
  ∃β',I0 NG X st' (a.put dst v) M' β' κ:=by
 have halβ:∀j id,ids[j]? =some id->∃b,β id=some b/\G0 β ids j=some b:=fun j id hj=>by
  obtain⟨cs,hc⟩:=hal id (Bi hj);obtain⟨b,hb⟩:=hI.alive id cs hc;exact⟨b,hb,by simp[G0,hj,hb]⟩
 have hex:∀b,(∃j,G0 β ids j=some b)->∃id,β id=some b:=fun b ⟨j,hj⟩=>let⟨id,_,h⟩:=D2 hj;⟨id,h⟩
 have hlenN:∀j b,βc j=some b->ids[j]? =none->M.w.heap.size<=b:=fun j b hb hj=>by
  rcases hnew j b hb with h1|h1
  ·obtain⟨id,h2,_⟩:=D2 h1;rw[hj]at h2
   cases h2
  ·exact h1
 have lent:∀(β':Nat->Option Nat) (σ:Nat->Option Nat),(∀j i,σ j=some i->∀b,βc j=some b->β' i=some b)->∀bs2,F7 (F7 (Q2 σ false 4)) bs'=some bs2->∀j cs,bs2[j]? =some cs->∃b arr e,βc j=some b/\eT M'.w b e arr/\M'.U b=0/\BsK M' β' cs arr:=by
  intro β' σ hσ bs2 h2 j cs hj;obtain⟨cs0,h3,h4⟩:=fG h2 j cs hj;obtain⟨b,arr,e,k1,k2,k3,k4,k5⟩:=hB.box j cs0 h3;exact⟨b,arr,e,k1,k2,k3,A7y hσ k5 h4⟩
 have plain:∀(σ:Nat->Option Nat),(∀j i,σ j=some i->∀b,βc j=some b->β i=some b)->∀bs2 r2,F7 (F7 (Q2 σ false 4)) bs'=some bs2->Q2 σ false 4 r=some r2->bs'.length=ids.length->
   I0 NG X (O4 dst (r2,0) {st with bx:=E1 (cB ids bs2) st.bx}) (a.put dst v) M' β κ:=by
  intro σ hσ bs2 r2 h2 h3 hl;refine(I0.lend (bx':=E1 (cB ids bs2) st.bx) hI hm hex (fun _ _ h=>h) ?_ (Nat.le_of_eq (Q7 _ _).symm) ?_ hI.binj).put dst (x:=(r2,0)) (V3 hσ 4 r r2 v h3 hr) (.inl rfl)
  ·intro id b hb
   by_cases hid:id∈ids
   ·right;obtain⟨j,hj⟩:=Cm hid
    have hlt:j<bs2.length:=by rw[E6 h2,hl];exact(Aj.1 hj).1
    obtain⟨b',arr,e,k1,k2,k3,k4⟩:=lent β σ hσ bs2 h2 j bs2[j] (Ag hlt);obtain⟨b'',q1,q2⟩:=halβ j id hj;have e1:=hsame j b'' q2;rw[k1]at e1;injection e1 with e1;rw[hb]at q1;injection q1 with q1
    have e2:b'=b:=by rw[e1,q1]
    subst e2;obtain⟨cs1,hc1⟩:=hal id hid;exact⟨_,arr,e,fQ hd hj (Ag hlt) (Aj.1 hc1).1,k2,k4,k3,.inl hb⟩
   ·left;refine⟨hb,fun⟨j,hj⟩=>?_,G8 _ _ _ (fun p hp e=>hid (by rw[<-e];exact bX hp))⟩;obtain⟨id',q1,q2⟩:=D2 hj;have:=hI.binj id id' b hb q2;subst this;exact hid (Bi q1)
  ·intro id cs hc
   by_cases hid:id∈ids
   ·obtain⟨cs1,hc1⟩:=hal id hid;exact hI.alive id cs1 hc1
   ·rw[G8 _ _ _ (fun p hp e=>hid (by rw[<-e];exact bX hp))]at hc;exact hI.alive id cs hc
 unfold kR at h;split at h
 ·obtain⟨hl,h⟩:=A5 h;split at h
  ·rename_i bs2 r2 h2 h3;injection h with h;subst h;simp only[B0,Ff,if_true,Ah]at hst;subst hst;refine⟨β,plain _ (fun j i hj b hb=>?_) bs2 r2 h2 h3 hl⟩;obtain⟨b',q1,q2⟩:=halβ j i hj;have:=hsame j b' q2;rw[hb]at this;injection this with this;rw[q1,this]
  ·cases h
 ·rename_i d;obtain⟨_,h⟩:=A5 h;split at h
  ·rename_i bs2 r2 h2 h3;split at h
   ·rename_i hdr;injection h with h;subst h;simp only[B0,Ff,if_true,Ah]at hst;subst hst
    have hl:bs'.length=ids.length:=by
     have e1:=congrArg Bn hdr;have e2:=E6 h2;simp at e1;omega
    refine⟨β,plain _ (fun j i hj b hb=>?_) bs2 r2 h2 h3 hl⟩;rcases hid:ids[j]? with _|id
    ·have:=hB.lt j b hb;rw[List.getElem?_eq_none_iff]at hid;omega
    ·simp only[iB,hid,Ah]at hj;subst hj;obtain⟨b',q1,q2⟩:=halβ j id hid;have:=hsame j b' q2;rw[hb]at this;injection this with this;rw[q1,this]
   ·rename_i b0 more hdr;injection h with h;subst h;simp only[B0]at hst;split at hst
    ·rename_i hdn;obtain⟨hdρ,hst⟩:=A5 hst;have hdρ:@LT.lt Nat _ d st.ρ.length:=hdρ;injection hst with hst;subst hst;have hdlt:@LT.lt Nat _ d st.bx.length:=(Aj.1 hdn).1
     have hβd:β d=none:=by
      rcases hb:β d with _|b
      ·rfl
      ·obtain⟨_,_,_,h1,_⟩:=hI.box d b hb;rw[hdn]at h1
       cases h1
     have hβn:∀i,st.bx.length<=i->β i=none:=fun i hi=>by
      rcases hb:β i with _|b
      ·rfl
      ·obtain⟨_,_,_,h1,_⟩:=hI.box i b hb;have:=(Aj.1 h1).1;omega
     have hl2:bs2.length=ids.length+1+more.length:=by
      have e1:=congrArg Bn hdr;simp at e1;have e2:=E6 h2;omega
     have hl':=E6 h2
     have hdni:d ∉ ids:=fun hm=>by
      obtain⟨cs,hc⟩:=hal d hm;rw[hdn]at hc
      cases hc
     have hσ:∀j i,iB ids d st.bx.length j=some i->∀b,βc j=some b->qP β βc ids.length d st.bx.length more.length i=some b:=by
      intro j i hj b hb;rcases hid:ids[j]? with _|id
      ·have hge:ids.length<=j:=List.getElem?_eq_none_iff.1 hid;simp only[iB,hid]at hj
       by_cases e:j=ids.length
       ·rw[if_pos e]at hj;injection hj with hj;subst hj;simp only[qP,hβd,if_true];rw[<-e];exact hb
       ·rw[if_neg e]at hj;injection hj with hj;have hlt:=hB.lt j b hb;have hi:β i=none:=hβn i (by omega)
        have hnd:¬ @Eq Nat i d:=by omega
        have hin:st.bx.length<=i/\i<st.bx.length+more.length:=by omega
        simp only[qP,hi];rw[if_neg hnd,if_pos hin];rw[show ids.length+1+(i-st.bx.length)=j by omega];exact hb
      ·simp only[iB,hid,Ah]at hj;subst hj;obtain⟨b',q1,q2⟩:=halβ j id hid;have:=hsame j b' q2;rw[hb]at this;injection this with this;exact X9 (by rw[q1,this])
     have hgot:∀j,bs2[ids.length+j]? =(b0::more)[j]? :=fun j=>by rw[<-hdr,Ca]
     have hbx:∀i,i<st.bx.length->(E1 ((d,b0)::cB ids bs2) st.bx++more.map fun cs=>some (cs.map fun x=>((x,0):TV)))[i]? =(E1 ((d,b0)::cB ids bs2) st.bx)[i]? :=fun i hi=>Bd (by rw[Q7];exact hi)
     have hbxn:∀i,(E1 ((d,b0)::cB ids bs2) st.bx++more.map fun cs=>some (cs.map fun x=>((x,0):TV)))[st.bx.length+i]? =(more[i]?).map fun cs=>some (cs.map fun x=>((x,0):TV)):=fun i=>by
      rw[List.getElem?_append_right (by rw[Q7];omega),Q7,Az];congr 2;omega
     have hoth:∀i,i≠d->i ∉ ids->(E1 ((d,b0)::cB ids bs2) st.bx)[i]? =st.bx[i]? :=fun i h1 h2=>G8 _ _ _ (fun p hp e=>by
      rcases Be.1 hp with rfl|hp
      ·exact h1 e.symm
      ·exact h2 (by rw[<-e];exact bX hp))
     have hat:(E1 ((d,b0)::cB ids bs2) st.bx)[d]? =some (some (b0.map fun x=>(x,0))):=by
      simp only[E1];rw[G8 _ _ _ (fun p hp e=>hdni (by rw[<-e];exact bX hp))];simp[hdlt]
     refine⟨qP β βc ids.length d st.bx.length more.length,(I0.lend (bx':=E1 ((d,b0)::cB ids bs2) st.bx++more.map fun cs=>some (cs.map fun x=>((x,0):TV))) hI hm hex (fun _ _ h=>X9 h) ?_ (by rw[List.length_append,Q7];omega) ?_ ?_).put (some d) (x:=(r2,0)) (V3 hσ 4 r r2 v h3 hr) (.inl rfl)⟩
     ·intro id b hb;rcases hi:β id with _|b1
      ·right;obtain⟨p,hp1,hp2,hp3,hp4⟩:=iR hdlt hi hb;have hpn:M.w.heap.size<=b:=hlenN p b hp2 (Bs hp1)
       have hplt:p<bs2.length:=by rw[hl'];exact hB.lt p b hp2
       obtain⟨b',arr,e,k1,k2,k3,k4⟩:=lent _ _ hσ bs2 h2 p bs2[p] (Ag hplt);rw[hp2]at k1;injection k1 with k1;subst k1;refine⟨bs2[p],arr,e,?_,k2,k4,k3,.inr ⟨hpn,fun j hj e1=>?_⟩⟩
       case refine_2 =>
        have hroom:=hI.out.room (by omega);rcases hp4 with⟨rfl,_⟩|⟨q1,_,_⟩<;>omega
       rcases hp4 with⟨rfl,rfl⟩|⟨q1,q2,q3⟩
       ·rw[hbx _ hdlt,hat];have:=hgot 0;simp only[Nat.add_zero,List.getElem?_cons_zero]at this;rw[Ag hplt]at this;injection this with this;rw[this]
       ·have e0:id=st.bx.length+(id-st.bx.length):=by omega
        rw[e0,hbxn];have:=hgot (1+(id-st.bx.length));rw[<-Nat.add_assoc,<-q3,Ag hplt,Nat.add_comm 1,Bz]at this;rw[<-this];rfl
      ·have hbb:b1=b:=by
        rw[X9 hi]at hb;injection hb
       subst hbb
       have hlt:id<st.bx.length:=by
        rcases Dx id st.bx.length with h' |h'
        ·exact h'
        ·rw[hβn id h']at hi;cases hi
       have hne:id≠d:=fun e=>by rw[e,hβd]at hi;cases hi
       by_cases hid:id∈ids
       ·right;obtain⟨j,hj⟩:=Cm hid
        have hlt2:j<bs2.length:=by have:=(Aj.1 hj).1;omega
        obtain⟨b',arr,e,k1,k2,k3,k4⟩:=lent _ _ hσ bs2 h2 j bs2[j] (Ag hlt2);obtain⟨b'',q1,q2⟩:=halβ j id hj;have e1:=hsame j b'' q2;rw[k1]at e1;injection e1 with e1;rw[hi]at q1;injection q1 with q1
        have e2:b'=b1:=by rw[e1,q1]
        subst e2;refine⟨_,arr,e,?_,k2,k4,k3,.inl rfl⟩;rw[hbx _ hlt];simp only[E1];exact fQ hd hj (Ag hlt2) (by simpa using hlt)
       ·left;refine⟨rfl,fun⟨j,hj⟩=>?_,by rw[hbx _ hlt,hoth id hne hid]⟩;obtain⟨id',q1,q2⟩:=D2 hj;have:=hI.binj id id' b1 hi q2;subst this;exact hid (Bi q1)
     ·intro id cs hc
      by_cases hlt:id<st.bx.length
      ·rw[hbx _ hlt]at hc
       by_cases hne:id=d
       ·subst hne
        have hplt:ids.length<bs2.length:=by omega
        obtain⟨b',arr,e,k1,_⟩:=lent _ _ hσ bs2 h2 ids.length bs2[ids.length] (Ag hplt);exact⟨b',hσ ids.length id (by simp[iB]) b' k1⟩
       ·by_cases hid:id∈ids
        ·obtain⟨cs1,hc1⟩:=hal id hid;obtain⟨b,hb⟩:=hI.alive id cs1 hc1;exact⟨b,X9 hb⟩
        ·rw[hoth id hne hid]at hc;obtain⟨b,hb⟩:=hI.alive id cs hc;exact⟨b,X9 hb⟩
      ·have e0:id=st.bx.length+(id-st.bx.length):=by omega
       rw[e0,hbxn]at hc
       have hlt3:id-st.bx.length<more.length:=by
        rcases Dx (id-st.bx.length) more.length with h' |h'
        ·exact h'
        ·rw[Bs h']at hc;cases hc
       have hplt:ids.length+1+(id-st.bx.length)<bs2.length:=by omega
       obtain⟨b',arr,e,k1,_⟩:=lent _ _ hσ bs2 h2 (ids.length+1+(id-st.bx.length)) _ (Ag hplt);refine⟨b',hσ (ids.length+1+(id-st.bx.length)) id ?_ b' k1⟩;have:ids[ids.length+1+(id-st.bx.length)]? =none:=Bs (by omega);simp only[iB,this];rw[if_neg (by omega)];congr 1;omega
     ·intro i j b hi hj;rcases h1:β i with _|b1<;>rcases h2:β j with _|b2
      ·obtain⟨p,_,p2,p3,_⟩:=iR hdlt h1 hi;obtain⟨q,_,q2,q3,_⟩:=iR hdlt h2 hj;have:=hB.inj p q b p2 q2;subst this;rw[p3]at q3;injection q3
      ·obtain⟨p,p1,p2,_⟩:=iR hdlt h1 hi;have:=hlenN p b p2 (Bs p1);rw[X9 h2]at hj;injection hj with hj;subst hj;have:=hI.box_lt h2;omega
      ·obtain⟨p,p1,p2,_⟩:=iR hdlt h2 hj;have:=hlenN p b p2 (Bs p1);rw[X9 h1]at hi;injection hi with hi;subst hi;have:=hI.box_lt h1;omega
      ·rw[X9 h1]at hi;rw[X9 h2]at hj;injection hi with hi;injection hj with hj;subst hi;subst hj;exact hI.binj i j _ h1 h2
    ·cases hst
  ·cases h
theorem aV {n k j:Nat}(h:j<k):(E9 n k)[j]? =some (n+j):=by simp[E9,h]
theorem aQ {n k:Nat}:(E9 n k).length=k:=by simp[E9]
theorem kU {n k:Nat}:(E9 n k).Nodup:=by
 unfold E9;refine List.Pairwise.map (R:=fun a b=>a≠b) _ (fun a b hab e=>hab (by have e:n+a=n+b:=e;omega)) List.nodup_range
theorem oU {n k j id:Nat}(h:(E9 n k)[j]? =some id):j<k/\id=n+j:=by
 have hlt:=(Aj.1 h).1;rw[aQ]at hlt;rw[aV hlt]at h;injection h with h;exact⟨hlt,h.symm⟩
theorem fJ {bx:List (Option (List TV))}{ids:List Nat}{bs:List (List PV)}(h:dO bx ids=some bs):∃bs0,F7 (cF bx) ids=some bs0/\F7 (F7 (Q2 (jB ids 0) false 4)) bs0=some bs:=by
 unfold dO at h;split at h
 ·rename_i bs0 h0;exact⟨bs0,h0,h⟩
 ·cases h
theorem eC {bx:List (Option (List TV))}{ids:List Nat}{bs:List (List PV)}(h:dO bx ids=some bs):bs.length=ids.length:=by
 obtain⟨bs0,h1,h2⟩:=fJ h;rw[E6 h2,E6 h1]
theorem nL {bx:List (Option (List TV))}{ids:List Nat}{bs:List (List PV)}(h:dO bx ids=some bs):∀id∈ids,∃cs,bx[id]? =some (some cs):=by
 intro id hid;obtain⟨bs0,h1,h2⟩:=fJ h;obtain⟨j,hj⟩:=Cm hid;obtain⟨cs,_,h3⟩:=J8 h1 j id hj;obtain⟨ts,h4,_⟩:=bF h3;exact⟨ts,h4⟩
theorem I0.back_boxes (hI:InvB NG X st a M β κ){ids:List Nat}(hd:ids.Nodup)(hal:∀id∈ids,∃cs,st.bx[id]? =some (some cs)){M':C4}{bs' bs2:List (List PV)}{βc:Nat->Option Nat}(hB:kJ M' βc NG bs')(hsame:∀j b,G0 β ids j=some b->βc j=some b)(hl:bs'.length=ids.length)
  (h2:F7 (F7 (Q2 (fun j=>ids[j]?) false 4)) bs'=some bs2) {ex:Nat->Prop} (hex:∀id b,β id=some b->ex b->id∈ids) :
  ∀id b,β id=some b->(β id=some b/\¬ex b/\(E1 (cB ids bs2) st.bx)[id]? =st.bx[id]?)\/(∃cs arr e,(E1 (cB ids bs2) st.bx)[id]? =some (some (cs.map fun x=>(x,0)))/\eT M'.w b e arr/\BsK M' β cs arr/\M'.U b=0/\(β id=some b\/(M.w.heap.size<=b/\∀j,j<X.np->id≠st.ρ.length+j))):=by
 intro id b hb
 have halβ:∀j id,ids[j]? =some id->∃b,β id=some b/\G0 β ids j=some b:=fun j id hj=>by
  obtain⟨cs,hc⟩:=hal id (Bi hj);obtain⟨b,hb⟩:=hI.alive id cs hc;exact⟨b,hb,by simp[G0,hj,hb]⟩
 have hσ:∀j i,ids[j]? =some i->∀b,βc j=some b->β i=some b:=fun j i hj b hb=>by
  obtain⟨b',q1,q2⟩:=halβ j i hj;have:=hsame j b' q2;rw[hb]at this;injection this with this;rw[q1,this]
 by_cases hid:id∈ids
 ·right;obtain⟨j,hj⟩:=Cm hid
  have hlt:j<bs2.length:=by rw[E6 h2,hl];exact(Aj.1 hj).1
  obtain⟨cs0,h3,h4⟩:=fG h2 j bs2[j] (Ag hlt);obtain⟨b1,arr,e,k1,k2,k3,k4,k5⟩:=hB.box j cs0 h3
  have e2:b1=b:=by
   have:=hσ j id hj b1 k1;rw[hb]at this;injection this with this;exact this.symm
  subst e2;obtain⟨cs1,hc1⟩:=hal id hid;exact⟨_,arr,e,fQ hd hj (Ag hlt) (Aj.1 hc1).1,k2,A7y hσ k5 h4,k3,.inl hb⟩
 ·left;exact⟨hb,fun he=>hid (hex id b hb he),G8 _ _ _ (fun p hp e=>hid (by rw[<-e];exact bX hp))⟩
theorem A2j {ids:List Nat}{bs2:List (List PV)}{bx:List (Option (List TV))}(hal:∀id∈ids,∃cs,bx[id]? =some (some cs)){id:Nat}{cs:List TV}(hc:(E1 (cB ids bs2) bx)[id]? =some (some cs)):∃cs,bx[id]? =some (some cs):=by
 by_cases hid:id∈ids
 ·exact hal id hid
 ·rw[G8 _ _ _ (fun p hp e=>hid (by rw[<-e];exact bX hp))]at hc;exact⟨cs,hc⟩
theorem I0.iback (hI:I0 NG X st a M β κ){bs:List (List PV)}(hbs:dO st.bx (E9 st.ρ.length X.nl)=some bs){f0:Nat->Prop}{f:Nat->Prop}(h01:∀b,f0 b->f b)(hmk:C33 X a.defers M f f0)(hlow:∀b,f b->b<M.w.heap.size/\X.low b)(hfβ:∀id b,β id=some b->¬f b)(hfκ:∀c g,κ c=some g->¬f g)
  {M':C4} {f':Nat->Prop} {o':kC} (hm:H8 M M' (fun c=>f0 c\/∃j,G0 β (E9 st.ρ.length X.nl) j=some c)) {bs':List (List PV)} (hB:kJ M' (G0 β (E9 st.ρ.length X.nl)) NG bs') (hl:bs'.length=X.nl) (hJ:X.J o' M' f') (hf':∀c,f' c->(f0 c\/M.w.heap.size<=c)/\c<M'.w.heap.size)
  {r:PV} {v:Value} (hr:C1 M' (G0 β (E9 st.ρ.length X.nl)) r v) {dst:Option Tmp} {act:C7} (h:kF (E9 st.ρ.length X.nl) bs' o' r some=some act) {st':St} (hst:B0 act dst st=some st'):I0 NG X st' (a.put dst v) M' β κ:=by
 have hal:=nL hbs
 have halβ:∀j id,(E9 st.ρ.length X.nl)[j]? =some id->∃b,β id=some b/\G0 β (E9 st.ρ.length X.nl) j=some b:=fun j id hj=>by
  obtain⟨cs,hc⟩:=hal id (Bi hj);obtain⟨b,hb⟩:=hI.alive id cs hc;exact⟨b,hb,by simp[G0,hj,hb]⟩
 unfold kF at h;obtain⟨hl1,h⟩:=A5 h;split at h
 ·rename_i bs2 r2 h2 h3;injection h with h;subst h;simp only[B0,Ff,if_true,Ah,Option.getD_some]at hst;subst hst
  have hσ:∀j i,(E9 st.ρ.length X.nl)[j]? =some i->∀b,G0 β (E9 st.ρ.length X.nl) j=some b->β i=some b:=fun j i hj b hb=>by
   obtain⟨id,q1,q2⟩:=D2 hb;rw[hj]at q1;injection q1 with q1;rw[q1];exact q2
  have hexI:∀id b,β id=some b->(f0 b\/∃j,G0 β (E9 st.ρ.length X.nl) j=some b)->id∈E9 st.ρ.length X.nl:=fun id b hb he=>by
   rcases he with he|⟨j,hj⟩
   ·exact(hfβ id b hb (h01 b he)).elim
   ·obtain⟨id',q1,q2⟩:=D2 hj;have:=hI.binj id id' b hb q2;subst this;exact Bi q1
  have hB':=InvB.lend (o':=o') hI hm (fun b he=>by
   rcases he with he|⟨j,hj⟩
   ·exact⟨(hlow b (h01 b he)).2,fun c hc=>hfκ c b hc (h01 b he)⟩
   ·obtain⟨id',q1,q2⟩:=D2 hj;obtain⟨_,_,_,_,_,_,_,hlo⟩:=hI.box id' b q2
    exact⟨hlo,fun c hc=>hI.kbox c b id' b hc q2 rfl⟩) (fun _ _ h=>h)
   (I0.back_boxes hI.toInvB kU hal hB (fun _ _ h=>h) (by rw[aQ];exact hl) h2 hexI)
   (fun id cs hc=>let⟨cs1,hc1⟩:=A2j hal hc;hI.alive id cs1 hc1) hI.binj
  have hI2:I0 NG X ⟨st.ρ,E1 (cB (E9 st.ρ.length X.nl) bs2) st.bx,o'⟩ a M' β κ:=by
   refine⟨hB',hI.out.lent,fun h0=>by simp only[Q7];exact hI.out.room h0,fun c=>f' c\/(f c/\¬f0 c),f',hJ,fun c hc=>.inl hc,⟨?_⟩,fun c hc=>?_,fun id b hb hc=>?_,fun c g hg hc=>?_⟩
   ·obtain⟨Ds,k1,k2,k3⟩:=hmk.ex;refine⟨Ds,k1,k2,fun D hD=>?_⟩;obtain⟨q1,q2,q3,q4⟩:=k3 D hD;refine⟨.inr ⟨q1,q2⟩,fun h'=>?_,?_,q4⟩
    ·rcases(hf' D h').1 with h' |h'
     ·exact q2 h'
     ·have:=N6 q3;omega
    ·refine(hm.block D (N6 q3) ?_).1.trans q3
     rintro(he|⟨j,hj⟩)
     ·exact q2 he
     ·obtain⟨id',_,q⟩:=D2 hj;exact hfβ id' D q q1
   ·rcases hc with hc|hc
    ·refine⟨(hf' c hc).2,?_⟩;rcases(hf' c hc).1 with h' |h'
     ·exact(hlow c (h01 c h')).2
     ·exact .inl (Aw hI.size h')
    ·exact⟨As (hlow c hc.1).1 hm.size,(hlow c hc.1).2⟩
   ·rcases hc with hc|hc
    ·rcases(hf' b hc).1 with h' |h'
     ·exact hfβ id b hb (h01 b h')
     ·have:=hI.box_lt hb;omega
    ·exact hfβ id b hb hc.1
   ·rcases hc with hc|hc
    ·rcases(hf' g hc).1 with h' |h'
     ·exact hfκ c g hg (h01 g h')
     ·have:=hI.khigh c g hg;omega
    ·exact hfκ c g hg hc.1
  exact hI2.put dst (x:=(r2,0)) (V3 hσ 4 r r2 v h3 hr) (.inl rfl)
 ·cases h
end
end Go.Proofs.YtkpfigikffphdaaGreatDoor
namespace Go.Proofs.YtkpfigikffphdaaGreatDoor
open Go.RowKit
def A4l (P:Program)(f:FuncId)(vs:Array Value)(w:World)(R:Value->World->Prop):Prop :=
 (∃v w',(callFunc f vs).run P w=.ok (.value v) w'/\R v w')\/((callFunc f vs).run P w=.ok (.enter f vs) w/\Calls P f vs w fun e w'=>∃v,e=.returned v/\R v w')
structure C8k (en:K6)(NG:Nat)(W:World->Prop)(f:FuncId)(fn:D5):Prop where
 nat:fn.nat
 call:∀(M:C4) (xs:List PV) (vs:List Value) (r:PV),W M.w->NG<=M.w.heap.size->gO en M->K9 M xs vs->fn.F xs (R:=PV) some=some r->
  A4l en.P f vs.toArray M.w fun v w'=>∃U',L4 M ⟨w',U',M.y⟩ none/\B7 ⟨w',U',M.y⟩ r v/\(fn.own=true->∃nl sz n cells,r=.sl nl sz n cells/\(yN v\/∃g,M.w.heap.size<=g/\bO ⟨w',U',M.y⟩ g sz v))
structure B0p (en:K6)(NG:Nat)(W:World->Prop)(f:FuncId)(p:H7):Prop where
 nat:p.nat
 call:∀(M:C4) (β:Nat->Option Nat) (bs:List (List PV)) (xs:List PV) (vs:List Value) (bs':List (List PV)) (r:PV),W M.w->NG<=M.w.heap.size->gO en M->kJ M β NG bs->B9 M β xs vs->p.F bs xs (R:=List (List PV)×PV) (fun b v=>some (b,v))=some (bs',r)->
  A4l en.P f vs.toArray M.w fun v w'=>∃U' β',H8 M ⟨w',U',M.y⟩ (fun b=>∃j,β j=some b)/\kJ ⟨w',U',M.y⟩ β' NG bs'/\bs.length<=bs'.length/\(∀j b,β j=some b->β' j=some b)/\(∀j b,β' j=some b->β j=some b\/M.w.heap.size<=b)/\C1 ⟨w',U',M.y⟩ β' r v
structure F66 (en:K6)(NG:Nat)(W:World->Prop)(f:FuncId)(p:IFn):Prop where
 nat:p.nat
 call:∀(X:Cx) (y:YFn) (bs:List (List PV)) (o:kC) (xs:List PV) (vs:List Value) (bs':List (List PV)) (o':kC) (r:PV) (f0:Nat->Prop),W X.M0.w->NG<=X.M0.w.heap.size->gO en X.M0->y.nat->YOK en.P NG W X bs.length y->kJ X.M0 X.lb NG bs->X.J o X.M0 f0->
  (∀c,f0 c->c<X.M0.w.heap.size/\NG<=c/\∀j,X.lb j≠some c)->X.np=bs.length->X.fp=(fun c=>f0 c\/∃j,X.lb j=some c)->B9 X.M0 X.lb xs vs->p.F bs o xs y (R:=List (List PV)×kC×PV) (fun b o v=>some (b,o,v))=some (bs',o',r)->
  (callFunc f vs.toArray).run en.P X.M0.w=.ok (.enter f vs.toArray) X.M0.w/\Calls en.P f vs.toArray X.M0.w fun e w'=>∃v,e=.returned v/\∃U' f',H8 X.M0 ⟨w',U',X.M0.y⟩ X.fp/\kJ ⟨w',U',X.M0.y⟩ X.lb NG bs'/\bs'.length=bs.length/\X.J o' ⟨w',U',X.M0.y⟩ f'/\(∀c,f' c->(f0 c\/X.M0.w.heap.size<=c)/\c<w'.heap.size)/\C1 ⟨w',U',X.M0.y⟩ X.lb r v
structure F99 (en:K6)(NG:Nat)(W:World->Prop)(f:FuncId)(p:NFn):Prop where
 nat:p.nat
 call:∀(M:C4) (xs:List PV) (vs:List Value) (sz n:Nat) (cells:List PV),W M.w->NG<=M.w.heap.size->gO en M->K9 M xs vs->p.F xs (R:=Nat×Nat×List PV) (fun s n c=>some (s,n,c))=some (sz,n,cells)->
  A4l en.P f vs.toArray M.w fun v w'=>∃U',L4 M ⟨w',U',M.y⟩ none/\∃b c e arr,v=.slice (some ⟨b,0,none⟩) n c/\M.w.heap.size<=b/\eT w' b e arr/\D7 ⟨w',U',M.y⟩ cells arr/\U' b=0/\n<=c/\c<=maxLen/\A1y w' b (c * sz)
structure F96 (en:K6)(NG:Nat)(W:World->Prop)(f:FuncId)(p:CFn):Prop where
 nat:p.nat
 call:∀(M:C4) (b c:Nat) (e:TypeId) (arr:List Value) (sz n:Nat) (cells xs:List PV) (vs:List Value) (n':Nat) (cells':List PV),W M.w->NG<=M.w.heap.size->gO en M->eT M.w b e arr->D7 M cells arr->M.U b=0->NG<=b->n<=c->c<=maxLen->A1y M.w b (c * sz)->K9 M xs vs->
  p.F sz n cells xs (R:=Nat×List PV) (fun n c=>some (n,c))=some (n',cells')->
  A4l en.P f (.slice (some ⟨b,0,none⟩) n c::vs).toArray M.w fun v w'=>∃U',L4 M ⟨w',U',M.y⟩ (some b)/\∃b' c' e' arr',v=.slice (some ⟨b',0,none⟩) n' c'/\(b'=b\/M.w.heap.size<=b')/\eT w' b' e' arr'/\D7 ⟨w',U',M.y⟩ cells' arr'/\U' b'=0/\n'<=c'/\c'<=maxLen/\A1y w' b' (c' * sz)
structure aE (en:K6)(NG:Nat)(W:World->Prop):Prop where
 fns:∀f fn,en.E f=some fn->C8k en NG W f fn
 hns:∀f p,en.H f=some p->B0p en NG W f p
 ins:∀f p,en.I f=some p->F66 en NG W f p
 nns:∀f p,en.N f=some p->F99 en NG W f p
 cns:∀f p,en.C f=some p->F96 en NG W f p
 ynat:∀k y,en.Y=some (k,y)->y.nat
 mixed:en.P.follows .mixedOrders=true
 world:∀w w',(∀b,b<NG->w'.heap[b]? =w.heap[b]?)->W w->W w'
section
variable {en:K6} {NG:Nat} {W:World->Prop} {st:St} {o:Oper}
theorem A36 {X:Cx}{a:Act}{M:C4}{β κ:Nat->Option Nat}(hI:I0 NG X st a M β κ)(hG:gO en X.M0):∀(l:List Operand) (ts:List TypeId),aF (H5 en st l ts)=true->K9 M ((H5 en st l ts).map (·.1)) (l.map a.eval)
 |[],_,_=>rfl
 |y::l,ts,h=>by
  simp only[H5,aF,List.all_cons,Ae]at h;exact⟨_,_,rfl,(hI.ev hG _ y).1.data h.1,A36 hI hG l ts.tail (by simpa [aF]using h.2)⟩
theorem N5 {P:Program}{ρ:Operand->Value}{c:Call}{t:TypeId}{b:Builtin}(hc:c.callee=.builtin b):∃cs,∀w,(do let d <-resolve ρ c t;invoke d.target d.args:Sem Next).run P w=(builtin b c.argTypes t cs (c.args.map ρ)).run P w :=
 ⟨_,fun w=>by simp only[resolve,hc,Sem.run_bind,Sem.run_pure,Result.andThen_ok,invoke];rfl⟩
theorem dT {P:Program}{ρ:Operand->Value}{c:Call}{t:TypeId}{x:Operand}{f:FuncId}{cs:Array Value}(hc:c.callee=.value x)(hx:ρ x=.func (.func f) #[] cs)(w:World):(do let d <-resolve ρ c t;invoke d.target d.args:Sem Next).run P w=(callFunc f (c.args.map ρ++cs)).run P w:=by
 simp[resolve,hc,invoke,Deferred.ofValue,hx]
theorem A5b {P:Program}{ρ:Operand->Value}{c:Call}{t:TypeId}{x:Operand}{f:FuncId}{fs:Array Value}(hc:c.callee=.value x)(hx:ρ x=.func (.func f) fs #[])(w:World):(do let d <-resolve ρ c t;invoke d.target d.args:Sem Next).run P w=(callFunc f (fs++c.args.map ρ)).run P w:=by
 simp[resolve,hc,invoke,Deferred.ofValue,hx]
theorem eY {X:Cx}{a:Act}{M:C4}{β κ:Nat->Option Nat}(hI:I0 NG X st a M β κ)(hG:gO en X.M0):∀(l:List Operand) (ts:List TypeId),B9 M β ((H5 en st l ts).map (·.1)) (l.map a.eval)
 |[],_=>by simp only[H5,Ei,B9]
 |y::l,ts=>by
  simp only[H5,Cb,B9];exact⟨_,_,rfl,(hI.ev hG _ y).1,eY hI hG l ts.tail⟩
theorem pP {M:C4}:∀{xs ys:List PV} {vs us:List Value},K9 M xs vs->K9 M ys us->K9 M (xs++ys) (vs++us)
 |[],ys,vs,us,h,k=>by simp only[K9]at h;subst h;exact k
 |x::xs,ys,vs,us,h,k=>by
  simp only[K9]at h;obtain⟨u,ws,rfl,h1,h⟩:=h;exact⟨u,ws++us,rfl,h1,pP h k⟩
theorem D2p {α β:Type}{l:List α}{f:List α->List β}(hl:(f l).length=l.length){x y:β}(h:f l=[x,y]):∃a b,l=[a,b]:=by
 rw[h]at hl
 match l,hl with
 |[a,b],_=>exact⟨a,b,rfl⟩
theorem F5j {α β:Type}{l:List α}{f:List α->List β}(hl:(f l).length=l.length){x y z:β}(h:f l=[x,y,z]):∃a b c,l=[a,b,c]:=by
 rw[h]at hl
 match l,hl with
 |[a,b,c],_=>exact⟨a,b,c,rfl⟩
theorem F64 {α β:Type}{l:List α}{f:List α->List β}(hl:(f l).length=l.length){x:β}(h:f l=[x]):∃a,l=[a]:=by
 rw[h]at hl
 match l,hl with
 |[a],_=>exact⟨a,rfl⟩
theorem pC (l:List Operand):∀ts,(H5 en st l ts).length=l.length:=by
 induction l with
 |nil=>intro ts;rfl
 |cons y l ih=>intro ts;simp[H5,ih]
theorem jA {α:Type}{a:Array α}{l:List α}(h:a.toList=l):a=l.toArray:=by rw[<-h]
theorem B2x {P:Program}{M:C4}{β:Nat->Option Nat}{k:IntKind}{w:World}:∀(xs:List PV) (vs:List Value) (a m:Int),B9 M β xs vs->C0b a xs=some m->(vs.foldlM Builtin.max2 (Value.int k a)).run P w=.ok (Value.int k m) w
 |[],vs,a,m,h,hm=>by
  simp only[B9]at h;subst h;injection hm with hm;subst hm;rfl
 |x::xs,vs,a,m,h,hm=>by
  simp only[B9]at h;obtain⟨u,us,rfl,h1,h2⟩:=h
  cases x with
  |int k' b =>
   have h1:=M5 h1;subst h1;rw[C0b]at hm;have ih:=B2x (P:=P) (k:=k) (w:=w) xs us _ m h2 hm;rw[List.foldlM_cons];simp only[Builtin.max2,Sem.run_bind,Sem.run_pure,Result.andThen_ok];exact ih
  |_=>cases hm
theorem B5i {c:Call}(hT:∀t,c.argTypes[0]? =some t->G5 en.P t)(ho:o.op=.call c){b:Builtin}(hc:c.callee=.builtin b){act:C7}(h:A9 en st o some=some act):rZ en NG W st o act:=by
 simp only[A9,ho,hc]at h;unfold aP at h;split at h
 ·rename_i x hxs;obtain⟨y,hy⟩:=F64 (f:=fun l=>H5 en st l c.argTypes.toList) (pC _ _) hxs;have hargs:=jA hy
  have key:∀{X:Cx} {a:Act} {M:C4} {β κ:Nat->Option Nat},I0 NG X st a M β κ->gO en X.M0->C1 M β x.1 (a.eval y):=by
   intro X a M β κ hI hG;rw[hy]at hxs;simp only[H5,Cl,and_true]at hxs;rw[<-hxs];exact(hI.ev hG _ y).1
  have hrun:∀{a:Act} {M:C4},∃cs,(execOp a.eval o).run en.P M.w=((builtin .len c.argTypes o.type cs (c.args.map a.eval)).run en.P M.w):=by
   intro a M;obtain⟨cs,h⟩:=N5 (P:=en.P) (ρ:=a.eval) (t:=o.type) hc;exact⟨cs,by rw[<-h M.w];simp only[execOp,ho]⟩
  split at h
  ·rename_i s ht hx;injection h with h;subst h;refine C9 fun X a M β κ hI hG _=>?_;have hx':=key hI hG;rw[hx]at hx';have hx':=dF hx';obtain⟨t,ht1,ht2⟩:=A6 ht;obtain⟨cs',hrun⟩:=hrun (a:=a) (M:=M);refine⟨_,?_,rfl,.inl rfl⟩;rw[hrun,hargs]
   have hsz:(⟨s.toArray⟩:ByteArray).size=s.length:=by simp[ByteArray.size]
   simp[builtin,Builtin.len_,ht1,C8 ht2,hx',goInt,hsz]
  ·rename_i e nl sz n cells ht hx;injection h with h;subst h;refine C9 fun X a M β κ hI hG _=>?_
   have hx':B7 M (.sl nl sz n cells) (a.eval y):=by have:=key hI hG;rw[hx]at this;exact this
   simp only[B7]at hx';obtain⟨A,cc,vs,he,_⟩:=hx';obtain⟨t,ht1,ht2⟩:=A6 ht;obtain⟨cs',hrun⟩:=hrun (a:=a) (M:=M);refine⟨_,?_,rfl,.inl rfl⟩;rw[hrun,hargs];simp[builtin,Builtin.len_,ht1,C8 ht2,he,goInt]
  ·rename_i e id off sz n ht hx;injection h with h;subst h;refine C9 fun X a M β κ hI hG _=>?_;have hx':=key hI hG;rw[hx]at hx';simp only[C1]at hx';obtain⟨b,cc,_,he,_⟩:=hx';obtain⟨t,ht1,ht2⟩:=A6 ht;obtain⟨cs',hrun⟩:=hrun (a:=a) (M:=M);refine⟨_,?_,rfl,.inl rfl⟩;rw[hrun,hargs];simp[builtin,Builtin.len_,ht1,C8 ht2,he,goInt]
  ·rename_i _ _ n e ht;injection h with h;subst h;refine C9 fun X a M β κ hI hG _=>?_;obtain⟨t,ht1,ht2⟩:=A6 ht;obtain⟨cs',hrun⟩:=hrun (a:=a) (M:=M);refine⟨_,?_,rfl,.inl rfl⟩;rw[hrun,hargs];simp[builtin,Builtin.len_,ht1,C8 ht2,goInt]
  ·cases h
 ·rename_i x y hxs;obtain⟨u,v,huv⟩:=D2p (f:=fun l=>H5 en st l c.argTypes.toList) (pC _ _) hxs;have hargs:=jA huv;split at h
  ·rename_i k a' k' b' hx hy;injection h with h;subst h;refine C9 fun X a M β κ hI hG _=>?_;rw[huv]at hxs;simp only[H5,Cl,and_true]at hxs;have h1:=(hI.ev hG (c.argTypes.toList.headD 0) u).1;have h2:=(hI.ev hG (c.argTypes.toList.tail.headD 0) v).1;rw[hxs.1,hx]at h1;rw[hxs.2,hy]at h2;have h1:=M5 h1;have h2:=M5 h2;obtain⟨cs',hrun⟩:=N5 (P:=en.P) (ρ:=a.eval) (t:=o.type) hc;refine⟨_,?_,rfl,.inl rfl⟩;simp only[execOp,ho];rw[hrun M.w,hargs];simp[builtin,Builtin.max_,Builtin.max2,h1,h2]
  ·rename_i a' b' hx hy;injection h with h;subst h;refine C9 fun X a M β κ hI hG _=>?_;rw[huv]at hxs;simp only[H5,Cl,and_true]at hxs;have h1:=(hI.ev hG (c.argTypes.toList.headD 0) u).1;have h2:=(hI.ev hG (c.argTypes.toList.tail.headD 0) v).1;rw[hxs.1,hx]at h1;rw[hxs.2,hy]at h2;have h1:=dF h1;have h2:=dF h2;obtain⟨cs',hrun⟩:=N5 (P:=en.P) (ρ:=a.eval) (t:=o.type) hc;refine⟨_,?_,rfl,.inl rfl⟩;simp only[execOp,ho];rw[hrun M.w,hargs]
   cases hl:Op.bytesLess a' b'<;>simp[builtin,Builtin.max_,Builtin.max2,h1,h2,Op.stringOp,asBool,hl]
  ·cases h
 ·rename_i x y hxs;obtain⟨u,v,huv⟩:=D2p (f:=fun l=>H5 en st l c.argTypes.toList) (pC _ _) hxs;have hargs:=jA huv;split at h
  ·rename_i k a' k' b' hx hy;injection h with h;subst h;refine C9 fun X a M β κ hI hG _=>?_;rw[huv]at hxs;simp only[H5,Cl,and_true]at hxs;have h1:=(hI.ev hG (c.argTypes.toList.headD 0) u).1;have h2:=(hI.ev hG (c.argTypes.toList.tail.headD 0) v).1;rw[hxs.1,hx]at h1;rw[hxs.2,hy]at h2;have h1:=M5 h1;have h2:=M5 h2;obtain⟨cs',hrun⟩:=N5 (P:=en.P) (ρ:=a.eval) (t:=o.type) hc;refine⟨_,?_,rfl,.inl rfl⟩;simp only[execOp,ho];rw[hrun M.w,hargs];simp[builtin,Builtin.min_,Builtin.min2,h1,h2]
  ·cases h
 ·rename_i x y z hxs;obtain⟨u,v,q,huv⟩:=F5j (f:=fun l=>H5 en st l c.argTypes.toList) (pC _ _) hxs;have hargs:=jA huv;split at h
  ·rename_i k a' k' b' k'' c' hx hy hz;injection h with h;subst h;refine C9 fun X a M β κ hI hG _=>?_;rw[huv]at hxs;simp only[H5,Cl,and_true]at hxs;have h1:=(hI.ev hG (c.argTypes.toList.headD 0) u).1;have h2:=(hI.ev hG (c.argTypes.toList.tail.headD 0) v).1;have h3:=(hI.ev hG (c.argTypes.toList.tail.tail.headD 0) q).1;rw[hxs.1,hx]at h1;rw[hxs.2.1,hy]at h2;rw[hxs.2.2,hz]at h3;have h1:=M5 h1;have h2:=M5 h2;have h3:=M5 h3;obtain⟨cs',hrun⟩:=N5 (P:=en.P) (ρ:=a.eval) (t:=o.type) hc;refine⟨_,?_,rfl,.inl rfl⟩;simp only[execOp,ho];rw[hrun M.w,hargs];simp[builtin,Builtin.max_,Builtin.max2,h1,h2,h3]
  ·cases h
 ·rename_i x y z w' rest hxs;split at h
  ·rename_i k a' hx;obtain⟨m,hm,h⟩:=Option.bind_eq_some_iff.1 h;injection h with h;subst h;refine C9 fun X a M β κ hI hG _=>?_;have hr:=eY hI hG c.args.toList c.argTypes.toList;rw[hxs,Cb]at hr;simp only[B9]at hr;obtain⟨u,us,hu,h1,h2⟩:=hr;rw[hx]at h1;have h1:=M5 h1;subst h1;obtain⟨cs',hrun⟩:=N5 (P:=en.P) (ρ:=a.eval) (t:=o.type) hc;refine⟨_,?_,rfl,.inl rfl⟩;simp only[execOp,ho];rw[hrun M.w]
   have e:(c.args.map a.eval).toList=Value.int k a'::us:=by rw[Array.toList_map];exact hu
   have hf:=B2x (P:=en.P) (k:=k) (w:=M.w) _ us a' m h2 hm;simp[builtin,Builtin.max_,hu,hf]
  ·cases h
 ·rename_i s x hxs;obtain⟨u,v,huv⟩:=D2p (f:=fun l=>H5 en st l c.argTypes.toList) (pC _ _) hxs;have hargs:=jA huv;split at h
  ·rename_i e nl sz n cells ht hs;obtain⟨hcond,h⟩:=A5 h;simp only[Ae,beq_iff_eq,decide_eq_true_eq]at hcond;obtain⟨⟨⟨hsz,hpos⟩,htag⟩,hzero⟩:=hcond;split at h
   ·rename_i e' nl' sz' m cells' ht' hx;obtain⟨hsz',h⟩:=A5 h;subst hsz';obtain⟨hb,h⟩:=B8 h;simp only[Ae,decide_eq_true_eq]at hb;injection h with h;subst h;obtain⟨t,ht1,ht2⟩:=A6 ht;have ht2:=nH ht2;obtain⟨t',ht1',ht2'⟩:=A6 ht';refine A9c fun X a M β κ hI hG _=>?_;rw[huv]at hxs;simp only[H5,Cl,and_true]at hxs;have h1:=(hI.ev hG (c.argTypes.toList.headD 0) u);have h2:=(hI.ev hG (c.argTypes.toList.tail.headD 0) v).1;rw[hxs.1,hs]at h1;rw[hxs.2,hx]at h2;obtain⟨r,M',ex,g1,g2,g3,g4,g5⟩:=C4h (hT t ht1) (κ:=κ) (ty:=o.type) ht2 ht2' hsz hpos hzero hb.1 hb.2 h1.1 h2 htag h1.2 (fun _ _ _=>trivial);obtain⟨cs',hrun⟩:=N5 (P:=en.P) (ρ:=a.eval) (t:=o.type) hc;refine⟨r,M',ex,?_,g2,g3,g4,g5⟩;simp only[execOp,ho];rw[hrun M.w,hargs]
    have e2:Builtin.append_ c.argTypes o.type #[a.eval u,a.eval v]=Builtin.append_ #[t,t'] o.type #[a.eval u,a.eval v]:=by
     unfold Builtin.append_;simp only[ht1,ht1'];rfl
    simp only[builtin,List.map_toArray,Cb,Ei,Sem.run_bind,e2,g1,Result.andThen_ok,Sem.run_pure]
   ·rename_i q ht' hx;obtain⟨hsz',h⟩:=A5 h;subst hsz';obtain⟨hb,h⟩:=B8 h;simp only[Ae,decide_eq_true_eq]at hb;injection h with h;subst h;obtain⟨t,ht1,ht2⟩:=A6 ht;have ht2:=nH ht2;obtain⟨t',ht1',ht2'⟩:=A6 ht';refine A9c fun X a M β κ hI hG _=>?_;rw[huv]at hxs;simp only[H5,Cl,and_true]at hxs;have h1:=(hI.ev hG (c.argTypes.toList.headD 0) u);have h2:=(hI.ev hG (c.argTypes.toList.tail.headD 0) v).1;rw[hxs.1,hs]at h1;rw[hxs.2,hx]at h2;have h2:=dF h2;obtain⟨r,M',ex,g1,g2,g3,g4,g5⟩:=B7s (hT t ht1) (κ:=κ) (ty:=o.type) ht2 ht2' hsz hzero hb.1 hb.2 h1.1 htag h1.2 (fun _ _ _=>trivial);obtain⟨cs',hrun⟩:=N5 (P:=en.P) (ρ:=a.eval) (t:=o.type) hc;refine⟨r,M',ex,?_,g2,g3,g4,g5⟩;simp only[execOp,ho];rw[hrun M.w,hargs]
    have e2:Builtin.append_ c.argTypes o.type #[a.eval u,a.eval v]=Builtin.append_ #[t,t'] o.type #[a.eval u,.string ⟨q.toArray⟩]:=by
     rw[h2];unfold Builtin.append_;simp only[ht1,ht1'];rfl
    simp only[builtin,List.map_toArray,Cb,Ei,Sem.run_bind,e2,g1,Result.andThen_ok,Sem.run_pure]
   ·cases h
  ·cases h
 ·cases h
theorem I0.world {X:Cx}{a:Act}{M:C4}{β κ:Nat->Option Nat}(hI:I0 NG X st a M β κ)(hE:aE en NG W)(hW:Amb en NG W X):W M.w :=
 hE.world _ _ (fun b hb=>(hI.mv.block b (As hb hI.ng) (fun h=>by have:=hI.fpng b h;omega)).1) hW.w
theorem uG {fid:FuncId}{a:Act}{M:C4}{vs:Array Value}{R:Value->World->Prop}{ro:Option Nat}{next:Act->World->Prop}{Q:Exit->Act->World->Prop}(hrun:(execOp a.eval o).run en.P M.w=(callFunc fid vs).run en.P M.w)(hcall:A4l en.P fid vs M.w R)
  (fin:∀v w',R v w'->next (a.put o.dst v) w'):o.wpIn (FR ro) 0 en.P a M.w next Q:=by
 rcases hcall with⟨v,w',h1,h2⟩|⟨h1,h2⟩
 ·exact lN (hrun.trans h1) (fin v w' h2)
 ·refine C9i (hrun.trans h1) (h2.mono ?_)
  rintro e w' ⟨v,rfl,h3⟩
  exact⟨v,rfl,fin v w' h3⟩
theorem D1n {a:Act}{w:World}{l:Nat}{fn:FuncId}{tmps:Array Value}{assign body:Code}{ro:Option Nat}{next:Act->World->Prop}{Q:Exit->Act->World->Prop}(h:(execOp a.eval o).run en.P w=.ok (.round l fn tmps assign body) w)
  (hc:RoundIn Fence.wide 0 en.P l fn tmps assign body w fun e w'=>∃v,e=.returned v/\next (a.put o.dst v) w'):o.wpIn (FR ro) 0 en.P a w next Q:=by
 refine⟨fun _ _=>trivial,?_⟩;rw[Oper.semAt_eq _ _ _ (qT h (by simp)),h];rw[Oper.uponIn_round];refine⟨fun hd=>by simp[FR,Fence.wide]at hd,?_⟩;refine RoundIn.mono (show RoundIn Fence.wide (0-1) en.P l fn tmps assign body w _ from hc) ?_
 rintro e w'' ⟨v,rfl,h3⟩
 exact h3
theorem A5w (hE:aE en NG W){fid:FuncId}{p:H7}(hF:B0p en NG W fid p){xs0:List PV}{act:C7}(h:aX st.bx o.dst p xs0 some=some act)
  (hcl:∀{X:Cx} {a:Act} {M:C4} {β κ:Nat->Option Nat},I0 NG X st a M β κ->gO en X.M0->∃vs:List Value,B9 M β xs0 vs/\(execOp a.eval o).run en.P M.w=(callFunc fid vs.toArray).run en.P M.w):rZ en NG W st o act:=by
 unfold aX at h;split at h
 ·rename_i ids hids;obtain⟨hdist,h⟩:=A5 h;split at h
  ·rename_i bs0 xs hbs0 hxs;split at h
   ·rename_i bs hbs;rw[hF.nat]at h;obtain⟨⟨bs',r⟩,hr,h⟩:=A6 h;intro X a M β κ hI hG hW st' hst ro next Q hn;obtain⟨vs,hvs,hrun⟩:=hcl hI hG;have hargs:=O2 (V3 (fH (β:=β)) 4) hxs hvs;have hnd:=W2 hdist;have hB:=A16 hI hnd hbs0 hbs;have hcall:=hF.call M _ _ _ _ bs' r (hI.world hE hW) (Aw hI.ng hI.size) (hG.mono hI.le0) hB hargs hr;refine uG hrun hcall ?_;intro v w' ⟨U',β',g1,g2,g3,g4,g5,g6⟩
    have hlen:bs.length=ids.length:=by rw[E6 hbs,E6 hbs0]
    obtain⟨β2,hI'⟩:=hI.hback hnd (fun id hid=>by
     obtain⟨j,hj⟩:=Cm hid;obtain⟨cs,_,h2⟩:=J8 hbs0 j id hj;obtain⟨ts,h3,_⟩:=bF h2
     exact⟨ts,h3⟩) g1 g2 (by omega) g4 g5 g6 h hst
    exact hn _ ⟨w',U',M.y⟩ β2 κ hI'
   ·cases h
  ·cases h
 ·cases h
theorem D1w (hE:aE en NG W) {c:Call} (ho:o.op=.call c) {x:Operand} (hc:c.callee=.value x) {act:C7} (h:A9 en st o some=some act):rZ en NG W st o act:=by
 simp only [A9,ho,hc]at h;split at h
 ·rename_i fid caps hx;split at h
  ·rename_i hge;split at h
   ·rename_i p hp;refine A5w hE (hE.hns _ p hp) h fun {X a M β κ} hI hG=>?_;have hx':=(hI.ev hG 0 x).1;rw [hx]at hx';simp only [C1]at hx';obtain⟨vs,he,hvs⟩:=hx';rw [pD,if_neg (Nat.not_lt.mpr hge)]at he;refine⟨_,hvs.append (eY hI hG c.args.toList c.argTypes.toList),?_⟩
    have hva:(vs ++ c.args.toList.map a.eval).toArray=vs.toArray ++ c.args.map a.eval:=by apply Eh;simp
    rw [hva,<-A5b (t:=o.type) hc he M.w];simp only [execOp,ho]
   ·cases h
  rename_i hge;have hlt:fid < 1000000:=Nat.not_le.mp hge;split at h
  ·rename_i fn hfn;obtain⟨hd,h⟩:=A5 h;simp only [Ae]at hd;have hF:=hE.fns fid fn hfn;rw [hF.nat]at h;obtain⟨r,hr,h⟩:=A6 h;intro X a M β κ hI hG hW st' hst ro next Q hn;have hx':=(hI.ev hG 0 x).1;rw [hx]at hx';simp only [C1]at hx';obtain⟨vs,he,hvs⟩:=hx';rw [pD,if_pos hlt]at he;have hargs:=pP (A36 hI hG c.args.toList c.argTypes.toList hd.1) (hvs.data hd.2);have hcall:=hF.call M _ _ r (hI.world hE hW) (Aw hI.ng hI.size) (hG.mono hI.le0) hargs hr
   have hva:(c.args.toList.map a.eval ++ vs).toArray=c.args.map a.eval ++ vs.toArray:=by apply Eh;simp
   rw [hva]at hcall
   have hrun:(execOp a.eval o).run en.P M.w=(callFunc fid (c.args.map a.eval ++ vs.toArray)).run en.P M.w:=by
    rw [<-dT (t:=o.type) hc he M.w];simp only [execOp,ho]
   refine uG hrun hcall ?_;intro v w' ⟨U',g1,g2,g3⟩;split at h
   ·rename_i hown;obtain⟨nl,sz,n,cells,rfl,g6⟩:=g3 hown;injection h with h;subst h;simp only [B0]at hst;split at hst
    ·rename_i d hdst;injection hst with hst;subst hst
     obtain⟨κ',hI'⟩:=hI.owned (M':=⟨w',U',M.y⟩) (c:=0) (d:=d) (ex:=none) (.inl rfl) g1 g2 (by
      rcases g6 with g6 |⟨g,g4,g5⟩
      ·exact .inl g6
      ·exact .inr ⟨g,g5,.inl g4⟩)
     rw [<-hdst]at hI';exact hn _ ⟨w',U',M.y⟩ β κ' hI'
    ·cases hst
   ·injection h with h;subst h;simp only [B0,K8,Aq,Ah]at hst;subst hst;exact hn _ ⟨w',U',M.y⟩ β κ ((hI.grow g1).put o.dst (C1.of_data g2) (.inl rfl))
  ·split at h
   ·rename_i p hp;refine A5w hE (hE.hns fid p hp) h fun {X a M β κ} hI hG=>?_;have hx':=(hI.ev hG 0 x).1;rw [hx]at hx';simp only [C1]at hx';obtain⟨vs,he,hvs⟩:=hx';rw [pD,if_pos hlt]at he;refine⟨_,(eY hI hG c.args.toList c.argTypes.toList).append hvs,?_⟩
    have hva:(c.args.toList.map a.eval ++ vs).toArray=c.args.map a.eval ++ vs.toArray:=by apply Eh;simp
    rw [hva,<-dT (t:=o.type) hc he M.w];simp only [execOp,ho]
   ·split at h
    ·rename_i p hp;obtain⟨hd,h⟩:=A5 h;simp only [Ae]at hd;have hF:=hE.nns fid p hp;unfold oO at h;split at h
     ·rename_i d hdst;rw [hF.nat]at h;obtain⟨⟨sz,n,cells⟩,hr,h⟩:=A6 h;injection h with h;subst h;intro X a M β κ hI hG hW st' hst ro next Q hn;have hx':=(hI.ev hG 0 x).1;rw [hx]at hx';simp only [C1]at hx';obtain⟨vs,he,hvs⟩:=hx';rw [pD,if_pos hlt]at he;have hargs:=pP (A36 hI hG c.args.toList c.argTypes.toList hd.1) (hvs.data hd.2);have hcall:=hF.call M _ _ sz n cells (hI.world hE hW) (Aw hI.ng hI.size) (hG.mono hI.le0) hargs hr
      have hva:(c.args.toList.map a.eval ++ vs).toArray=c.args.map a.eval ++ vs.toArray:=by apply Eh;simp
      rw [hva]at hcall
      have hrun:(execOp a.eval o).run en.P M.w=(callFunc fid (c.args.map a.eval ++ vs.toArray)).run en.P M.w:=by
       rw [<-dT (t:=o.type) hc he M.w];simp only [execOp,ho]
      refine uG hrun hcall ?_
      rintro v w' ⟨U',g1,b,cap,e,arr,rfl,g2,g3,g4,g5,g6,g7,g8⟩
      rw [hdst]at hst ⊢;obtain⟨β',hI'⟩:=hI.newB g1 g2 g3 g4 g5 g6 g7 g8 hst;exact hn _ ⟨w',U',M.y⟩ β' κ hI'
     ·cases h
    ·split at h
     ·rename_i p hp;have hF:=hE.cns fid p hp;unfold kM at h;split at h
      ·rename_i id off sz n ys d hxs hdst;split at h
       ·rename_i cells hcells;obtain⟨hd,h⟩:=A5 h;simp only [Ae,decide_eq_true_eq]at hd;obtain⟨⟨hoff,hid⟩,hys⟩:=hd;rw [hF.nat]at h;obtain⟨⟨n',cells'⟩,hr,h⟩:=A6 h;obtain⟨hle,h⟩:=B8 h;have hle:=of_decide_eq_true hle;injection h with h;subst h;intro X a M β κ hI hG hW st' hst ro next Q hn;have hx':=(hI.ev hG 0 x).1;rw [hx]at hx';simp only [C1]at hx';obtain⟨vs,he,hvs⟩:=hx';rw [pD,if_pos hlt]at he;have hargs:=(eY hI hG c.args.toList c.argTypes.toList).append hvs;rw [hxs]at hargs;simp only [B9]at hargs;obtain⟨u,us,hus,h1,h2⟩:=hargs;simp only [C1]at h1;obtain⟨b,cap,hb,rfl,q1,q2,q3⟩:=h1;subst hoff;obtain⟨cs,hbx,hab⟩:=mW hcells;obtain⟨cs1,arr,e,k1,k2,k3,k4,k5⟩:=hI.box id b hb;rw [hbx]at k1;injection k1 with k1;injection k1 with k1;subst k1;rw [Bm]at q3;have hcall:=hF.call M b cap e arr sz n cells ys us n' cells' (hI.world hE hW) (Aw hI.ng hI.size) (hG.mono hI.le0) k2 (k3.arr hab) k4 (hI.lowng k5) q1 q2 q3 (h2.data hys) hr
        have hva:(c.args.toList.map a.eval ++ vs).toArray=c.args.map a.eval ++ vs.toArray:=by apply Eh;simp
        rw [<-hus,hva]at hcall
        have hrun:(execOp a.eval o).run en.P M.w=(callFunc fid (c.args.map a.eval ++ vs.toArray)).run en.P M.w:=by
         rw [<-dT (t:=o.type) hc he M.w];simp only [execOp,ho]
        refine uG hrun hcall ?_
        rintro v w' ⟨U',g1,b',cap',e',arr',rfl,g2,g3,g4,g5,g6,g7,g8⟩
        rw [hdst]at hst ⊢;obtain⟨β',hI'⟩:=hI.consB hb hid g1 g2 g3 g4 g5 g6 g7 hle hst;exact hn _ ⟨w',fun k=>if k=b' then arr'.length else U' k,M.y⟩ β' κ hI'
       ·cases h
      ·cases h
     ·split at h
      ·rename_i p k y hp hy;unfold kO at h;split at h
       ·rename_i bs xs hbs hxs;have hF:=hE.ins fid p hp;have hyn:=hE.ynat k y hy;rw [hF.nat]at h;obtain⟨⟨bs',o',r⟩,hr,h⟩:=A6 h;intro X a M β κ hI hG hW st' hst ro next Q hn;have hY:=hW.y k y hy;obtain rfl:=hY.nl;have hx':=(hI.ev hG 0 x).1;rw [hx]at hx';simp only [C1]at hx';obtain⟨vs,he,hvs⟩:=hx';rw [pD,if_pos hlt]at he;have hargs:=(eY hI hG c.args.toList c.argTypes.toList).append hvs;have hargs:=O2 (V3 (fH (β:=β)) 4) hxs hargs;obtain⟨bs0,hb0,hb1⟩:=fJ hbs;have hB:=A16 hI kU hb0 hb1;obtain⟨f,f0,hJ,h01,hmk,hlow,hfβ,hfκ⟩:=hI.out.ex
        have hbl:bs.length=X.nl:=by rw [eC hbs,aQ]
        have hlb:∀j b,G0 β (E9 st.ρ.length X.nl) j=some b->X.lb j=some b/\¬f0 b:=fun j b hj=>by
         obtain⟨id,q1,q2⟩:=D2 hj;obtain⟨q3,q4⟩:=oU q1;refine⟨?_,fun hf=>hfβ id b q2 (h01 b hf)⟩;rcases hI.out.lent id b q2 with⟨j',e1,e2,e3⟩ |⟨_,e2⟩
         ·have:j'=j:=by omega
          rw [<-this];exact e3
         ·exact(e2 j (As q3 X.nlp) q4).elim
        have hlt:∀j b,G0 β (E9 st.ρ.length X.nl) j=some b->b < M.w.heap.size/\X.low b:=fun j b hj=>by
         obtain⟨id,q1,q2⟩:=D2 hj;obtain⟨_,_,_,_,_,_,_,hlo⟩:=hI.box id b q2;exact⟨hI.box_lt q2,hlo⟩
        have hfp0:∀c,c < X.M0.w.heap.size->(f0 c\/∃j,G0 β (E9 st.ρ.length X.nl) j=some c)->X.fp c:=fun c hc hf=>by
         have hlo:X.low c:=by
          rcases hf with hf |⟨j,hj⟩
          ·exact(hlow c (h01 c hf)).2
          ·exact(hlt j c hj).2
         rcases hlo with hlo |hlo
         ·omega
         ·exact hlo
        let X2:Cx:=⟨M,fun c=>f0 c\/∃j,G0 β (E9 st.ρ.length X.nl) j=some c,X.nl,X.nl,G0 β (E9 st.ρ.length X.nl),Ak _,X.J,X.stab,[]⟩
        have hY2:YOK en.P NG W X2 bs.length y:=by
         rw [hbl];refine⟨rfl,?_⟩;intro M2 β2 bs2 o2 xs2 vs2 bs2' o2' b2 f2 g1 g2 g3 g4 g5 g6 g7 g8
         have hlow2:∀c,X2.low c->X.low c:=fun c hc=>by
          rcases hc with hc |hc
          ·exact .inl (Aw hI.size hc)
          ·rcases hc with hc |⟨j,hj⟩
           ·exact(hlow c (h01 c hc)).2
           ·exact(hlt j c hj).2
         exact hY.call M2 β2 bs2 o2 xs2 vs2 bs2' o2' b2 f2 (hI.mv.trans g1 hfp0) g2 (fun c hc=>⟨(g3 c hc).1,hlow2 c (g3 c hc).2⟩) g4 g5 (fun j c hj=>⟨(hlb j c (g6 j c hj).1).1,(g6 j c hj).2⟩) g7 g8
        have hcall:=hF.call X2 y bs st.out xs _ bs' o' r f0 (hI.world hE hW) (Aw hI.ng hI.size) (hG.mono hI.le0) hyn hY2 hB hJ (fun c hc=>⟨(hlow c (h01 c hc)).1,hI.lowng (hlow c (h01 c hc)).2,fun j hj=>(hlb j c hj).2 hc⟩) hbl.symm rfl hargs hr
        have hva:(c.args.toList.map a.eval ++ vs).toArray=c.args.map a.eval ++ vs.toArray:=by apply Eh;simp
        rw [hva]at hcall
        have hrun:(execOp a.eval o).run en.P M.w=(callFunc fid (c.args.map a.eval ++ vs.toArray)).run en.P M.w:=by
         rw [<-dT (t:=o.type) hc he M.w];simp only [execOp,ho]
        refine uG (R:=fun v w'=>∃U' f',H8 M ⟨w',U',M.y⟩ X2.fp/\kJ ⟨w',U',M.y⟩ X2.lb NG bs'/\bs'.length=bs.length/\X.J o' ⟨w',U',M.y⟩ f'/\(∀c,f' c->(f0 c\/M.w.heap.size<=c)/\c < w'.heap.size)/\C1 ⟨w',U',M.y⟩ X2.lb r v) hrun (.inr hcall) ?_;intro v w' ⟨U',f',g1,g2,g3,g4,g5,g6⟩;exact hn _ ⟨w',U',M.y⟩ β κ (hI.iback hbs h01 hmk hlow hfβ hfκ g1 g2 (g3.trans hbl) g4 g5 g6 h hst)
       ·cases h
      ·cases h
 ·rename_i hx;split at h
  ·rename_i k y hy;unfold kX at h;split at h
   ·rename_i bs xs hbs hxs;rw [hE.ynat k y hy]at h;obtain⟨⟨bs',o',b⟩,hr,h⟩:=A6 h;intro X a M β κ hI hG hW st' hst ro next Q hn;have hY:=hW.y k y hy;obtain rfl:=hY.nl;have hx':=(hI.ev hG 0 x).1;rw [hx]at hx';have hx':a.eval x=.func (.yield M.y.l) #[] #[]:=hx';have hargs:=eY hI hG c.args.toList c.argTypes.toList;have hargs:=O2 (V3 (fH (β:=β)) 4) hxs hargs;obtain⟨bs0,hb0,hb1⟩:=fJ hbs;have hB:=A16 hI kU hb0 hb1;obtain⟨f,f0,hJ,h01,hmk,hlow,hfβ,hfκ⟩:=hI.out.ex
    have hbl:bs.length=X.nl:=by rw [eC hbs,aQ]
    have hlb:∀j b,G0 β (E9 st.ρ.length X.nl) j=some b->X.lb j=some b/\¬f0 b:=fun j b hj=>by
     obtain⟨id,q1,q2⟩:=D2 hj;obtain⟨q3,q4⟩:=oU q1;refine⟨?_,fun hf=>hfβ id b q2 (h01 b hf)⟩;rcases hI.out.lent id b q2 with⟨j',e1,e2,e3⟩ |⟨_,e2⟩
     ·have:j'=j:=by omega
      rw [<-this];exact e3
     ·exact(e2 j (As q3 X.nlp) q4).elim
    obtain⟨fn,tmps,assign,body,hy1,hy2⟩:=hY.call M _ bs st.out xs _ bs' o' b f0 hI.mv hJ (fun c hc=>hlow c (h01 c hc)) hB hbl hlb hargs hr
    have hva:(c.args.toList.map a.eval).toArray=c.args.map a.eval:=by apply Eh;simp
    rw [hva]at hy1
    have hrun:(execOp a.eval o).run en.P M.w=.ok (.round M.y.l fn tmps assign body) M.w:=by
     rw [<-hy1];simp [execOp,ho,resolve,hc,invoke,Deferred.ofValue,hx']
    refine D1n hrun (hy2.mono ?_)
    rintro e w' ⟨rfl,U',f',g1,g2,g3,g4,g5⟩
    exact⟨_,rfl,hn _ ⟨w',U',M.y⟩ β κ (hI.iback hbs h01 hmk hlow hfβ hfκ g1 g2 g3 g4 g5 (show C1 _ _ (.bool b) (.bool b)from rfl) h hst)⟩
   ·cases h
  ·cases h
 ·cases h
theorem F1k (hE:aE en NG W)(E4:A5f en.P o=true){act:C7}(h:A9 en st o some=some act):rZ en NG W st o act:=by
 unfold A5f at E4
 cases ho:o.op with
 |move x=>exact C9d ho h
 |assign x=>exact B8m ho h
 |pick c x y=>exact D4u ho h
 |alloc t=>exact C5v ho h
 |box t x=>exact E4a ho h
 |build t ps=>rw[ho]at E4;exact C5k ⟨E4⟩ ho h
 |buildSlice t n ps=>rw[ho]at E4;exact A2p ⟨E4⟩ ho h
 |load t x =>
  rw[ho]at E4;simp only[Ae,Cc,beq_iff_eq]at E4;have hT:G5 en.P t:=⟨E4.1⟩;obtain⟨d,hd⟩:=hT.un;exact D61 hT ho (aR hd) (fun hn=>E4.2.resolve_left (by simp[hn])) h
 |store t x y =>
  rw[ho]at E4;have hT:G5 en.P t:=⟨E4⟩;obtain⟨d,hd⟩:=hT.un;exact C7e hT ho (aR hd) h
 |nilCheck x=>exact A8w ho h
 |binOp op t x y yt=>exact C6b ho h
 |unOp op t x=>exact D48 ho h
 |convert s d x=>exact B21 ho h
 |makeInterface t x =>
  rw[ho]at E4;have hT:G5 en.P t:=⟨E4⟩;obtain⟨d,hd⟩:=hT.un;exact vP hT ho (aR hd) h
 |makeSlice t l c=>rw[ho]at E4;exact A53 ⟨E4⟩ ho h
 |slice t x lo hi mx=>rw[ho]at E4;exact C65 ho (fun e he=>(G5.mk E4).sl e he) h
 |fieldAddr t x f=>rw[ho]at E4;exact A4z ⟨E4⟩ ho h
 |field t x f=>rw[ho]at E4;exact C4z ⟨E4⟩ ho h
 |indexAddr t x y=>rw[ho]at E4;exact A52 ⟨E4⟩ ho h
 |index t x y=>rw[ho]at E4;exact C6e ⟨E4⟩ ho h
 |extract x i=>exact B37 ho h
 |makeFunc fn first caps=>exact A86 ho h
 |call c =>
  rw[ho]at E4
  cases hc:c.callee with
  |value x=>exact D1w hE ho hc h
  |builtin b=>exact B5i (fun t ht=>⟨by simp only[ht]at E4;exact E4⟩) ho hc h
  |invoke r m=>simp[A9,ho,hc]at h
 |_=>simp[A9,ho]at h
end
end Go.Proofs.YtkpfigikffphdaaGreatDoor
namespace Go.Proofs.YtkpfigikffphdaaGreatDoor
open Go.RowKit
def T2 (ops:Array Oper)(o:Oper)(st:St):Option Bool :=
 match o.guard with
 |none=>some true
 |some (j,want)=>
  match(ops[j]?).bind (·.dst)with
  |none=>some false
  |some t =>
   match st.ρ[t]? with
   |some (.bool b,_)=>some (b==want)
   |some (.tuple [],_)=>some false
   |_=>none
def jO (en:K6)(ops:Array Oper)(o:Oper)(act:C7)(st st1:St):Prop :=
 (T2 ops o st=some true/\A9 en st o some=some act/\B0 act o.dst st=some st1)\/(T2 ops o st=some false/\act=.skip/\st1=O4 o.dst (.tuple [],0) st)
theorem B28 {α:Type}:∀{l:List α} {t:Nat} {x:α},l[t]? =some x->l.set t x=l
 |[],t,x,h=>by simp at h
 |a::l,0,x,h=>by simp at h;subst h;rfl
 |a::l,t+1,x,h=>by simp at h;simp[B28 h]
def jF (en:K6)(ops:Array Oper):List Oper->List C7->St->St->Prop
 |[],[],st,st'=>st=st'
 |o::rest,act::acts,st,st'=>∃st1,jO en ops o act st st1/\jF en ops rest acts st1 st'
 |_,_,_,_=>False
section
variable {en:K6} {NG:Nat} {W:World->Prop}
theorem B60 {X:Cx}{st:St}{a:Act}{M:C4}{β κ:Nat->Option Nat}(hI:I0 NG X st a M β κ){ops:Array Oper}{o:Oper}{b:Bool}(h:T2 ops o st=some b):Region.wanted o (yielded ops a.tmps)=b:=by
 unfold T2 at h;unfold Region.wanted;split at h
 ·rename_i hg;rw[hg];injection h
 ·rename_i j want hg;rw[hg];simp only;unfold yielded;split at h
  ·rename_i hd;rw[hd]
   cases h
   cases want<;>rfl
  ·rename_i t hd;rw[hd];simp only[Option.bind_some];split at h
   ·rename_i b' c hb;obtain⟨v,h1,h2,_⟩:=hI.slot t _ hb;have h2:=iW h2;rw[h1,h2]
    cases h
    cases b'<;>cases want<;>rfl
   ·rename_i c hb;obtain⟨v,h1,h2,_⟩:=hI.slot t _ hb;have h2:B7 M (.tuple []) v:=h2;simp only[B7,K9]at h2;obtain⟨vs,h2,rfl⟩:=h2;rw[h1,h2]
    cases h
    cases want<;>rfl
   ·cases h
theorem B5o {M:C4}{β:Nat->Option Nat}:C1 M β (.tuple []) undef:=by
 show B7 M (.tuple []) _;simp only[B7,K9];exact⟨[],rfl,rfl⟩
theorem A2v (hE:aE en NG W){X:Cx}{st st1:St}{a:Act}{M:C4}{β κ:Nat->Option Nat}(hI:I0 NG X st a M β κ)(hG:gO en X.M0)(hW:Amb en NG W X){ops:Array Oper}{o:Oper}(E4:A5f en.P o=true){act:C7}(h:jO en ops o act st st1)
  {ro:Option Nat} {Q:Exit->Act->World->Prop} {K:Act->World->Prop} (hn:∀a' M' β' κ',I0 NG X st1 a' M' β' κ'->K a' M'.w) :
  if Region.wanted o (yielded ops a.tmps)then o.wpIn (FR ro) 0 en.P a M.w K Q else(∀f,o.about en.P M.w a.eval=some f->(FR ro).fn f)/\K (a.put o.dst undef) M.w:=by
 rcases h with⟨hg,h1,h2⟩|⟨hg,rfl,rfl⟩
 ·rw[B60 hI hg];simp only[if_true];exact F1k hE E4 h1 X a M β κ hI hG hW st1 h2 ro K Q hn
 ·rw[B60 hI hg];simp only[Bp,if_false];exact⟨fun _ _=>trivial,hn _ M β κ (hI.put o.dst (x:=(.tuple [],0)) B5o (.inl rfl))⟩
theorem C3i (hE:aE en NG W){X:Cx}(hG:gO en X.M0)(hW:Amb en NG W X){ops:Array Oper}{ro:Option Nat}{Q:Exit->Act->World->Prop}:∀(rest:List Oper) (acts:List C7) (st st':St),jF en ops rest acts st st'->(∀o∈rest,A5f en.P o=true)->
  ∀(a:Act) (M:C4) (β κ:Nat->Option Nat),I0 NG X st a M β κ->(∀a' M' β' κ',I0 NG X st' a' M' β' κ'->Q .normal a' M'.w)->wpListIn (FR ro) 0 en.P ops Q rest a M.w
 |[],[],st,st',h,_,a,M,β,κ,hI,hn=>by
  simp only[jF]at h;subst h;exact hn a M β κ hI
 |o::rest,act::acts,st,st',h,E4,a,M,β,κ,hI,hn=>by
  obtain⟨st1,h1,h2⟩:=h;unfold wpListIn;exact A2v hE hI hG hW (E4 o (by simp)) h1 fun a' M' β' κ' hI'=>C3i hE hG hW rest acts st1 st' h2 (fun o ho=>E4 o (by simp[ho])) a' M' β' κ' hI' hn
 |[],_::_,_,_,h,_,_,_,_,_,_,_=>h.elim
 |_::_,[],_,_,h,_,_,_,_,_,_,_=>h.elim
end
section
variable {en:K6} {ops:Array Oper}
def D7h (en:K6)(ops:Array Oper)(acts:Nat->C7)(Q:St->Prop):Nat->Array Bool->St->Prop
 |0,listed,st=>Region.ready .any ops listed=[]/\Q st
 |fuel+1,listed,st=>(Region.ready .any ops listed=[]->Q st)/\∀i∈Region.ready .any ops listed,∀o,ops[i]? =some o->∃st1,jO en ops o (acts i) st st1/\D7h en ops acts Q fuel (listed.setIfInBounds i true) st1
theorem C38 {NG:Nat}{W:World->Prop}(hE:aE en NG W){X:Cx}(hG:gO en X.M0)(hW:Amb en NG W X){ro:Option Nat}{Q:Exit->Act->World->Prop}{acts:Nat->C7}{PQ:St->Prop}(E4:∀o∈ops.toList,A5f en.P o=true)
  (hQ:∀st a M β κ,PQ st->I0 NG X st a M β κ->Q .normal a M.w):∀(fuel:Nat) (listed:Array Bool) (st:St),D7h en ops acts PQ fuel listed st->
  ∀(a:Act) (M:C4) (β κ:Nat->Option Nat),I0 NG X st a M β κ->wpAnyIn (FR ro) 0 en.P .any ops Q fuel listed a M.w
 |0,listed,st,h,a,M,β,κ,hI=>⟨h.1,hQ _ _ _ _ _ h.2 hI⟩
 |fuel+1,listed,st,h,a,M,β,κ,hI=>by
  refine⟨fun h0=>hQ _ _ _ _ _ (h.1 h0) hI,fun i hi=>?_⟩;unfold wpOpIn;split
  ·rename_i hn;obtain⟨_,oj,hoj,_⟩:=mem_ready.1 hi;rw[hoj]at hn
   cases hn
  ·rename_i o ho;obtain⟨st1,h1,h2⟩:=h.2 i hi o ho;exact A2v hE hI hG hW (E4 o (Dh.2 (Array.mem_of_getElem? ho))) h1 fun a' M' β' κ' hI'=>C38 hE hG hW E4 hQ fuel _ st1 h2 a' M' β' κ' hI'
theorem wP {st st':St}{x:Operand}(h:∀t,x=.tmp t->st.ρ[t]? =st'.ρ[t]?)(t:TypeId):ev en st t x=ev en st' t x:=by
 cases x with
 |tmp u=>simp only[ev,List.getD,h u rfl]
 |_=>rfl
theorem iM {st st':St}:∀(l:List Operand) (ts:List TypeId),(∀x∈l,∀t,ev en st t x=ev en st' t x)->H5 en st l ts=H5 en st' l ts
 |[],_,_=>rfl
 |x::l,ts,h=>by
  simp only[H5];rw[h x (by simp),iM l ts.tail (fun y hy=>h y (by simp[hy]))]
theorem fI {st st':St}{place:Nat->Option (Nat×Nat×TypeId)}:∀(l:List (Nat×Operand)),(∀p∈l,∀t,ev en st t p.2=ev en st' t p.2)->J9 en st place l=J9 en st' place l
 |[],_=>rfl
 |(i,x)::l,h=>by
  simp only[J9];rw[fI l (fun p hp=>h p (by simp[hp]))];split
  ·rw[h (i,x) (by simp)]
  ·rfl
theorem mS {st st':St}{place:Nat->Option (Nat×Nat×TypeId)}:∀(l:List (Nat×Operand)),(∀p∈l,∀t,ev en st t p.2=ev en st' t p.2)->L5 en st place l=L5 en st' place l
 |[],_=>rfl
 |(i,x)::l,h=>by
  simp only[L5];rw[mS l (fun p hp=>h p (by simp[hp]))];split
  ·rw[h (i,x) (by simp)]
  ·rfl
structure sP (st st':St):Prop where
 bx:st.bx=st'.bx
 len:st.ρ.length=st'.ρ.length
 out:st.out=st'.out
theorem sP.refl (st:St):sP st st:=⟨rfl,rfl,rfl⟩
theorem pR {R:Type}{st st':St}{o:Oper}(h:∀x∈o.op.operands,∀t,ev en st t x=ev en st' t x)(hb:sP st st')(k:C7->Option R):A9 en st o k=A9 en st' o k:=by
 unfold A9;obtain⟨dst,op,ty,pos,after,guard⟩:=o
 cases op<;>simp only[Op.operands]at h<;>simp only
 case call c =>
  have hargs:=iM (en:=en) (st:=st) (st':=st') c.args.toList c.argTypes.toList (fun x hx=>h x (by simp[Call.operands];right;exact Dh.1 hx))
  cases hc:c.callee with
  |value f =>
   have hf:=h f (by simp[Call.operands,hc]);simp only[hf,hargs,hb.bx,kO,kX,kM,hb.len,hb.out]
  |builtin b=>simp only[hargs]
  |invoke r m=>rfl
 case build t ps =>
  have hp:=fun place=>fI (en:=en) (st:=st) (st':=st') (place:=place) ps.toList (fun p hp=>h p.2 (by simp;exact⟨p.1,by simpa using hp⟩));have hq:=fun place=>mS (en:=en) (st:=st) (st':=st') (place:=place) ps.toList (fun p hp=>h p.2 (by simp;exact⟨p.1,by simpa using hp⟩));simp only[hp,hq]
 case makeFunc fn first caps =>
  have hc:(caps.toList.map fun x=>(ev en st 0 x).1)=caps.toList.map fun x=>(ev en st' 0 x).1:=Dk fun x hx=>by rw[h x (by simp;exact .inr (by simpa using hx))]
  have hf:(first.toList.map fun x=>(ev en st 0 x).1)=first.toList.map fun x=>(ev en st' 0 x).1:=Dk fun x hx=>by rw[h x (by simp;exact .inl (by simpa using hx))]
  simp only[hc,hf]
 case buildSlice t n ps =>
  have hp:=fun place=>fI (en:=en) (st:=st) (st':=st') (place:=place) ps.toList (fun p hp=>h p.2 (by simp;exact⟨p.1,by simpa using hp⟩));simp only[hp]
 case slice t x lo hi mx =>
  have hx:=h x (by simp)
  have hlo:(lo.map fun y=>(ev en st 0 y).1)=lo.map fun y=>(ev en st' 0 y).1:=by cases lo<;>simp;rw[h _ (by simp)]
  have hhi:(hi.map fun y=>(ev en st 0 y).1)=hi.map fun y=>(ev en st' 0 y).1:=by cases hi<;>simp;rw[h _ (by simp)]
  have hmx:(mx.map fun y=>(ev en st 0 y).1)=mx.map fun y=>(ev en st' 0 y).1:=by cases mx<;>simp;rw[h _ (by simp)]
  simp only[hx,hlo,hhi,hmx]
 all_goals first
  |rfl
  |(simp only[h _ (by simp)])
  |(simp[h])
end
end Go.Proofs.YtkpfigikffphdaaGreatDoor
namespace Go.Proofs.YtkpfigikffphdaaGreatDoor
open Go.RowKit
section
variable {en:K6} {ops:Array Oper}
theorem rE {o:Oper}{t:Tmp}(h:(.tmp t:Operand)∈o.op.operands):t∈o.looksAt ops:=by
 unfold Oper.looksAt;rw[List.mem_append];left;rw[El];exact⟨.tmp t,Dh.2 h,rfl⟩
theorem B2b {o:Oper}{j:Nat}{want:Bool}{t:Tmp}(hg:o.guard=some (j,want))(hd:(ops[j]?).bind (·.dst)=some t):t∈o.looksAt ops:=by
 unfold Oper.looksAt;rw[List.mem_append];right;simp[hg,hd]
theorem uU {o:Oper}{st st':St}(h:∀t∈o.looksAt ops,(st.ρ[t]?).map (·.1)=(st'.ρ[t]?).map (·.1)):T2 ops o st=T2 ops o st':=by
 unfold T2;split
 ·rfl
 ·rename_i j want hg;rcases hd:(ops[j]?).bind (·.dst)with _|t
  ·rfl
  ·have:=h t (B2b hg hd);simp only;rcases h1:st.ρ[t]? with _|⟨x,c⟩<;>rcases h2:st'.ρ[t]? with _|⟨y,d⟩<;>rw[h1,h2]at this<;>simp at this
   all_goals first
    |rfl
    |(subst this;cases x<;>first|rfl|(rename_i l;cases l<;>rfl))
theorem A55 {R:Type}{o:Oper}{st st':St}(h:∀t∈o.looksAt ops,st.ρ[t]? =st'.ρ[t]?)(hb:sP st st')(k:C7->Option R):A9 en st o k=A9 en st' o k :=
 pR (fun x hx t=>wP (fun u hu=>h u (rE (ops:=ops) (by rw[<-hu];exact hx))) t) hb k
def oE:C7->Bool
 |.hcall _ _ _ _ _=>false
 |.cons _ _ _=>false
 |_=>true
theorem D5g {bx:List (Option (List TV))}{ids:List Nat}{dst:Option Tmp}{bs:List (List PV)}{v:PV}{act:C7}(h:kR bx ids dst bs v some=some act):oE act=false:=by
 unfold kR at h;split at h
 ·obtain⟨_,h⟩:=A5 h;split at h
  ·injection h with h;subst h;rfl
  ·cases h
 ·obtain⟨_,h⟩:=A5 h;split at h
  ·split at h
   ·injection h with h;subst h;rfl
   ·injection h with h;subst h;rfl
  ·cases h
theorem B4j {ids:List Nat}{bs:List (List PV)}{o:kC}{v:PV}{act:C7}(h:kF ids bs o v some=some act):oE act=false:=by
 unfold kF at h;obtain⟨_,h⟩:=A5 h;split at h
 ·injection h with h;subst h;rfl
 ·cases h
theorem wI {bx:List (Option (List TV))}{dst:Option Tmp}{p:H7}(hp:p.nat){xs:List PV}{act:C7}(h:aX bx dst p xs some=some act):oE act=false:=by
 unfold aX at h;split at h
 ·obtain⟨_,h⟩:=A5 h;split at h
  ·split at h
   ·rw[hp]at h;obtain⟨r,_,h⟩:=A6 h;exact D5g h
   ·cases h
  ·cases h
 ·cases h
theorem B4x {dst:Option Tmp}{p:NFn}(hp:p.nat){xs:List PV}{act:C7}(h:oO dst p xs some=some act):oE act=false:=by
 unfold oO at h;split at h
 ·rw[hp]at h;obtain⟨r,_,h⟩:=A6 h;injection h with h;subst h;rfl
 ·cases h
theorem B19 {st:St}{dst:Option Tmp}{p:CFn}(hp:p.nat){xs:List PV}{act:C7}(h:kM st dst p xs some=some act):oE act=false:=by
 unfold kM at h;split at h
 ·split at h
  ·obtain⟨_,h⟩:=A5 h;rw[hp]at h;obtain⟨r,_,h⟩:=A6 h;obtain⟨_,h⟩:=B8 h;injection h with h;subst h;rfl
  ·cases h
 ·cases h
theorem B2l {st:St}{k:Nat}{y:YFn}{p:IFn}(hp:p.nat){xs:List PV}{act:C7}(h:kO st k y p xs some=some act):oE act=false:=by
 unfold kO at h;split at h
 ·rw[hp]at h;obtain⟨r,_,h⟩:=A6 h;exact B4j h
 ·cases h
theorem B3j {st:St}{k:Nat}{y:YFn}(hy:y.nat){xs:List PV}{act:C7}(h:kX st k y xs some=some act):oE act=false:=by
 unfold kX at h;split at h
 ·rw[hy]at h;obtain⟨r,_,h⟩:=A6 h;exact B4j h
 ·cases h
theorem oD {st st':St}{o:Oper}(hc:¬∃c f,o.op=.call c/\c.callee=.value f)(h:∀x∈o.op.operands,∀t,ev en st t x=ev en st' t x):A9 en st' o (R:=C7) some=A9 en st o some:=by
 have key:∀st'':St,(∀x∈o.op.operands,∀t,ev en st'' t x=ev en st t x)->sP st'' st''->A9 en st' o some=A9 en st'' o (R:=C7) some:=by
  intro st'' h'' _;have e:∀x∈o.op.operands,∀t,ev en st' t x=ev en st'' t x:=fun x hx t=>(h x hx t).symm.trans (h'' x hx t).symm;unfold A9;obtain⟨dst,op,ty,pos,after,guard⟩:=o
  cases op<;>simp only[Op.operands]at e<;>simp only
  case call c =>
   have hargs:=iM (en:=en) (st:=st') (st':=st'') c.args.toList c.argTypes.toList (fun x hx=>e x (by simp[Call.operands];right;exact Dh.1 hx))
   cases hcc:c.callee with
   |value f=>exact(hc ⟨c,f,rfl,hcc⟩).elim
   |builtin b=>simp only[hargs]
   |invoke r m=>rfl
  case build t ps =>
   have hp:=fun place=>fI (en:=en) (st:=st') (st':=st'') (place:=place) ps.toList (fun p hp=>e p.2 (by simp;exact⟨p.1,by simpa using hp⟩));have hq:=fun place=>mS (en:=en) (st:=st') (st':=st'') (place:=place) ps.toList (fun p hp=>e p.2 (by simp;exact⟨p.1,by simpa using hp⟩));simp only[hp,hq]
  case makeFunc fn first caps =>
   have hc:(caps.toList.map fun x=>(ev en st' 0 x).1)=caps.toList.map fun x=>(ev en st'' 0 x).1:=Dk fun x hx=>by rw[e x (by simp;exact .inr (by simpa using hx))]
   have hf:(first.toList.map fun x=>(ev en st' 0 x).1)=first.toList.map fun x=>(ev en st'' 0 x).1:=Dk fun x hx=>by rw[e x (by simp;exact .inl (by simpa using hx))]
   simp only[hc,hf]
  case buildSlice t n ps =>
   have hp:=fun place=>fI (en:=en) (st:=st') (st':=st'') (place:=place) ps.toList (fun p hp=>e p.2 (by simp;exact⟨p.1,by simpa using hp⟩));simp only[hp]
  case slice t x lo hi mx =>
   have hx:=e x (by simp)
   have hlo:(lo.map fun y=>(ev en st' 0 y).1)=lo.map fun y=>(ev en st'' 0 y).1:=by cases lo<;>simp;rw[e _ (by simp)]
   have hhi:(hi.map fun y=>(ev en st' 0 y).1)=hi.map fun y=>(ev en st'' 0 y).1:=by cases hi<;>simp;rw[e _ (by simp)]
   have hmx:(mx.map fun y=>(ev en st' 0 y).1)=mx.map fun y=>(ev en st'' 0 y).1:=by cases mx<;>simp;rw[e _ (by simp)]
   simp only[hx,hlo,hhi,hmx]
  all_goals first
   |rfl
   |(simp only[e _ (by simp)])
   |(simp[e])
 exact key st (fun _ _ _=>rfl) (sP.refl st)
theorem wS (hE:en.nat){st st':St}{o:Oper}(h:∀x∈o.op.operands,∀t,ev en st t x=ev en st' t x){act:C7}(hn:oE act=true)(ha:A9 en st o some=some act):A9 en st' o some=some act:=by
 by_cases hc:∃c f,o.op=.call c/\c.callee=.value f
 ·obtain⟨c,f,ho,hf⟩:=hc;have hargs:=iM (en:=en) (st:=st) (st':=st') c.args.toList c.argTypes.toList (fun x hx=>h x (by rw[ho];simp[Op.operands,Call.operands];right;exact Dh.1 hx));have hff:=h f (by rw[ho];simp[Op.operands,Call.operands,hf]);simp only[A9,ho,hf,<-hff,<-hargs]at ha ⊢;split at ha
  ·split at ha
   ·split at ha
    ·rename_i p hp;have:=wI (hE.h _ _ hp) ha;rw[hn]at this;cases this
    ·cases ha
   rename_i hge;rw[if_neg hge];split at ha
   ·exact ha
   ·split at ha
    ·rename_i p hp;have:=wI (hE.h _ _ hp) ha;rw[hn]at this;cases this
    ·split at ha
     ·rename_i p hp;obtain⟨_,ha⟩:=A5 ha;have:=B4x (hE.n _ _ hp) ha;rw[hn]at this;cases this
     ·split at ha
      ·rename_i p hp;have:=B19 (hE.c _ _ hp) ha;rw[hn]at this;cases this
      ·split at ha
       ·rename_i p k y hp hy;have:=B2l (hE.i _ _ hp) ha;rw[hn]at this;cases this
       ·cases ha
  ·split at ha
   ·rename_i k y hy;have:=B3j (hE.y _ _ hy) ha;rw[hn]at this;cases this
   ·cases ha
  ·cases ha
 ·rw[<-ha];exact oD hc h
def C74 (bx bx':List (Option (List TV))):Prop:=bx'.length=bx.length/\∀(id:Nat) (cs:List TV),bx[id]? =some (some cs)->bx'[id]? =some (some cs)
theorem tY {bx bx':List (Option (List TV))}(h:C74 bx bx'){id:Nat}{c:List PV}(hc:cF bx id=some c):cF bx' id=some c:=by
 unfold cF at hc ⊢;split at hc
 ·rename_i cs hcs;rw[h.2 id cs hcs];exact hc
 ·cases hc
theorem A0g {α β:Type}{f g:α->Option β}(h:∀x y,f x=some y->g x=some y):∀{l:List α} {r:List β},F7 f l=some r->F7 g l=some r
 |[],r,hr=>hr
 |x::l,r,hr=>by
  simp only[F7]at hr ⊢;split at hr
  ·rename_i y hy;split at hr
   ·rename_i ys hys;rw[h x y hy,A0g h hys];exact hr
   ·cases hr
  ·cases hr
theorem xI {bx bx':List (Option (List TV))}(h:C74 bx bx'):∀(n:Nat) (todo seen ids:List Nat),mN bx n todo seen=some ids->mN bx' n todo seen=some ids
 |0,_,_,_,hr=>hr
 |n+1,[],_,_,hr=>hr
 |n+1,id::todo,seen,ids,hr=>by
  simp only[mN]at hr ⊢;split at hr
  ·rename_i hs;rw[if_pos hs];exact xI h n _ _ _ hr
  ·rename_i hs;rw[if_neg hs];split at hr
   ·rename_i cs hcs;rw[tY h hcs];exact xI h n _ _ _ hr
   ·cases hr
theorem A7j {bx bx':List (Option (List TV))}(h:C74 bx bx'){dst:Option Tmp}{p:H7}{xs:List PV}{act:C7}(hr:aX bx dst p xs some=some act):aX bx' dst p xs some=some act:=by
 unfold aX kR at hr ⊢;rw[h.1];split at hr
 ·rename_i ids hids;rw[xI h _ _ _ _ hids];simp only;split at hr
  ·rename_i hd;rw[if_pos hd];split at hr
   ·rename_i bs0 xs0 hbs hxs;rw[A0g (fun x y=>tY h) hbs];simp only[hxs];exact hr
   ·cases hr
  ·cases hr
 ·cases hr
theorem A69 {bx bx':List (Option (List TV))}(h:C74 bx bx'){ids:List Nat}{bs:List (List PV)}(hr:dO bx ids=some bs):dO bx' ids=some bs:=by
 unfold dO at hr ⊢;split at hr
 ·rename_i bs0 hbs;rw[A0g (fun x y=>tY h) hbs];exact hr
 ·cases hr
theorem D2x {bx bx':List (Option (List TV))}(h:C74 bx bx'){id:Nat}{xs:List PV}(hr:sF bx id=some xs):sF bx' id=some xs:=by
 unfold sF at hr ⊢;split at hr
 ·rename_i cs hcs;rw[h.2 id cs hcs];exact hr
 ·cases hr
theorem B58 {st st':St}{o:Oper}(hb:C74 st.bx st'.bx)(hl:st'.ρ.length=st.ρ.length)(hout:st'.out=st.out)(h:∀x∈o.op.operands,∀t,ev en st t x=ev en st' t x){act:C7}(ha:A9 en st o some=some act):A9 en st' o some=some act:=by
 by_cases hc:∃c f,o.op=.call c/\c.callee=.value f
 ·obtain⟨c,f,ho,hf⟩:=hc;have hargs:=iM (en:=en) (st:=st) (st':=st') c.args.toList c.argTypes.toList (fun x hx=>h x (by rw[ho];simp[Op.operands,Call.operands];right;exact Dh.1 hx));have hff:=h f (by rw[ho];simp[Op.operands,Call.operands,hf]);simp only[A9,ho,hf,<-hff,<-hargs]at ha ⊢;split at ha
  ·split at ha
   ·rename_i hge;rw[if_pos hge];split at ha
    ·exact A7j hb ha
    ·cases ha
   ·rename_i hge;rw[if_neg hge];split at ha
    ·exact ha
    ·split at ha
     ·exact A7j hb ha
     ·split at ha
      ·exact ha
      ·split at ha
       ·unfold kM at ha ⊢;rw[hl];split at ha
        ·split at ha
         ·rename_i cells hcells;rw[D2x hb hcells];exact ha
         ·cases ha
        ·cases ha
       ·split at ha
        ·unfold kO at ha ⊢;rw[hl,hout];split at ha
         ·rename_i bs xs hbs hxs;rw[A69 hb hbs];simp only[hxs];exact ha
         ·cases ha
        ·cases ha
  ·split at ha
   ·unfold kX at ha ⊢;rw[hl,hout];split at ha
    ·rename_i bs xs hbs hxs;rw[A69 hb hbs];simp only[hxs];exact ha
    ·cases ha
   ·cases ha
  ·cases ha
 ·rw[<-ha];exact oD hc h
theorem F1q {st st':St}{x:Operand}(h:∀t,x=.tmp t->(st.ρ[t]?).map (·.1)=(st'.ρ[t]?).map (·.1))(t:TypeId):(ev en st t x).1=(ev en st' t x).1:=by
 cases x with
 |tmp u =>
  have:=h u rfl;simp only[ev,List.getD];rcases h1:st.ρ[u]? with _|⟨x,c⟩<;>rcases h2:st'.ρ[u]? with _|⟨y,d⟩<;>rw[h1,h2]at this<;>simp at this
  all_goals first|rfl|exact this
 |_=>rfl
theorem A1s {st st':St}:∀(l:List Operand) (ts:List TypeId),(∀x∈l,∀t,(ev en st t x).1=(ev en st' t x).1)->(H5 en st l ts).map (·.1)=(H5 en st' l ts).map (·.1)
 |[],_,_=>rfl
 |x::l,ts,h=>by
  simp only[H5,Cb];rw[h x (by simp),A1s l ts.tail (fun y hy=>h y (by simp[hy]))]
theorem A2f {x y:TV}(h:x.1=y.1):(eE x).map (List.map (·.1))=(eE y).map (List.map (·.1)):=by
 obtain⟨x,c⟩:=x;obtain⟨y,d⟩:=y;simp only at h;subst h
 cases x<;>simp[eE]
theorem yS {xs ys:List TV}(h:xs.map (·.1)=ys.map (·.1)):aF xs=aF ys:=by
 have:∀zs:List TV,aF zs=(zs.map (·.1)).all PV.data:=fun zs=>by simp[aF,List.all_map,Function.comp_def]
 rw[this,this,h]
theorem xY {st st':St} {place:Nat->Option (Nat × Nat × TypeId)}:∀(l:List (Nat × Operand)),(∀p∈ l,∀t,(ev en st t p.2).1=(ev en st' t p.2).1)->J9 en st place l=J9 en st' place l
 | [],_=>rfl
 |(i,x) ::l,h=>by
  simp only [J9];rw [xY l (fun p hp=>h p (by simp [hp]))];split
  ·rename_i off sz t hpl;have hp:=A2f (h (i,x) (by simp) t);rcases h1:eE (ev en st t x)with _ |cs<;>rcases h2:eE (ev en st' t x)with _ |ds<;>rw [h1,h2]at hp<;>simp at hp
   all_goals first
    |rfl
    |(have hl:cs.length=ds.length:=by have:=congrArg Bn hp;simpa using this
      simp only [hl,yS hp,hp])
  ·rfl
theorem A49 {st st':St} {place:Nat->Option (Nat × Nat × TypeId)}:∀(l:List (Nat × Operand)),(∀p∈ l,∀t,(ev en st t p.2).1=(ev en st' t p.2).1)->L5 en st place l=L5 en st' place l
 | [],_=>rfl
 |(i,x) ::l,h=>by
  simp only [L5];rw [A49 l (fun p hp=>h p (by simp [hp]))];split
  ·rename_i off sz t hpl;have hp:=A2f (h (i,x) (by simp) t);rcases h1:eE (ev en st t x)with _ |cs<;>rcases h2:eE (ev en st' t x)with _ |ds<;>rw [h1,h2]at hp<;>simp at hp
   all_goals first
    |rfl
    |(have hl:cs.length=ds.length:=by have:=congrArg Bn hp;simpa using this
      simp only [hl,hp])
  ·rfl
theorem rX (hE:en.nat){st st':St}{o:Oper}(hf:R9 en.P o=true)(h:∀x∈o.op.operands,∀t,(ev en st t x).1=(ev en st' t x).1){act:C7}(hn:oE act=true)(ha:A9 en st o some=some act):A9 en st' o some=some act:=by
 by_cases hcv:∃c f,o.op=.call c/\c.callee=.value f
 ·obtain⟨c,f,ho,hcf⟩:=hcv;have hargs:=A1s (en:=en) (st:=st) (st':=st') c.args.toList c.argTypes.toList (fun x hx=>h x (by rw[ho];simp[Op.operands,Call.operands];right;exact Dh.1 hx));have hff:=h f (by rw[ho];simp[Op.operands,Call.operands,hcf]);simp only[A9,ho,hcf,<-hff,<-hargs,<-yS hargs]at ha ⊢;split at ha
  ·split at ha
   ·split at ha
    ·rename_i p hp;have:=wI (hE.h _ _ hp) ha;rw[hn]at this;cases this
    ·cases ha
   rename_i hge;rw[if_neg hge];split at ha
   ·exact ha
   ·split at ha
    ·rename_i p hp;have:=wI (hE.h _ _ hp) ha;rw[hn]at this;cases this
    ·split at ha
     ·rename_i p hp;obtain⟨_,ha⟩:=A5 ha;have:=B4x (hE.n _ _ hp) ha;rw[hn]at this;cases this
     ·split at ha
      ·rename_i p hp;have:=B19 (hE.c _ _ hp) ha;rw[hn]at this;cases this
      ·split at ha
       ·rename_i p k y hp hy;have:=B2l (hE.i _ _ hp) ha;rw[hn]at this;cases this
       ·cases ha
  ·split at ha
   ·rename_i k y hy;have:=B3j (hE.y _ _ hy) ha;rw[hn]at this;cases this
   ·cases ha
  ·cases ha
 rw[<-ha]
 symm
 clear ha hn;unfold R9 at hf;unfold A9;obtain⟨dst,op,ty,pos,after,guard⟩:=o
 cases op<;>simp only[Op.operands]at h<;>simp only at hf ⊢
 case move x =>
  simp only[Er,]at hf;rw[h x (by simp)];simp[hf]
 case assign x =>
  simp only[Er,]at hf;rw[h x (by simp)];simp[hf]
 case store t x y=>cases hf
 case box t x=>cases hf
 case call c =>
  have hargs:=A1s (en:=en) (st:=st) (st':=st') c.args.toList c.argTypes.toList (fun x hx=>h x (by simp[Call.operands];right;exact Dh.1 hx))
  cases hc:c.callee with
  |value f=>exact(hcv ⟨c,f,rfl,hc⟩).elim
  |builtin b =>
   rw[hc]at hf;simp only;generalize H5 en st c.args.toList c.argTypes.toList=xs at hargs ⊢;generalize H5 en st' c.args.toList c.argTypes.toList=ys at hargs ⊢
   have hlen:xs.length=ys.length:=by have:=congrArg Bn hargs;simpa using this
   match xs,ys,hlen with
   |[],[],_=>cases b<;>rfl
   |[x],[y],_ =>
    simp at hargs
    cases b<;>simp only[aP,hargs]
   |[x,x'],[y,y'],_ =>
    simp at hargs
    cases b<;>first|(cases hf;done)|simp only[aP,hargs.1,hargs.2]
   |[x,x',x''],[y,y',y''],_ =>
    simp at hargs
    cases b<;>first|(cases hf;done)|simp only[aP,hargs.1,hargs.2.1,hargs.2.2]
   |x::x'::x''::x3::xs,y::y'::y''::y3::ys,_ =>
    simp at hargs
    cases b<;>first|(cases hf;done)|(simp only[aP];done)|simp only[aP,Cb,hargs.1,hargs.2.1,hargs.2.2.1,hargs.2.2.2.1,hargs.2.2.2.2]
  |invoke r m=>rfl
 case build t ps =>
  have hp:=fun place=>xY (en:=en) (st:=st) (st':=st') (place:=place) ps.toList (fun p hp=>h p.2 (by simp;exact⟨p.1,by simpa using hp⟩));have hq:=fun place=>A49 (en:=en) (st:=st) (st':=st') (place:=place) ps.toList (fun p hp=>h p.2 (by simp;exact⟨p.1,by simpa using hp⟩));simp only[hp,hq]
 case makeFunc fn first caps =>
  have hc:(caps.toList.map fun x=>(ev en st 0 x).1)=caps.toList.map fun x=>(ev en st' 0 x).1:=Dk fun x hx=>by rw[h x (by simp;exact .inr (by simpa using hx))]
  have hf:(first.toList.map fun x=>(ev en st 0 x).1)=first.toList.map fun x=>(ev en st' 0 x).1:=Dk fun x hx=>by rw[h x (by simp;exact .inl (by simpa using hx))]
  simp only[hc,hf]
 case buildSlice t n ps =>
  have hp:=fun place=>xY (en:=en) (st:=st) (st':=st') (place:=place) ps.toList (fun p hp=>h p.2 (by simp;exact⟨p.1,by simpa using hp⟩));simp only[hp]
 case slice t x lo hi mx =>
  have hx:=h x (by simp)
  have hlo:(lo.map fun y=>(ev en st 0 y).1)=lo.map fun y=>(ev en st' 0 y).1:=by cases lo<;>simp;rw[h _ (by simp)]
  have hhi:(hi.map fun y=>(ev en st 0 y).1)=hi.map fun y=>(ev en st' 0 y).1:=by cases hi<;>simp;rw[h _ (by simp)]
  have hmx:(mx.map fun y=>(ev en st 0 y).1)=mx.map fun y=>(ev en st' 0 y).1:=by cases mx<;>simp;rw[h _ (by simp)]
  simp only[hx,hlo,hhi,hmx]
 case nilCheck x =>
  have hx:=h x (by simp) 0;generalize ev en st 0 x=u at hx ⊢;generalize ev en st' 0 x=v at hx ⊢;obtain⟨u,c⟩:=u;obtain⟨v,d⟩:=v;simp only at hx;subst hx
  cases u<;>rfl
 all_goals first
  |rfl
  |(simp only[h _ (by simp)])
  |(simp[h])
def xP (d:Option Tmp)(x:TV)(ρ:List TV):List TV:=match d with|some d=>ρ.set d x|none=>ρ
theorem cE (d:Option Tmp)(x:TV)(st:St):O4 d x st=⟨xP d x st.ρ,st.bx,st.out⟩:=by cases d<;>rfl
theorem eM {d e:Option Tmp}(h:∀t,d=some t->e≠some t)(x y:TV)(ρ:List TV):xP e y (xP d x ρ)=xP d x (xP e y ρ):=by
 cases d with
 |none=>rfl
 |some d=>cases e with
  |none=>rfl
  |some e=>exact Fg _ _ (fun he=>h d rfl (by rw[he]))
theorem B2a {d:Option Tmp}{x:TV}{ρ:List TV}{t:Nat}(h:d≠some t):(xP d x ρ)[t]? =ρ[t]? :=by
 cases d with
 |none=>rfl
 |some d=>exact Ay (fun e=>h (by rw[e]))
theorem C4l {c:Nat}{x:PV}{t:Nat}(h:t<=1):clr c (x,t)=(x,t):=by
 unfold clr;rw[if_neg (by simp only[Ae,decide_eq_true_eq];omega)]
theorem D8b (f:TV->TV)(d:Option Tmp)(x:TV)(ρ:List TV):(xP d x ρ).map f=xP d (f x) (ρ.map f):=by
 cases d with
 |none=>rfl
 |some d=>exact List.map_set
theorem B7z {act:C7}{d:Option Tmp}{st st1:St}(hv:∀id off cs,act≠.store id off cs)(hm:∀cs,act≠.mk cs)(ho:∀c v,act≠.own c v)(hh:∀ws n m v o,act≠.hcall ws n m v o)(hc:∀i c v,act≠.cons i c v):B0 act d st=some st1↔∃x,K8 act st.bx=some x/\st1=O4 d x st:=by
 cases act with
 |skip =>
  simp only[B0,Am];exact⟨fun⟨x,h,e⟩=>⟨x,h,e.symm⟩,fun⟨x,h,e⟩=>⟨x,h,e.symm⟩⟩
 |val v c =>
  simp only[B0,Am];exact⟨fun⟨x,h,e⟩=>⟨x,h,e.symm⟩,fun⟨x,h,e⟩=>⟨x,h,e.symm⟩⟩
 |load id off n agg =>
  simp only[B0,Am];exact⟨fun⟨x,h,e⟩=>⟨x,h,e.symm⟩,fun⟨x,h,e⟩=>⟨x,h,e.symm⟩⟩
 |store id off cs=>exact(hv _ _ _ rfl).elim
 |mk cs=>exact(hm _ rfl).elim
 |own c v=>exact(ho _ _ rfl).elim
 |hcall ws n m v o=>exact(hh _ _ _ _ _ rfl).elim
 |cons i c v=>exact(hc _ _ _ rfl).elim
theorem G6 {act:C7}(h:S1 act=true){d:Option Tmp}{st st1:St}:B0 act d st=some st1↔∃x,K8 act st.bx=some x/\st1=O4 d x st :=
 B7z (by cases act<;>simp_all [S1]) (by cases act<;>simp_all [S1]) (by cases act<;>simp_all [S1]) (by cases act<;>simp_all [S1]) (by cases act<;>simp_all [S1])
theorem E2p {ai aj:C7}{di dj:Option Tmp}(hi:S1 ai=true)(hj:S1 aj=true)(hd:∀t,di=some t->dj≠some t){st st1 aH:St}(h1:B0 ai di st=some st1)(h2:B0 aj dj st1=some aH) :
  ∃st1',B0 aj dj st=some st1'/\B0 ai di st1'=some aH:=by
 obtain⟨x,e1,rfl⟩:=(G6 hi).1 h1;obtain⟨y,e2,rfl⟩:=(G6 hj).1 h2;rw[X7]at e2;refine⟨_,(G6 hj).2 ⟨y,e2,rfl⟩,(G6 hi).2 ⟨x,by rw[X7];exact e1,?_⟩⟩;simp only[cE];rw[eM hd]
theorem rH {act:C7}{bx bx':List (Option (List TV))}{id:Nat}(hb:∀j,j≠id->bx'[j]? =bx[j]?)(h:∀i off n g,act=.load i off n g->i≠id):K8 act bx'=K8 act bx:=by
 cases act with
 |load i off n g=>simp only[K8,hb i (h i off n g rfl)]
 |_=>rfl
theorem A5l {ai:C7}{di dj:Option Tmp}(hi:S1 ai=true){id off:Nat}{cs:List TV}(hne:∀i o n g,ai=.load i o n g->i≠id){st:St} :
  (∀st1 aH,B0 ai di st=some st1->B0 (.store id off cs) dj st1=some aH->∃st1',B0 (.store id off cs) dj st=some st1'/\B0 ai di st1'=some aH)/\
  (∀st1 aH,B0 (.store id off cs) dj st=some st1->B0 ai di st1=some aH->∃st1',B0 ai di st=some st1'/\B0 (.store id off cs) dj st1'=some aH):=by
 constructor
 ·intro st1 aH h1 h2;obtain⟨x,e1,rfl⟩:=(G6 hi).1 h1;simp only[B0,X7]at h2;split at h2
  ·rename_i ds hb;obtain⟨ds',hle,rfl⟩:=Am.1 h2;refine⟨{st with bx:=st.bx.set id (some ds')},by simp only[B0,hb];rw[hle];rfl,(G6 hi).2 ⟨x,?_,?_⟩⟩
   ·rw[rH (id:=id) (bx:=st.bx) (fun j hj=>Ay (Ne.symm hj)) hne];exact e1
   ·simp only[cE]
  ·cases h2
 ·intro st1 aH h1 h2;simp only[B0]at h1;split at h1
  ·rename_i ds hb;obtain⟨ds',hle,rfl⟩:=Am.1 h1;obtain⟨x,e2,rfl⟩:=(G6 hi).1 h2;rw[rH (id:=id) (bx:=st.bx) (fun j hj=>Ay (Ne.symm hj)) hne]at e2;refine⟨_,(G6 hi).2 ⟨x,e2,rfl⟩,?_⟩;simp only[B0,X7,hb];rw[hle];simp only[cE,Aq]
  ·cases h1
theorem D5d {ai:C7}{di dj:Option Tmp}(hi:S1 ai=true)(hd:∀t,di=some t->dj≠some t){cs:List TV}(hne:∀i o n g,ai=.load i o n g->dj≠some i){st:St} :
  (∀st1 aH,B0 ai di st=some st1->B0 (.mk cs) dj st1=some aH->∃st1',B0 (.mk cs) dj st=some st1'/\B0 ai di st1'=some aH)/\
  (∀st1 aH,B0 (.mk cs) dj st=some st1->B0 ai di st1=some aH->∃st1',B0 ai di st=some st1'/\B0 (.mk cs) dj st1'=some aH):=by
 constructor
 ·intro st1 aH h1 h2;obtain⟨x,e1,rfl⟩:=(G6 hi).1 h1;simp only[B0,X7,fT]at h2;split at h2
  ·rename_i d;split at h2
   ·rename_i hb;obtain⟨hdl,h2⟩:=A5 h2;injection h2 with h2;subst h2;refine⟨⟨st.ρ.set d (.ptr d 0,0),st.bx.set d (some cs),st.out⟩,by simp only[B0,hb];rw[if_pos hdl],(G6 hi).2 ⟨x,?_,?_⟩⟩
    ·rw[rH (id:=d) (bx:=st.bx) (fun j hj=>Ay (Ne.symm hj)) (fun i o n g e e2=>hne i o n g e (by rw[e2]))];exact e1
    ·simp only[cE];have:=eM (e:=some d) hd x (.ptr d 0,0) st.ρ;simp only[xP]at this ⊢;rw[<-this]
   ·cases h2
  ·cases h2
 ·intro st1 aH h1 h2;simp only[B0]at h1;split at h1
  ·rename_i d;split at h1
   ·rename_i hb;obtain⟨hdl,h1⟩:=A5 h1;injection h1 with h1;subst h1;obtain⟨x,e2,rfl⟩:=(G6 hi).1 h2;simp only at e2;rw[rH (id:=d) (bx:=st.bx) (fun j hj=>Ay (Ne.symm hj)) (fun i o n g e e2=>hne i o n g e (by rw[e2]))]at e2;refine⟨_,(G6 hi).2 ⟨x,e2,rfl⟩,?_⟩;simp only[B0,X7,fT,hb];rw[if_pos hdl];simp only[cE];have:=eM (e:=some d) hd x (.ptr d 0,0) st.ρ;simp only[xP]at this ⊢;rw[this]
   ·cases h1
  ·cases h1
theorem B38 {f:TV->TV}(hf:∀x,(f x).1=x.1)(cs:List TV):oG (cs.map f)=oG cs:=by
 match cs with
 |[]=>rfl
 |[x]=>simp only[Cb,Ei,oG,hf]
 |_::_::_=>rfl
theorem B98 {act:C7}{bx:List (Option (List TV))}(f:TV->TV)(hf:∀x,(f x).1=x.1)(h:∀i o n g,act=.load i o n g->g=true):K8 act (bx.map (Option.map (List.map f)))=K8 act bx:=by
 cases act with
 |load i off n g =>
  obtain rfl:=h i off n g rfl;simp only[K8,Az];rcases hb:bx[i]? with _|(_|cs)
  ·rfl
  ·rfl
  ·simp only[Aq,By,if_true,B38 hf];split
   ·rfl
   ·split
    ·congr 3;rw[<-List.map_take,<-List.map_drop,List.map_map];apply Dk;intro x _;exact hf x
    ·rfl
 |_=>rfl
theorem A9f {act:C7}{bx:List (Option (List TV))}{x:TV}(h:∀i o n g,act=.load i o n g->g=true)(hv:∀v t,act=.val v t->t<=1)(hx:K8 act bx=some x):x.2<=1:=by
 cases act with
 |skip=>simp only[K8,Ah]at hx;subst hx;simp
 |val v t=>simp only[K8,Ah]at hx;subst hx;exact hv v t rfl
 |load i off n g =>
  obtain rfl:=h i off n g rfl;simp only[K8]at hx;split at hx
  ·split at hx
   ·simp only[if_true]at hx;obtain⟨_,hx⟩:=A5 hx;injection hx with hx;subst hx;simp
   ·simp only[if_true]at hx;obtain⟨_,hx⟩:=A5 hx;injection hx with hx;subst hx;simp
  ·cases hx
 |_=>cases hx
theorem A1h {act:C7}{bx:List (Option (List TV))}(f:TV->TV)(hf:∀x,(f x).1=x.1)(hs:∀x:TV,x.2<=1->f x=x)(hi:S1 act=true)(hv:∀v t,act=.val v t->t<=1) :
  K8 act (bx.map (Option.map (List.map f)))=(K8 act bx).map f:=by
 cases act with
 |skip=>simp only[K8,Aq,hs (.tuple [],0) (by simp)]
 |val v t=>simp only[K8,Aq,hs (v,t) (hv v t rfl)]
 |load i off n g =>
  cases g with
  |true =>
   rw[B98 f hf (fun i o n g e=>by cases e;rfl)];rcases hx:K8 (.load i off n true) bx with _|x
   ·rfl
   ·have:=A9f (fun i o n g e=>by cases e;rfl) (fun v t e=>by cases e) hx;rw[Aq,hs x this]
  |false =>
   simp only[K8,Az];rcases hb:bx[i]? with _|(_|cs)
   ·rfl
   ·rfl
   ·simp only[Aq,Az,Bp,if_false,B38 hf];split
    ·rename_i xs _
     cases xs[off]? with
     |none=>rfl
     |some y=>simp only[Aq,hs (y,0) (Nat.zero_le _)]
    ·rfl
 |_=>cases hi
theorem C0t {ai:C7}{di dj:Option Tmp}(hi:S1 ai=true)(hd:∀t,di=some t->dj≠some t){c:Nat}{v:PV}(hv:∀v t,ai=.val v t->t<=1){st:St} :
  (∀st1 aH,B0 ai di st=some st1->B0 (.own c v) dj st1=some aH->∃st1',B0 (.own c v) dj st=some st1'/\B0 ai di st1'=some aH)/\
  (∀st1 aH,B0 (.own c v) dj st=some st1->B0 ai di st1=some aH->∃st1',B0 ai di st=some st1'/\B0 (.own c v) dj st1'=some aH):=by
 have hsm:∀(e:Nat) (x:TV),x.2<=1->clr e x=x:=fun e x hx=>by obtain⟨y,t⟩:=x;exact C4l hx
 have hbx:∀d:Nat,K8 ai ((st.clr c).clr (d+2)).bx=((K8 ai st.bx).map (clr c)).map (clr (d+2)):=fun d=>by
  simp only[St.clr];rw[A1h _ (vF _) (hsm _) hi hv,A1h _ (vF _) (hsm _) hi hv]
 have key:∀(d:Nat) (x:TV),di≠some d->(((O4 di x st).clr c).clr (d+2)).ρ.set d (v,d+2)=xP di (clr (d+2) (clr c x)) ((((st.clr c).clr (d+2)).ρ).set d (v,d+2)):=by
  intro d x hne;simp only[St.clr,cE,D8b];exact eM (d:=di) (e:=some d) (fun t e e2=>hne (by rw[e,<-e2])) _ (v,d+2) _
 have kbx:∀(d:Nat) (x:TV),(((O4 di x st).clr c).clr (d+2)).bx=((st.clr c).clr (d+2)).bx:=by
  intro d x;simp only[St.clr,cE]
 constructor
 ·intro st1 aH h1 h2;obtain⟨x,e1,rfl⟩:=(G6 hi).1 h1;simp only[B0]at h2;split at h2
  ·rename_i d;injection h2 with h2;subst h2;have hne:di≠some d:=fun e=>hd d e rfl;refine⟨⟨((st.clr c).clr (d+2)).ρ.set d (v,d+2),((st.clr c).clr (d+2)).bx,st.out⟩,rfl,(G6 hi).2 ⟨clr (d+2) (clr c x),(hbx d).trans (by rw[e1];rfl),?_⟩⟩;rw[key d x hne,kbx]
   cases di<;>rfl
  ·cases h2
 ·intro st1 aH h1 h2;simp only[B0]at h1;split at h1
  ·rename_i d;injection h1 with h1;subst h1;obtain⟨x,e2,rfl⟩:=(G6 hi).1 h2;have e2:=(hbx d).symm.trans e2;obtain⟨y,e3,rfl⟩:=Am.1 e2;obtain⟨z,e4,rfl⟩:=Am.1 e3;have hne:di≠some d:=fun e=>hd d e rfl;refine⟨_,(G6 hi).2 ⟨z,e4,rfl⟩,?_⟩;simp only[B0];rw[key d z hne,kbx]
   cases di<;>rfl
  ·cases h1
theorem B3b {i j o o':Nat}{cs ds:List TV}{di dj:Option Tmp}(hne:i≠j){st st1 aH:St}(h1:B0 (.store i o cs) di st=some st1)(h2:B0 (.store j o' ds) dj st1=some aH) :
  ∃st1',B0 (.store j o' ds) dj st=some st1'/\B0 (.store i o cs) di st1'=some aH:=by
 simp only[B0]at h1 h2;split at h1
 ·rename_i xs hx;obtain⟨xs',hle,rfl⟩:=Am.1 h1;simp only[Ay hne]at h2;split at h2
  ·rename_i ys hy;obtain⟨ys',hle',rfl⟩:=Am.1 h2;refine⟨{st with bx:=st.bx.set j (some ys')},by simp only[B0,hy];rw[hle'];rfl,?_⟩;simp only[B0,Ay (Ne.symm hne),hx];rw[hle];simp only[Fg _ _ hne,Aq]
  ·cases h2
 ·cases h1
theorem B5k {i o:Nat}{cs ds:List TV}{di dj:Option Tmp}(hne:dj≠some i){st:St} :
  (∀st1 aH,B0 (.store i o cs) di st=some st1->B0 (.mk ds) dj st1=some aH->∃st1',B0 (.mk ds) dj st=some st1'/\B0 (.store i o cs) di st1'=some aH)/\
  (∀st1 aH,B0 (.mk ds) dj st=some st1->B0 (.store i o cs) di st1=some aH->∃st1',B0 (.store i o cs) di st=some st1'/\B0 (.mk ds) dj st1'=some aH):=by
 constructor
 ·intro st1 aH h1 h2;simp only[B0]at h1 h2;split at h1
  ·rename_i xs hx;obtain⟨xs',hle,rfl⟩:=Am.1 h1;split at h2
   ·rename_i d;have hid:i≠d:=fun e=>hne (by rw[e]);simp only[Ay hid]at h2;split at h2
    ·rename_i hb;obtain⟨hdl,h2⟩:=A5 h2;injection h2 with h2;subst h2;refine⟨⟨st.ρ.set d (.ptr d 0,0),st.bx.set d (some ds),st.out⟩,by simp only[B0,hb];rw[if_pos hdl],?_⟩;simp only[B0,Ay (Ne.symm hid),hx];rw[hle];simp only[Fg _ _ hid,Aq]
    ·cases h2
   ·cases h2
  ·cases h1
 ·intro st1 aH h1 h2;simp only[B0]at h1 h2;split at h1
  ·rename_i d;have hid:i≠d:=fun e=>hne (by rw[e]);split at h1
   ·rename_i hb;obtain⟨hdl,h1⟩:=A5 h1;injection h1 with h1;subst h1;simp only[Ay (Ne.symm hid)]at h2;split at h2
    ·rename_i xs hx;obtain⟨xs',hle,rfl⟩:=Am.1 h2;refine⟨{st with bx:=st.bx.set i (some xs')},by simp only[B0,hx];rw[hle];rfl,?_⟩;simp only[B0,Ay hid,hb];rw[if_pos hdl];simp only[Fg _ _ hid]
    ·cases h2
   ·cases h1
  ·cases h1
theorem F4y {cs ds:List TV}{di dj:Option Tmp}(hd:∀t,di=some t->dj≠some t){st st1 aH:St}(h1:B0 (.mk cs) di st=some st1)(h2:B0 (.mk ds) dj st1=some aH) :
  ∃st1',B0 (.mk ds) dj st=some st1'/\B0 (.mk cs) di st1'=some aH:=by
 simp only[B0]at h1 h2;split at h1
 ·rename_i d;split at h1
  ·rename_i hb;obtain⟨hdl,h1⟩:=A5 h1;injection h1 with h1;subst h1;split at h2
   ·rename_i e;have hde:d≠e:=fun x=>hd d rfl (by rw[x]);simp only[Ay hde]at h2;split at h2
    ·rename_i hb';simp only[Ft]at h2;obtain⟨hel,h2⟩:=A5 h2;injection h2 with h2;subst h2;refine⟨⟨st.ρ.set e (.ptr e 0,0),st.bx.set e (some ds),st.out⟩,by simp only[B0,hb'];rw[if_pos hel],?_⟩;simp only[B0,Ay (Ne.symm hde),hb,Ft];rw[if_pos hdl];simp only[Fg _ _ hde]
    ·cases h2
   ·cases h2
  ·cases h1
 ·cases h1
def mX (ws:List (Nat×List PV))(n0:Option (List PV))(more:List (List PV))(d:Option Tmp)(n:Nat)(bx:List (Option (List TV))):Option (List (Option (List TV))) :=
 match n0,d with
 |none,_=>if more.isEmpty then some (E1 ws bx)else none
 |some cs,some d =>
  match bx[d]? with
  |some none=>if d<n then some (E1 ((d,cs)::ws) bx++more.map fun cs=>some (cs.map fun x=>(x,0)))else none
  |_=>none
 |some _,none=>none
theorem Q6 {ws:List (Nat×List PV)}{n0:Option (List PV)}{more:List (List PV)}{v:PV}{o:Option kC}{d:Option Tmp}{st st1:St}:B0 (.hcall ws n0 more v o) d st=some st1↔∃bx',mX ws n0 more d st.ρ.length st.bx=some bx'/\st1=O4 d (v,0) ⟨st.ρ,bx',o.getD st.out⟩:=by
 cases n0 with
 |none =>
  simp only[B0,mX]
  by_cases h:more.isEmpty=true
  ·rw[if_pos h,if_pos h];constructor
   ·intro e;injection e with e;exact⟨_,rfl,e.symm⟩
   ·rintro⟨bx',e,rfl⟩;injection e with e;rw[e]
  ·rw[if_neg h,if_neg h];constructor
   ·intro e;cases e
   ·rintro⟨_,e,_⟩;cases e
 |some cs =>
  cases d with
  |none =>
   simp only[B0,mX];constructor
   ·intro e;cases e
   ·rintro⟨_,e,_⟩;cases e
  |some d =>
   simp only[B0,mX];rcases hb:st.bx[d]? with _|(_|x)
   ·simp
   ·simp only
    by_cases h:d<st.ρ.length
    ·rw[if_pos h,if_pos h];constructor
     ·intro e;injection e with e;exact⟨_,rfl,e.symm⟩
     ·rintro⟨bx',e,rfl⟩;injection e with e;rw[e]
    ·rw[if_neg h,if_neg h];simp
   ·simp
theorem C61 {ws:List (Nat×List PV)}{n0:Option (List PV)}{more:List (List PV)}{d:Option Tmp}{n:Nat}{bx bx':List (Option (List TV))}(h:mX ws n0 more d n bx=some bx'){i:Nat}(h1:ws.all (fun p=>p.1 !=i)=true)(h2:d≠some i)(h3:more.isEmpty=true):bx'[i]? =bx[i]? :=by
 have hw:∀p∈ws,p.1≠i:=fun p hp=>by
  have:=Bg.1 h1 p hp;simpa using this
 unfold mX at h;split at h
 ·obtain⟨_,h⟩:=A5 h;injection h with h;subst h;exact G8 _ _ _ hw
 ·split at h
  ·obtain⟨_,h⟩:=A5 h;injection h with h;subst h
   have:more=[]:=by cases more<;>simp_all
   subst this;simp only[Ei,Bf];refine G8 _ _ _ fun p hp=>?_;rcases Be.1 hp with rfl|hp
   ·exact fun e=>h2 (by rw[<-e])
   ·exact hw p hp
  ·cases h
 ·cases h
theorem A6a {ai:C7}{di dj:Option Tmp}(hi:S1 ai=true)(hd:∀t,di=some t->dj≠some t){ws:List (Nat×List PV)}{n0:Option (List PV)}{more:List (List PV)}{v:PV}{o:Option kC}
  (hne:∀i off n g,ai=.load i off n g->ws.all (fun p=>p.1 !=i)=true/\dj≠some i/\more.isEmpty=true) {st:St} :
  (∀st1 aH,B0 ai di st=some st1->B0 (.hcall ws n0 more v o) dj st1=some aH->∃st1',B0 (.hcall ws n0 more v o) dj st=some st1'/\B0 ai di st1'=some aH)/\
  (∀st1 aH,B0 (.hcall ws n0 more v o) dj st=some st1->B0 ai di st1=some aH->∃st1',B0 ai di st=some st1'/\B0 (.hcall ws n0 more v o) dj st1'=some aH):=by
 have hav:∀bx',mX ws n0 more dj st.ρ.length st.bx=some bx'->K8 ai bx'=K8 ai st.bx:=fun bx' hb=>by
  cases ai with
  |load i off n g =>
   obtain⟨h1,h2,h3⟩:=hne i off n g rfl;simp only[K8,C61 hb h1 h2 h3]
  |skip=>rfl
  |val v c=>rfl
  |_=>cases hi
 constructor
 ·intro st1 aH h1 h2;obtain⟨x,e1,rfl⟩:=(G6 hi).1 h1;obtain⟨bx',e2,rfl⟩:=Q6.1 h2;rw[fT,X7]at e2;refine⟨_,Q6.2 ⟨bx',e2,rfl⟩,(G6 hi).2 ⟨x,?_,?_⟩⟩
  ·rw[X7];exact(hav bx' e2).trans e1
  ·simp only[cE];rw[eM hd]
 ·intro st1 aH h1 h2;obtain⟨bx',e2,rfl⟩:=Q6.1 h1;obtain⟨x,e1,rfl⟩:=(G6 hi).1 h2;rw[X7]at e1;have e1:K8 ai bx'=some x:=e1;rw[hav bx' e2]at e1;refine⟨_,(G6 hi).2 ⟨x,e1,rfl⟩,Q6.2 ⟨bx',by rw[fT,X7];exact e2,?_⟩⟩;simp only[cE];rw[eM hd]
theorem wR {cs:Option (List TV)}{d:Nat}:∀(ws:List (Nat×List PV)) (bx:List (Option (List TV))),(∀p∈ws,p.1≠d)->(E1 ws bx).set d cs=E1 ws (bx.set d cs)
 |[],_,_=>rfl
 |(i,c)::ws,bx,h=>by
  simp only[E1];rw[wR ws _ (fun p hp=>h p (by simp[hp])),Fg _ _ (h (i,c) (by simp))]
theorem D7a {ws:List (Nat×List PV)}{n0:Option (List PV)}{more:List (List PV)}{v:PV}{o:Option kC}{cs:List TV}{di dj:Option Tmp}(hd:∀t,di=some t->dj≠some t)(hw:ws.all (fun p=>dj !=some p.1)=true)(h0:n0=none)(hm:more=[]){st st1 aH:St}
  (h1:B0 (.hcall ws n0 more v o) di st=some st1) (h2:B0 (.mk cs) dj st1=some aH):∃st1',B0 (.mk cs) dj st=some st1'/\B0 (.hcall ws n0 more v o) di st1'=some aH:=by
 subst h0 hm;obtain⟨bx',e2,rfl⟩:=Q6.1 h1;simp only[mX,Ff,if_true,Ah]at e2;subst e2
 cases dj with
 |none=>simp[B0]at h2
 |some d =>
  have hw':∀p∈ws,p.1≠d:=fun p hp e=>by
   have:=Bg.1 hw p hp;rw[e]at this;simp at this
  simp only[B0,X7,fT]at h2;rw[G8 _ _ _ hw']at h2;split at h2
  ·rename_i hb;obtain⟨hlt,h2⟩:=A5 h2;injection h2 with h2;subst h2;refine⟨⟨st.ρ.set d (.ptr d 0,0),st.bx.set d (some cs),st.out⟩,by simp only[B0,hb,if_pos hlt],Q6.2 ⟨E1 ws (st.bx.set d (some cs)),by simp[mX],?_⟩⟩;simp only[cE,wR ws st.bx hw'];have:=eM (d:=di) (e:=some d) (fun t e e2=>hd t e e2) (v,0) (.ptr d 0,0) st.ρ;simp only[xP]at this ⊢
   cases di<;>simp_all [xP]
  ·cases h2
theorem B27 {ai aj:C7}{di dj:Option Tmp}{fi fj:Bool}(hind:dY di dj fi fj ai aj=true)(hd:∀t,di=some t->dj≠some t){st st1 aH:St}(h1:B0 ai di st=some st1)(h2:B0 aj dj st1=some aH) :
  ∃st1',B0 aj dj st=some st1'/\B0 ai di st1'=some aH:=by
 have hd':∀t,dj=some t->di≠some t:=fun t e1 e2=>hd t e2 e1
 cases ai<;>cases aj<;>simp only[dY,Ae,decide_eq_true_eq,bne_iff_ne,ne_eq,Bp]at hind
 all_goals first
  |exact E2p rfl rfl hd h1 h2
  |exact(A5l rfl (by intro i o n g e;cases e<;>assumption)).1 _ _ h1 h2
  |exact(A5l rfl (by intro i o n g e;cases e<;>exact fun e=>hind e.symm)).2 _ _ h1 h2
  |exact(D5d rfl hd (by intro i o n g e;cases e<;>assumption)).1 _ _ h1 h2
  |exact(D5d rfl hd' (by intro i o n g e;cases e<;>assumption)).2 _ _ h1 h2
  |exact(C0t rfl hd (by intro v t e;cases e<;>exact hind.2)).1 _ _ h1 h2
  |exact(C0t rfl hd' (by intro v t e;cases e<;>exact hind.2)).2 _ _ h1 h2
  |exact B3b hind h1 h2
  |exact(A6a rfl hd (by intro i o n g e;cases e<;>exact⟨hind.1.1,hind.1.2,hind.2⟩)).1 _ _ h1 h2
  |exact(A6a rfl hd' (by intro i o n g e;cases e<;>exact⟨hind.1.1,hind.1.2,hind.2⟩)).2 _ _ h1 h2
  |exact(B5k hind).1 _ _ h1 h2
  |exact(B5k hind).2 _ _ h1 h2
  |exact F4y hd h1 h2
  |exact D7a hd hind.1.1 (by simpa using hind.1.2) (by simpa using hind.2) h1 h2
theorem A45 {R:Type}{kk kk':C7->Option R}(h7:∀a b c,kk (.cons a b c)=kk' (.cons a b c))(h6:∀a b c d e,kk (.hcall a b c d e)=kk' (.hcall a b c d e))(h1:∀v t,kk (.val v t)=kk' (.val v t))(h2:∀a b c d,kk (.load a b c d)=kk' (.load a b c d))(h3:∀a b c,kk (.store a b c)=kk' (.store a b c))(h4:∀a,kk (.mk a)=kk' (.mk a))(h5:∀a b,kk (.own a b)=kk' (.own a b))
  (st:St) (o:Oper):A9 en st o kk=A9 en st o kk':=by
 unfold A9 aP aX kR kO kX kF oO kM;simp only[h1,h2,h3,h4,h5,h6,h7]
theorem lY (hE:en.nat){st:St}{o:Oper}:A9 en st o some≠some .skip:=by
 intro h;have:=A45 (en:=en) (kk:=some) (kk':=fun a=>match a with|.skip=>none|a=>some a) (fun _ _ _=>rfl) (fun _ _ _ _ _=>rfl) (fun _ _=>rfl) (fun _ _ _ _=>rfl) (fun _ _ _=>rfl) (fun _=>rfl) (fun _ _=>rfl) st o;rw[X8 en hE (kk:=fun a=>match a with|.skip=>none|a=>some a),h]at this
 cases this
theorem qE {act:C7}{d:Option Tmp}{st st1:St}(h:B0 act d st=some st1)(ho:∀c v,act≠.own c v)(hc:∀i c v,act≠.cons i c v){t:Nat}(ht:d≠some t):st1.ρ[t]? =st.ρ[t]? :=by
 have key:∀x,(O4 d x st).ρ[t]? =st.ρ[t]? :=fun x=>by rw[cE];exact B2a ht
 cases act with
 |store i o cs =>
  simp only[B0]at h;split at h
  ·obtain⟨_,_,rfl⟩:=Am.1 h;rfl
  ·cases h
 |mk cs =>
  simp only[B0]at h;split at h
  ·rename_i d;split at h
   ·obtain⟨_,h⟩:=A5 h;injection h with h;subst h;exact Ay (fun e=>ht (by rw[e]))
   ·cases h
  ·cases h
 |own c v=>exact(ho _ _ rfl).elim
 |cons i c v=>exact(hc _ _ _ rfl).elim
 |hcall ws n m v o =>
  obtain⟨bx',_,rfl⟩:=Q6.1 h;rw[cE];exact B2a ht
 |skip=>obtain⟨x,_,rfl⟩:=(G6 rfl).1 h;exact key x
 |val v c=>obtain⟨x,_,rfl⟩:=(G6 rfl).1 h;exact key x
 |load i o n g=>obtain⟨x,_,rfl⟩:=(G6 rfl).1 h;exact key x
theorem uD {act:C7}{d:Option Tmp}{st st1:St}(h:B0 act d st=some st1)(hc:∀i c v,act≠.cons i c v){t:Nat}(ht:d≠some t):(st1.ρ[t]?).map (·.1)=(st.ρ[t]?).map (·.1):=by
 cases act with
 |own c v =>
  simp only[B0]at h;split at h
  ·rename_i d;injection h with h;subst h;simp only[St.clr];rw[Ay (fun e=>ht (by rw[e]))];simp only[Az,Option.map_map];congr 1;funext x;simp[vF]
  ·cases h
 |cons i c v=>exact(hc _ _ _ rfl).elim
 |_=>rw[qE h (by simp) (by simp) ht]
theorem F5s (hE:en.nat){o:Oper}{act a':C7}{d:Option Tmp}{st st1:St}(h:B0 a' d st=some st1)(hd:∀t,d=some t->t ∉ o.looksAt ops)(hf:(∃c v,a'=.own c v)->act=.skip\/R9 en.P o=true)(hh:oE act=false->S1 a'=true)(hc:∀i c v,a'≠.cons i c v) :
  T2 ops o st1=T2 ops o st/\(act≠.skip->(A9 en st1 o (R:=C7) some=some act↔A9 en st o some=some act)):=by
 have hne:∀t∈o.looksAt ops,d≠some t:=fun t ht e=>hd t e ht;refine⟨uU fun t ht=>uD h hc (hne t ht),fun hs=>?_⟩
 by_cases hown:∃c v,a'=.own c v
 ·have hf:=(hf hown).resolve_left hs
  have hn:oE act=true:=by
   rcases hb:oE act with _|_
   ·obtain⟨c,v,rfl⟩:=hown;have:=hh hb
    cases this
   ·rfl
  have he:∀x∈o.op.operands,∀t,(ev en st1 t x).1=(ev en st t x).1:=fun x hx t=>F1q (fun u hu=>uD h hc (hne u (rE (ops:=ops) (by rw[<-hu];exact hx)))) t;exact⟨rX hE hf he hn,rX hE hf (fun x hx t=>(he x hx t).symm) hn⟩
 ·have hsl:∀t∈o.looksAt ops,st1.ρ[t]? =st.ρ[t]? :=fun t ht=>qE h (fun c v e=>hown ⟨c,v,e⟩) hc (hne t ht);rcases hb:oE act with _|_
  ·obtain⟨x,_,rfl⟩:=(G6 (hh hb)).1 h;rw[A55 (ops:=ops) hsl ⟨X7 _ _ _,fT _ _ _,B2w _ _ _⟩]
  ·have he:∀x∈o.op.operands,∀t,ev en st1 t x=ev en st t x:=fun x hx t=>wP (fun u hu=>hsl u (rE (ops:=ops) (by rw[<-hu];exact hx))) t;exact⟨wS hE he hb,wS hE (fun x hx t=>(he x hx t).symm) hb⟩
theorem F3w (hE:en.nat){o:Oper}{act a':C7}{d:Option Tmp}{st st1:St}(h:B0 a' d st=some st1)(hd:∀t,d=some t->t ∉ o.looksAt ops)(hf:(∃c v,a'=.own c v)->act=.skip\/R9 en.P o=true)(hh:oE act=false->S1 a'=true\/∃cs,a'=.mk cs)(hc:∀i c v,a'≠.cons i c v) :
  T2 ops o st1=T2 ops o st/\(act≠.skip->A9 en st o (R:=C7) some=some act->A9 en st1 o some=some act):=by
 by_cases hb:oE act=false/\S1 a'=false
 ·obtain⟨cs,rfl⟩:=(hh hb.1).resolve_left (by rw[hb.2];simp);have hne:∀t∈o.looksAt ops,d≠some t:=fun t ht e=>hd t e ht;refine⟨uU fun t ht=>uD h hc (hne t ht),fun _ ha=>?_⟩;have hsl:∀t∈o.looksAt ops,st1.ρ[t]? =st.ρ[t]? :=fun t ht=>qE h (fun c v e=>by cases e) hc (hne t ht);have he:∀x∈o.op.operands,∀t,ev en st1 t x=ev en st t x:=fun x hx t=>wP (fun u hu=>hsl u (rE (ops:=ops) (by rw[<-hu];exact hx))) t;simp only[B0]at h;split at h
  ·rename_i d;split at h
   ·rename_i hbx;obtain⟨_,h⟩:=A5 h;injection h with h;subst h;refine B58 (st:=st) (st':=⟨st.ρ.set d (.ptr d 0,0),st.bx.set d (some cs),st.out⟩) ⟨by simp,fun id c hcc=>?_⟩ (by simp) rfl (fun x hx t=>(he x hx t).symm) ha;simp only;rw[Ay (fun e=>by rw[e,hcc]at hbx;cases hbx)];exact hcc
   ·cases h
  ·cases h
 ·have hh':oE act=false->S1 a'=true:=fun e=>by
   rcases hv:S1 a' with _|_
   ·exact(hb ⟨e,hv⟩).elim
   ·rfl
  obtain⟨g,r⟩:=F5s (o:=o) (act:=act) hE h hd hf hh' hc;exact⟨g,fun hs=>(r hs).2⟩
theorem C7j (hE:en.nat){oi oj:Oper}{ai aj:C7}(hap:oi.apart ops oj=true)(hind:dY oi.dst oj.dst (R9 en.P oi) (R9 en.P oj) ai aj=true){st st1 aH:St}(h1:jO en ops oi ai st st1)(h2:jO en ops oj aj st1 aH) :
  ∃st1',jO en ops oj aj st st1'/\jO en ops oi ai st1' aH:=by
 obtain⟨hd1,hd2,hd3⟩:=Oper.apart_spec hap
 have p1:B0 ai oi.dst st=some st1:=by
  rcases h1 with⟨_,_,h⟩|⟨_,rfl,rfl⟩
  ·exact h
  ·rfl
 have p2:B0 aj oj.dst st1=some aH:=by
  rcases h2 with⟨_,_,h⟩|⟨_,rfl,rfl⟩
  ·exact h
  ·rfl
 obtain⟨st1',q1,q2⟩:=B27 hind (fun t e=>hd2 t e) p1 p2
 have fj:(∃c v,ai=.own c v)->aj=.skip\/R9 en.P oj=true:=by
  rintro⟨c,v,rfl⟩
  cases aj<;>simp[dY]at hind<;>first|exact .inl rfl|exact .inr hind.1|exact .inr hind
 have fi:(∃c v,aj=.own c v)->ai=.skip\/R9 en.P oi=true:=by
  rintro⟨c,v,rfl⟩
  cases ai<;>simp[dY]at hind<;>first|exact .inl rfl|exact .inr hind.1|exact .inr hind
 have kj:oE aj=false->S1 ai=true:=by
  intro e
  cases aj<;>first|(cases e;done)|skip
  all_goals(cases ai<;>first|rfl|(simp[dY]at hind))
 have ki:oE ai=false->S1 aj=true\/∃cs,aj=.mk cs:=by
  intro e
  cases ai<;>first|(cases e;done)|skip
  all_goals(cases aj<;>first|exact .inl rfl|exact .inr ⟨_,rfl⟩|(simp[dY]at hind))
 have cj:∀i c v,ai≠.cons i c v:=by rintro i c v rfl;simp[dY]at hind
 have ci:∀i c v,aj≠.cons i c v:=by rintro i c v rfl;cases ai<;>simp[dY]at hind
 obtain⟨gj,rj⟩:=F5s (o:=oj) (act:=aj) hE p1 (fun t e=>hd1 t e) fj kj cj;obtain⟨gi,ri⟩:=F3w (o:=oi) (act:=ai) hE q1 (fun t e=>hd3 t e) fi ki ci;refine⟨st1',?_,?_⟩
 ·rcases h2 with⟨k1,k2,_⟩|⟨k1,k2,k3⟩
  ·have hns:aj≠.skip:=fun e=>lY hE (by rw[<-e];exact k2);exact .inl ⟨by rw[<-gj];exact k1,(rj hns).1 k2,q1⟩
  ·subst k2
   exact .inr ⟨by rw[<-gj];exact k1,rfl,by
    have:B0 .skip oj.dst st=some (O4 oj.dst (.tuple [],0) st):=rfl;rw[this]at q1;injection q1 with q1
    exact q1.symm⟩
 ·rcases h1 with⟨k1,k2,_⟩|⟨k1,k2,k3⟩
  ·have hns:ai≠.skip:=fun e=>lY hE (by rw[<-e];exact k2);exact .inl ⟨by rw[gi];exact k1,(ri hns) k2,q2⟩
  ·subst k2
   exact .inr ⟨by rw[gi];exact k1,rfl,by
    have:B0 .skip oi.dst st1'=some (O4 oi.dst (.tuple [],0) st1'):=rfl;rw[this]at q2;injection q2 with q2
    exact q2.symm⟩
def qV (ops:Array Oper)(listed:Array Bool):Prop:=∀k ok,ops[k]? =some ok->listed.getD k true=true->∀e∈ok.after,Region.binds .any e=true->listed.getD e.on true=true
theorem nZ {listed:Array Bool}(hc:qV ops listed){i:Nat}(hi:listed.getD i true=false):∀(n j:Nat) (oj:Oper),ops[j]? =some oj->eR ops n j i=true->∃e∈oj.after,Region.binds .any e=true/\listed.getD e.on true=false
 |0,j,oj,hj,h=>by cases h
 |n+1,j,oj,hj,h=>by
  simp only[eR,hj]at h;rw[Array.any_eq_true']at h;obtain⟨e,he,hb⟩:=h;simp only[Ae,Cc,beq_iff_eq]at hb;refine⟨e,he,hb.1,?_⟩;rcases hb.2 with h1|h1
  ·rw[h1];exact hi
  ·rcases ho:ops[e.on]? with _|ok
   ·cases n with
    |zero=>cases h1
    |succ n=>simp[eR,ho]at h1
   ·obtain⟨e',he',hb',hu⟩:=nZ hc hi n e.on ok ho h1;rcases hl:listed.getD e.on true with _|_
    ·rfl
    ·rw[hc e.on ok ho hl e' he' hb']at hu
     cases hu
theorem C21 {listed:Array Bool}{m:Nat}(h:listed.getD m false=true):listed.getD m true=true:=by
 rcases Dx m listed.size with h' |h'
 ·simp[h']at h ⊢;exact h
 ·simp[Array.getElem?_eq_none h']at h
theorem sB {listed:Array Bool}(hc:qV ops listed){i:Nat}(hr:i∈Region.ready .any ops listed):qV ops (listed.setIfInBounds i true):=by
 intro k ok hk hl e he hb
 have mono:∀m,listed.getD m true=true->(listed.setIfInBounds i true).getD m true=true:=fun m hm=>by
  by_cases e1:i=m
  ·subst e1;rcases Dx i listed.size with h|h
   ·simp[h]
   ·simp[Array.getElem?_eq_none (by simpa using h:(listed.setIfInBounds i true).size<=i)]
  ·rw[getD_set_ne true e1];exact hm
 by_cases e1:i=k
 ·subst e1;obtain⟨_,oi,hoi,hall⟩:=mem_ready.1 hr;rw[hk]at hoi;injection hoi with hoi;subst hoi;have h1:=hall e he hb;exact mono _ (C21 h1)
 ·rw[getD_set_ne true e1]at hl;exact mono _ (hc k ok hk hl e he hb)
theorem B89 (hE:en.nat){acts:Nat->C7}{Q:St->Prop}{i:Nat}{oi:Oper}(hi:ops[i]? =some oi) :
  ∀(fuel:Nat) (listed:Array Bool) (st st1:St),qV ops listed->
   (∀j oj,ops[j]? =some oj->j≠i->listed.getD j true=false->(∀n,eR ops n j i=false)->oi.apart ops oj=true/\dY oi.dst oj.dst (R9 en.P oi) (R9 en.P oj) (acts i) (acts j)=true)->
   i∈Region.ready .any ops listed->jO en ops oi (acts i) st st1->
   D7h en ops acts Q fuel (listed.setIfInBounds i true) st1->D7h en ops acts Q (fuel+1) listed st:=by
 intro fuel
 induction fuel with
 |zero =>
  intro listed st st1 _ _ hr hy H;refine⟨fun h=>(by rw[h]at hr;cases hr),fun j hj o ho=>?_⟩
  by_cases hji:j=i
  ·subst hji;rw[hi]at ho;injection ho with ho;subst ho;exact⟨st1,hy,H⟩
  ·have:=ready_mono hj hji;rw[H.1]at this
   cases this
 |succ fuel ih =>
  intro listed st st1 hcl hfree hr hy H;refine⟨fun h=>(by rw[h]at hr;cases hr),fun j hj o ho=>?_⟩
  by_cases hji:j=i
  ·subst hji;rw[hi]at ho;injection ho with ho;subst ho;exact⟨st1,hy,H⟩
  ·obtain⟨hjun,oj,hoj,hall⟩:=mem_ready.1 hj;rw[hoj]at ho;injection ho with ho;subst ho;obtain⟨aH,h1,h2⟩:=H.2 j (ready_mono hj hji) oj hoj;have hiun:=(mem_ready.1 hr).1;have hiun':listed.getD i true=false:=hiun
   have hnot:∀n,eR ops n j i=false:=fun n=>by
    rcases hw:eR ops n j i with _|_
    ·rfl
    ·obtain⟨e,he,hb,hu⟩:=nZ hcl hiun' n j oj hoj hw;have h1:listed.getD e.on true=true:=C21 (hall e he hb);rw[h1]at hu
     cases hu
   obtain⟨hap,hind⟩:=hfree j oj hoj hji hjun hnot;obtain⟨st1',k1,k2⟩:=C7j hE hap hind hy h1
   have hfree':∀k ok,ops[k]? =some ok->k≠i->(listed.setIfInBounds j true).getD k true=false->
     (∀n,eR ops n k i=false)->oi.apart ops ok=true/\dY oi.dst ok.dst (R9 en.P oi) (R9 en.P ok) (acts i) (acts k)=true:=fun k ok hk hki hun hno=>by
    refine hfree k ok hk hki ?_ hno
    by_cases hjk:j=k
    ·subst hjk;exact hjun
    ·rw[getD_set_ne true hjk]at hun;exact hun
   refine⟨st1',k1,ih (listed.setIfInBounds j true) st1' aH (sB hcl hj) hfree' (ready_mono hr (Ne.symm hji)) k2 ?_⟩;rw[Array.setIfInBounds_comm _ _ hji];exact h2
end
end Go.Proofs.YtkpfigikffphdaaGreatDoor
namespace Go.Proofs.YtkpfigikffphdaaGreatDoor
open Go.RowKit
theorem eW {α β:Type}(f:Nat->α->β):∀(l:List α) (k i:Nat),(S4 f k l)[i]? =(l[i]?).map (f (k+i))
 |[],k,i=>by simp[S4]
 |x::l,k,0=>by simp[S4]
 |x::l,k,i+1=>by
  simp only[S4,Bz];rw[eW f l (k+1) i,show k+1+i=k+(i+1)by omega]
theorem oT {α β:Type}(f:Nat->α->β):∀(l:List α) (k:Nat),(S4 f k l).length=l.length
 |[],k=>rfl
 |x::l,k=>by simp[S4,oT f l (k+1)]
theorem P4 (os:OS)(st:St):I8 os st=⟨S4 (fX os) 0 st.ρ,st.bx,st.out⟩:=by
 cases os with
 |nil =>
  obtain⟨ρ,bx,out⟩:=st
  have:S4 (fX []) 0 ρ=ρ:=by
   apply Ep;intro i;rw[eW]
   cases ρ[i]? <;> rfl
  simp only[I8,this]
 |cons p os=>rfl
theorem qO (os:OS)(st:St)(t:Nat):(I8 os st).ρ[t]? =(st.ρ[t]?).map (fX os t):=by
 rw[P4,eW,Bm]
theorem rL (os:OS)(st:St):(I8 os st).bx=st.bx:=by rw[P4]
theorem A2s (os:OS)(st:St):(I8 os st).out=st.out:=by rw[P4]
theorem A2b (os:OS)(st:St):(I8 os st).ρ.length=st.ρ.length:=by rw[P4];exact oT _ _ _
theorem B3u (os:OS)(st:St):sP (I8 os st) st:=⟨rL os st,A2b os st,A2s os st⟩
theorem lP {os:OS}{t:Nat}(h:os.lookup t=none)(x:TV):fX os t x=x:=by unfold fX;rw[h]
theorem A7g {os:OS}{t:Nat}{b:Bool}(h:os.lookup t=some b)(hb:b=true)(x:TV):fX os t x=x:=by unfold fX;rw[h,hb];rfl
theorem B8c {os:OS}{t:Nat}{b:Bool}(h:os.lookup t=some b)(hb:b=false)(x:TV):fX os t x=(.tuple [],0):=by unfold fX;rw[h,hb];rfl
theorem A2x:∀{l:List Bool},nS l=true->∀b∈l,b=true
 |[],_,b,hb=>by cases hb
 |[a],h,b,hb=>by simp at hb;subst hb;exact h
 |a::c::l,h,b,hb=>by
  simp only[nS]at h
  cases a with
  |false=>cases h
  |true =>
   rcases Be.1 hb with rfl|hb
   ·rfl
   ·exact A2x h b hb
theorem B7m {R:Type}{l:List Bool}{x:Option R}{r:R}(h:gC l x=some r):nS l=true/\x=some r:=by
 cases l with
 |nil=>exact⟨rfl,h⟩
 |cons a l =>
  simp only[gC]at h
  cases hc:nS (a::l)with
  |false=>rw[hc]at h;cases h
  |true=>rw[hc]at h;exact⟨rfl,h⟩
theorem B65 {R:Type}{g:Bool}{l:List Bool}{x:Option R}{r:R}(h:rD g l x=some r):(g=true->nS l=true)/\x=some r:=by
 cases l with
 |nil=>exact⟨fun _=>rfl,h⟩
 |cons a l =>
  simp only[rD]at h
  cases hc:nS (a::l)<;>cases g<;>rw[hc]at h<;>simp at h ⊢ <;> exact h
section
variable {en:K6} {ops:Array Oper}
theorem uV {os:OS}{st:St}{x:Operand}(h:∀b,D1s os x=some b->b=true)(t:TypeId):ev en (I8 os st) t x=ev en st t x:=by
 refine wP (fun u hu=>?_) t;subst hu;rw[qO]
 cases hl:os.lookup u with
 |none=>cases st.ρ[u]? <;> simp[lP hl]
 |some b=>cases st.ρ[u]? <;> simp[A7g hl (h b hl)]
def V6 (l:List (Nat×Bool))(s:St):Prop:=∀p∈l,∃c,s.ρ[p.1]? =some (.bool p.2,c)
def sM (os:OS)(ls:LS)(s:St):Prop:=∀q∈ls,∃b,os.lookup q.1=some b/\(b=true↔V6 q.2 s)
theorem pM {u:Nat}{l:List (Nat×Bool)}:∀{ls:LS},ls.lookup u=some l->(u,l)∈ls
 |[],h=>by cases h
 |(a,x)::ls,h=>by
  rw[Ct]at h;split at h
  ·rename_i e
   have e:u=a:=by simpa using e
   injection h with h;subst e h;exact An
  ·exact Ap _ (pM h)
theorem B9y {l L:List (Nat×Bool)}{s:St}(h:F56 l L=true)(hL:V6 L s):V6 l s:=by
 intro p hp;have:=Bg.1 h p hp;obtain⟨q,hq,e⟩:=Dp.1 this;simp only[Ae,beq_iff_eq]at e;rw[e.1,e.2];exact hL q hq
theorem A0z {os:OS}{ls:LS}{L:List (Nat×Bool)}{s:St}(hi:sM os ls s)(hL:V6 L s){x:Operand}(h:∀b,yR os ls L x=some b->b=true):∀b,D1s os x=some b->b=true:=by
 intro b hb;unfold D1s at hb;split at hb
 ·rename_i t;simp only[yR]at h;split at h
  ·rename_i l hl;split at h
   ·rename_i hs;obtain⟨b',h1,h2⟩:=hi _ (pM hl);rw[hb]at h1;injection h1 with h1;subst h1;exact h2.2 (B9y hs hL)
   ·exact h b hb
  ·exact h b hb
 ·cases hb
theorem B6x {os:OS}{ls:LS}{L:List (Nat×Bool)}{st:St}{c:Operand}{t:TypeId}{b:Bool}(hL:V6 L (I8 os st))(hc:(ev en (I8 os st) t c).1=.bool b):V6 (C7d c b L) (I8 os st):=by
 unfold C7d;split
 ·rename_i u;intro p hp;rcases Be.1 hp with rfl|hp
  ·simp only[ev,List.getD]at hc;rcases hr:(I8 os st).ρ[u]? with _|y
   ·rw[hr]at hc;cases hc
   ·rw[hr]at hc;obtain⟨y1,y2⟩:=y;simp only[Option.getD_some]at hc;exact⟨y2,by rw[hc]⟩
  ·exact hL p hp
 ·exact hL
theorem wN {os:OS}{ls:LS}{L:List (Nat×Bool)}{st:St}{o:Oper}(hi:sM os ls (I8 os st))(hL:V6 L (I8 os st))(h:nS (iI en st os ls L o)=true){act:C7}(ha:A9 en st o some=some act):A9 en (I8 os st) o some=some act:=by
 have key:(∀c a b,o.op≠.pick c a b)->A9 en (I8 os st) o some=some act:=by
  intro hne;rw[pR (st':=st) ?_ (B3u os st),ha];intro x hx t;refine uV (A0z hi hL fun b hb=>?_) t;refine A2x h b ?_;unfold iI;split
  ·rename_i c a b' he;exact(hne _ _ _ he).elim
  ·exact El.2 ⟨x,Dh.2 hx,hb⟩
 by_cases hp:∃c a b,o.op=.pick c a b
 ·obtain⟨c,a,b,hp⟩:=hp;clear key;simp only[iI,hp]at h;rw[<-ha];simp only[A9,hp]at ha ⊢;split at ha
  ·rename_i cb hc;rw[hc]at h;simp only at h;have hall:=A2x h;have ec:ev en (I8 os st) o.type c=ev en st o.type c:=uV (A0z hi hL fun b hb=>hall b (List.mem_append_left _ (by rw[hb];simp))) o.type
   have hcb:(ev en (I8 os st) o.type c).1=.bool cb:=by rw[ec,hc]
   rw[ec,hc];simp only;have hL':=B6x (ls:=ls) hL hcb
   cases cb with
   |true =>
    have ea:ev en (I8 os st) o.type a=ev en st o.type a:=uV (A0z hi hL' fun x hx=>hall x (List.mem_append_right _ (by rw[hx];cases yR os ls (C7d c false L) b<;>simp))) o.type;rw[ea];generalize(ev en (I8 os st) o.type b).1=Y;generalize(ev en st o.type b).1=Y';generalize(ev en st o.type a).1=X
    cases X<;>first|rfl|(cases Y<;>cases Y'<;>rfl)
   |false =>
    have eb:ev en (I8 os st) o.type b=ev en st o.type b:=uV (A0z hi hL' fun x hx=>hall x (List.mem_append_right _ (by rw[hx];cases yR os ls (C7d c true L) a<;>simp))) o.type;rw[eb];generalize(ev en (I8 os st) o.type a).1=X;generalize(ev en st o.type a).1=X';generalize(ev en st o.type b).1=Y
    cases X<;>cases X'<;>first|rfl|(cases Y<;>rfl)
  ·cases ha
 ·exact key (fun c a b e=>hp ⟨c,a,b,e⟩)
theorem B33 {os:OS}{d:Option Tmp}{x y:TV}{st:St}{g:OS}(h1:∀t,d≠some t->g.lookup t=os.lookup t)(h2:∀t,d=some t->fX g t x=y):I8 g (O4 d x st)=O4 d y (I8 os st):=by
 cases d with
 |none =>
  simp only[O4];rw[P4,P4];congr 1;apply Ep;intro i
  have e:fX g (0+i)=fX os (0+i):=by funext z;unfold fX;rw[h1 _ (by simp)]
  rw[eW,eW,e]
 |some d =>
  simp only[O4];rw[P4,P4];simp only[St.mk.injEq,and_true];apply Ep;intro i;rw[eW]
  by_cases e:d=i
  ·subst e;rw[Fo,Fo];simp only[if_true,oT];split
   ·simp[h2 d rfl]
   ·rfl
  ·have e2:fX g i=fX os i:=by funext z;unfold fX;rw[h1 _ (fun k=>e (Cr k))]
   rw[Ay e,Ay e,eW,Bm,e2]
theorem A0w {os:OS}{d:Option Tmp}{t:Nat}(h:d≠some t):(gL d os).lookup t=os.lookup t:=by
 cases d with
 |none=>rfl
 |some d =>
  simp only[gL]
  induction os with
  |nil=>rfl
  |cons p os ih =>
   obtain⟨a,b⟩:=p;have hd:d≠t:=fun e=>h (by rw[e])
   by_cases e:a=d
   ·subst e;rw[List.filter_cons_of_neg (by simp),ih,Ct]
    have:(t==a)=false:=by simpa using fun e=>hd e.symm
    rw[this]
   ·rw[List.filter_cons_of_pos (by simpa using e),Ct,Ct,ih]
theorem C5u {os:OS}{d:Nat}:(gL (some d) os).lookup d=none:=by
 simp only[gL]
 induction os with
 |nil=>rfl
 |cons p os ih =>
  obtain⟨a,b⟩:=p
  by_cases e:a=d
  ·subst e;rw[List.filter_cons_of_neg (by simp),ih]
  ·rw[List.filter_cons_of_pos (by simpa using e),Ct,ih]
   have:(d==a)=false:=by simpa using fun k=>e k.symm
   rw[this]
theorem gQ {os:OS}{d:Option Tmp}{x:TV}{st:St}:I8 (gL d os) (O4 d x st)=O4 d x (I8 os st) :=
 B33 (fun t h=>A0w h) (fun t h=>by subst h;exact lP C5u _)
theorem wF {os:OS}{d:Option Tmp}{g:Bool}{x:TV}{st:St}:I8 (A07 d g os) (O4 d x st)=O4 d (bif g then x else(.tuple [],0)) (I8 os st):=by
 refine B33 (fun t h=>?_) (fun t h=>?_)
 ·cases d with
  |none=>rfl
  |some d =>
   simp only[A07,Ct]
   have:(t==d)=false:=by simpa using fun e:t=d=>h (by rw[e])
   rw[this]
 ·subst h;simp only[A07,fX,Ct,beq_self_eq_true]
theorem tD {α:Type}{f:Nat->α->α}{g:α->α}(h:∀i x,g (f i x)=f i (g x)):∀(l:List α) (k:Nat),(S4 f k l).map g=S4 f k (l.map g)
 |[],_=>rfl
 |x::l,k=>by simp only[S4,Cb,h,tD h l]
theorem D3p (os:OS)(c t:Nat)(x:TV):clr c (fX os t x)=fX os t (clr c x):=by
 unfold fX
 cases os.lookup t with
 |none=>rfl
 |some b =>
  cases b
  ·unfold clr;simp only[cond_false];split
   ·rename_i h;simp only[Ae,decide_eq_true_eq]at h;omega
   ·rfl
  ·rfl
theorem B3r (os:OS)(st:St)(c:Nat):I8 os (st.clr c)=(I8 os st).clr c:=by
 rw[P4,P4];simp only[St.clr];rw[tD (fun i x=>D3p os c i x)]
theorem C5s (os:OS)(id t:Nat)(x:TV):uI id (fX os t x)=fX os t (uI id x):=by
 unfold fX
 cases os.lookup t with
 |none=>rfl
 |some b=>cases b<;>rfl
theorem C4y (os:OS)(st:St)(id:Nat):I8 os (st.kill id)=(I8 os st).kill id:=by
 rw[P4,P4];simp only[St.kill];rw[tD (fun i x=>C5s os id i x)]
theorem B8k {os:OS}{act:C7}{d:Option Tmp}{st st':St}(ho:yZ os act=true)(h:B0 act d st=some st'):B0 act d (I8 os st)=some (I8 (gL d os) st'):=by
 have hv:S1 act=true->B0 act d (I8 os st)=some (I8 (gL d os) st'):=by
  intro hv;obtain⟨x,h1,rfl⟩:=(G6 hv).1 h;rw[gQ];exact(G6 hv).2 ⟨x,by rw[rL];exact h1,rfl⟩
 cases act with
 |skip=>exact hv rfl
 |val v c=>exact hv rfl
 |load id off n agg=>exact hv rfl
 |store id off cells =>
  simp only[B0]at h ⊢;rw[rL];split at h
  ·rename_i cs hb;obtain⟨cs',h1,rfl⟩:=Am.1 h;rw[h1,P4,P4];rfl
  ·cases h
 |mk cells =>
  simp only[B0]at h ⊢;rw[rL];split at h
  ·rename_i d;split at h
   ·rename_i hb;obtain⟨hdl,h⟩:=A5 h;injection h with h;subst h;rw[A2b,if_pos hdl];have:=gQ (os:=os) (d:=some d) (x:=(.ptr d 0,0)) (st:=st);rw[P4,P4]at this;simp only[O4,St.mk.injEq]at this;rw[P4,P4];simp only[this.1]
   ·cases h
  ·cases h
 |hcall ws n0 more v o =>
  obtain⟨bx',h1,rfl⟩:=Q6.1 h;refine Q6.2 ⟨bx',by rw[A2b,rL];exact h1,?_⟩;rw[gQ];congr 1;rw[P4,P4]
 |cons id cells v =>
  simp only[B0]at h ⊢
  cases d with
  |none=>cases h
  |some d =>
   simp only at h ⊢;injection h with h;subst h;rw[gQ,C4y]
 |own c v =>
  simp only[B0]at h ⊢
  cases d with
  |none=>cases h
  |some d =>
   injection h with h;subst h;have e:=gQ (os:=os) (d:=some d) (x:=(v,d+2)) (st:=(st.clr c).clr (d+2))
   have e2:I8 os ((st.clr c).clr (d+2))=((I8 os st).clr c).clr (d+2):=by rw[B3r,B3r]
   rw[e2]at e;simp only[O4]at e;rw[show(I8 os st).out=st.out from A2s os st]
   exact congrArg some (Eq.trans (by
    show _=({((I8 os st).clr c).clr (d+2)with ρ:=(((I8 os st).clr c).clr (d+2)).ρ.set d (v,d+2)}:St)
    simp only[St.clr,A2s]) e.symm)
theorem A2y {d:Option Tmp}{y:TV}{s:St}{t:Nat}(h:d≠some t):(O4 d y s).ρ[t]? =s.ρ[t]? :=by
 cases d with
 |none=>rfl
 |some d=>simp only[O4];rw[Ay (fun e=>h (by rw[e]))]
theorem vG {l:List (Nat×Bool)}{s s':St}(h:∀p∈l,s'.ρ[p.1]? =s.ρ[p.1]?):V6 l s'↔V6 l s:=by
 constructor
 ·intro k p hp;rw[<-h p hp];exact k p hp
 ·intro k p hp;rw[h p hp];exact k p hp
theorem A8e {os os':OS}{ls:LS}{d:Option Tmp}{s:St}{y:TV}(hi:sM os ls s)(ho:∀t,d≠some t->os'.lookup t=os.lookup t):sM os' (iP d ls) (O4 d y s):=by
 cases d with
 |none =>
  intro q hq;obtain⟨b,h1,h2⟩:=hi q hq;exact⟨b,by rw[ho _ (by simp)];exact h1,h2⟩
 |some d =>
  intro q hq;simp only[iP,List.mem_filter,Ae,bne_iff_ne,Er,ne_eq]at hq;obtain⟨hq,n1,n2⟩:=hq;obtain⟨b,h1,h2⟩:=hi q hq;refine⟨b,by rw[ho _ (fun e=>n1 (Cr e).symm)];exact h1,h2.trans (vG fun p hp=>?_).symm⟩;refine A2y fun e=>?_;have:=List.any_eq_false.1 n2 p hp;simp only[beq_iff_eq]at this;exact this (Cr e).symm
theorem A0h {os:OS}{s:St}:sM os [] s:=fun q hq=>by cases hq
theorem E50 {os:OS}{d:Option Tmp}{g:Bool}{t:Nat}(h:d≠some t):(A07 d g os).lookup t=os.lookup t:=by
 cases d with
 |none=>rfl
 |some d =>
  simp only[A07,Ct]
  have:(t==d)=false:=by simpa using fun e:t=d=>h (by rw[e])
  rw[this]
theorem B9p {os:OS}{ls:LS}{s:St}{t:Nat}{want:Bool}(hi:sM os ls s){l:List (Nat×Bool)}(h:aJ os ls t want=some l){g:Bool}(hg:g=true↔(∃c,s.ρ[t]? =some (.bool want,c)))(hp:∀b,os.lookup t=some b->(∃c,s.ρ[t]? =some (.bool want,c))->b=true):g=true↔V6 l s:=by
 unfold aJ at h;split at h
 ·injection h with h;subst h;rw[hg];constructor
  ·intro k p hp;simp only[Ey]at hp;subst hp;exact k
  ·intro k;exact k (t,want) (by simp)
 ·rename_i b hb;obtain⟨l',h1,rfl⟩:=Am.1 h;obtain⟨b',h2,h3⟩:=hi _ (pM h1);rw[hb]at h2;injection h2 with h2;subst h2;rw[hg];constructor
  ·intro k p hm;rcases Be.1 hm with rfl|hm
   ·exact k
   ·exact h3.1 (hp b hb k) p hm
  ·intro k;exact k (t,want) (by simp)
theorem C06 {os:OS}{ls:LS}{d:Option Tmp}{s:St}{y:TV}{g:Bool}{ol:Option (List (Nat×Bool))}(hi:sM os ls s)(hl:∀l,ol=some l->(g=true↔V6 l s)):sM (A07 d g os) (C3r d ol (iP d ls)) (O4 d y s):=by
 have h0:sM (A07 d g os) (iP d ls) (O4 d y s):=A8e hi fun t h=>E50 h;unfold C3r;split
 ·rename_i d l;split
  ·exact h0
  ·rename_i hn;intro q hq;rcases Be.1 hq with rfl|hq
   ·refine⟨g,by simp[A07],(hl l rfl).trans (vG fun p hp=>?_).symm⟩;refine A2y fun e=>hn ?_;exact Dp.2 ⟨p,hp,by simpa using(Cr e).symm⟩
   ·exact h0 q hq
 ·exact h0
def done:List C7->List C7->Prop
 |[],[]=>True
 |a::as',b::bs=>(a=b\/a=.skip)/\done as' bs
 |_,_=>False
theorem D07 {o:Oper}{st:St}(h:o.guard=none):T2 ops o st=some true:=by unfold T2;rw[h]
theorem C9x {o:Oper}{st:St}{j:Nat}{want:Bool}(h:o.guard=some (j,want))(hd:(ops[j]?).bind (·.dst)=none):T2 ops o st=some false:=by unfold T2;rw[h];simp only;rw[hd]
theorem D0g {o:Oper}{st:St}{j:Nat}{want:Bool}{t:Nat}(h:o.guard=some (j,want))(hd:(ops[j]?).bind (·.dst)=some t):T2 ops o st=match st.ρ[t]? with
 |some (.bool b,_)=>some (b==want)
 |some (.tuple [],_)=>some false
 |_=>none:=by unfold T2;rw[h];simp only;rw[hd];first|done|rfl
theorem D0n {st:St}{t:Nat}{x:TV}(h:st.ρ[t]? =some x):{st with ρ:=st.ρ.set t x}=st:=by rw[B28 h]
theorem C66 {os:OS}{st:St}{p:Nat×Bool}(h:∃c,(I8 os st).ρ[p.1]? =some (.bool p.2,c)):I8 (B4o p (st,os)).2 (B4o p (st,os)).1=I8 os st:=by
 obtain⟨t,w⟩:=p;obtain⟨c,h⟩:=h;unfold B4o;simp only;split
 ·rename_i x c' hr
  have hx:(I8 os st).ρ[t]? =some (.bool w,c'):=by
   rw[qO,hr]at h ⊢;simp only[Aq,Ah]at h ⊢;unfold fX at h ⊢
   cases hl:os.lookup t with
   |none=>rw[hl]at h;simp only[Prod.mk.injEq]at h ⊢;exact⟨h.1,trivial⟩
   |some b =>
    rw[hl]at h
    cases b with
    |true=>simp only[cond_true,Prod.mk.injEq]at h ⊢;exact⟨h.1,trivial⟩
    |false=>simp at h
  have:=gQ (os:=os) (d:=some t) (x:=(.bool w,c')) (st:=st);simp only[O4]at this ⊢;rw[this,D0n hx]
 ·rfl
theorem B1k {os:OS}{st:St}:∀(L:List (Nat×Bool)),V6 L (I8 os st)->I8 (jE L (st,os)).2 (jE L (st,os)).1=I8 os st
 |[],_=>rfl
 |p::L,h=>by
  have ih:=B1k L (fun q hq=>h q (Ap _ hq));simp only[jE];have:=C66 (os:=(jE L (st,os)).2) (st:=(jE L (st,os)).1) (p:=p) (by rw[ih];exact h p An);rw[this,ih]
theorem zO {st:St}{os:OS}{u:Nat}:∀(L:List (Nat×Bool)),(∀p∈L,p.1≠u)->(jE L (st,os)).2.lookup u=os.lookup u
 |[],_=>rfl
 |p::L,h=>by
  have ih:=zO (st:=st) (os:=os) L (fun q hq=>h q (Ap _ hq));simp only[jE,B4o];split
  ·rw[A0w (fun e=>h p An (Cr e)),ih]
  ·exact ih
theorem D5a {os:OS}{ls:LS}{st:St}{s:St}(L:List (Nat×Bool))(hi:sM os ls s):sM (jE L (st,os)).2 (C3o L ls) s:=by
 intro q hq;simp only[C3o,List.mem_filter,Er]at hq;obtain⟨b,h1,h2⟩:=hi q hq.1;refine⟨b,?_,h2⟩;rw[zO L (fun p hp e=>?_),h1];have:=List.any_eq_false.1 hq.2 p hp;simp only[beq_iff_eq]at this;exact this e
theorem B03 {R:Type}{o:Oper}{act:C7}{st:St}{k:St->Option R}{r:R}(h:aD en o act st k=some r):∃st',B0 act o.dst st=some st'/\k st'=some r:=by
 have plain:(match B0 act o.dst st with|some st'=>k st' |none=>none)=some r->∃st',B0 act o.dst st=some st'/\k st'=some r:=by
  intro h;split at h
  ·rename_i st' hp;exact⟨st',hp,h⟩
  ·cases h
 cases act with
 |load id off n agg =>
  simp only[aD]at h;split at h
  ·rename_i xs ha;split at h
   ·rename_i t a ho;obtain⟨⟨hl,hn0⟩,h⟩:=A5 h;rw[gX]at h;obtain⟨ys,hy,h⟩:=A6 h;replace hy:=A3z hy;have e1:=tF hy;have e2:=oP hy;obtain⟨cs,hbx,hab⟩:=mW ha;rw[hl]at e1 e2;rw[Ax]at e2;simp only[B0,K8,hbx,hab]
    cases agg with
    |true =>
     simp only[if_true]at h ⊢;rw[if_pos (by omega)];refine⟨_,rfl,?_⟩;rw[e1]at h;rw[List.drop_take,show off+n-off=n by omega];exact h
    |false =>
     simp only[Bp,if_false]at h ⊢;split at h
     ·rename_i x
      have:xs[off]? =some x:=by
       have h8:(xs.drop off)[0]? =xs[off]? :=by rw[Ca,Nat.add_zero]
       rw[<-h8]
       cases hxs:xs.drop off with
       |nil=>rw[hxs]at e1;simp at e1
       |cons y ys =>
        rw[hxs]at e1
        cases n with
        |zero=>omega
        |succ n =>
         simp only[List.take_succ_cons,Cl]at e1;rw[e1.1];rfl
      rw[this];exact⟨_,rfl,h⟩
     ·cases h
   ·cases h
  ·exact plain h
 |store id off cells =>
  simp only[aD]at h;split at h
  ·rename_i xs ha hd;obtain⟨hb,h⟩:=B8 h;obtain⟨cs,hbx,hab⟩:=mW ha;refine⟨_,?_,h⟩;simp only[B0,hbx,hd,A9s,hab,hb,cond_true,Aq]
  ·exact plain h
 |_=>exact plain h
theorem eI {R:Type}(hE:en.nat):∀(rest:List Oper) (acc:List C7) (st:St) (os:OS) (ls:LS) (kn:OS) (k:St->List C7->Option R) (r:R),sM os ls (I8 os st)->W9 en ops rest acc st os ls kn k=some r->
  ∃acts' acts st',jF en ops rest acts' (I8 os st) st'/\done acts' acts/\k st' (acts.reverse++acc)=some r
 |[],acc,st,os,ls,kn,k,r,hi,h=>⟨[],[],_,rfl,trivial,h⟩
 |o::rest,acc,st,os,ls,kn,k,r,hi,h=>by
  have run:∀(os:OS) (ls:LS) (st:St) (L:List (Nat×Bool)) (kn:OS),sM os ls (I8 os st)->V6 L (I8 os st)->T2 ops o (I8 os st)=some true->(gC (iI en st os ls L o) (A9 en st o fun act =>
    if yZ os act then aD en o act st fun st'=>W9 en ops rest (act::acc) st' (gL o.dst os) (if S1 act then iP o.dst ls else []) kn k
    else none))=some r->∃acts' acts st',jF en ops (o::rest) acts' (I8 os st) st'/\done acts' acts/\k st' (acts.reverse++acc)=some r:=by
   intro os ls st L kn hi hL hg h;obtain⟨h1,h⟩:=B7m h;rw[X8 en hE]at h;obtain⟨act,ha,h⟩:=A6 h;obtain⟨ho,h⟩:=A5 h;obtain⟨st1,hp,h⟩:=B03 h
   ·have hi':sM (gL o.dst os) (if S1 act then iP o.dst ls else []) (I8 (gL o.dst os) st1):=by
     split
     ·rename_i hv;obtain⟨v,h5,rfl⟩:=(G6 hv).1 hp;rw[gQ];exact A8e hi fun t h=>A0w h
     ·exact A0h
    obtain⟨acts',acts,st',h2,h3,h4⟩:=eI hE rest _ _ _ _ _ _ _ hi' h;exact⟨act::acts',act::acts,st',⟨_,.inl ⟨hg,wN hi hL h1 ha,B8k ho hp⟩,h2⟩,⟨.inl rfl,h3⟩,by simpa using h4⟩
  have skip:∀(st:St) (kn:OS),sM os ls (I8 os st)->T2 ops o (I8 os st)=some false->W9 en ops rest (.skip::acc) (O4 o.dst (.tuple [],0) st) (gL o.dst os) (iP o.dst ls) kn k=some r->
    ∃acts' acts st',jF en ops (o::rest) acts' (I8 os st) st'/\done acts' acts/\k st' (acts.reverse++acc)=some r:=by
   intro st kn hi hg h;obtain⟨acts',acts,st',h2,h3,h4⟩:=eI hE rest _ _ _ _ _ _ _ (by rw[gQ];exact A8e hi fun t h=>A0w h) h;exact⟨.skip::acts',.skip::acts,st',⟨_,.inr ⟨hg,rfl,rfl⟩,by rw[gQ]at h2;exact h2⟩,⟨.inl rfl,h3⟩,by simpa using h4⟩
  have junk:∀(kn:OS) (t:Nat) (want:Bool),(∀l,aJ os ls t want=some l->(false=true↔V6 l (I8 os st)))->T2 ops o (I8 os st)=some false->W9 en ops rest (.skip::acc) (O4 o.dst (C96 en.P o.type) st) (A07 o.dst false os) (C3r o.dst (aJ os ls t want) (iP o.dst ls)) kn k=some r->
    ∃acts' acts st',jF en ops (o::rest) acts' (I8 os st) st'/\done acts' acts/\k st' (acts.reverse++acc)=some r:=by
   intro kn t want hlit hg h;obtain⟨acts',acts,st',h2,h3,h4⟩:=eI hE rest _ _ _ _ _ _ _ (by rw[wF];exact C06 hi hlit) h;rw[wF]at h2;exact⟨.skip::acts',.skip::acts,st',⟨_,.inr ⟨hg,rfl,rfl⟩,h2⟩,⟨.inl rfl,h3⟩,by simpa using h4⟩
  have hnil:V6 [] (I8 os st):=fun p hp=>by cases hp
  simp only[W9]at h;split at h
  ·rename_i hg;exact run _ _ st _ kn hi hnil (D07 hg) h
  ·rename_i j want hg;split at h
   ·rename_i hd;exact skip st kn hi (C9x hg hd) h
   ·rename_i t hd;have gt:=fun s=>D0g (st:=s) hg hd;split at h
    ·rename_i c hr;split at h
     ·rename_i hl;refine skip st kn hi ?_ h;rw[gt,qO,hr];simp only[Aq,lP hl]
     ·cases h
    ·rename_i x c hr;obtain⟨g,hgd⟩:∃g:Bool,g=tT (os.lookup t) want x:=⟨_,rfl⟩
     have hgt:T2 ops o (I8 os st)=some g/\(g=true↔∃c,(I8 os st).ρ[t]? =some (.bool want,c))/\(∀b,os.lookup t=some b->(∃c,(I8 os st).ρ[t]? =some (.bool want,c))->b=true):=by
      rw[gt,qO,hr,hgd];unfold tT
      cases hl:os.lookup t with
      |none=>simp only[Aq,lP hl];cases x<;>cases want<;>simp
      |some b =>
       cases b with
       |true=>simp only[Aq,A7g hl];cases x<;>cases want<;>simp
       |false=>simp only[Aq,B8c hl];simp
     obtain⟨hgt,hgw,hgp⟩:=hgt;split at h
     ·rename_i b hk hl;rcases hb:(x==b)with _|_<;>rw[hb]at h
      ·cases h
      ·simp only[cond_true]at h
       have hx:x=b:=by simpa using hb
       subst hx
       have hrt:(I8 os st).ρ[t]? =some (.bool x,c):=by rw[qO,hr];simp only[Aq,lP hl]
       have hgt:T2 ops o (I8 os st)=some (x==want):=by rw[gt,hrt]
       split at h
       ·rename_i hw;refine run _ _ st _ kn hi ?_ (by rw[hgt,hw]) h;intro p hp;simp only[Ey]at hp;subst hp;exact⟨c,by rw[hrt,show x=want by simpa using hw]⟩
       ·rename_i hw;exact skip st kn hi (by rw[hgt];simpa using hw) h
     ·rename_i w b hk hl;obtain⟨hw,h⟩:=A5 h;rw[hl]at hgd;rw[<-hgd]at h
      cases g with
      |true=>cases h
      |false=>exact junk _ t want (fun l hl=>B9p hi hl hgw hgp) hgt h
     ·rename_i ob hk;split at h
      ·rw[<-hgd]at h;obtain⟨h1,h⟩:=B65 h;rw[X8 en hE]at h;obtain⟨act,ha,h⟩:=A6 h;obtain⟨hv,h⟩:=A5 h;split at h
       ·rename_i v hav;have hlit:∀l,aJ os ls t want=some l->(g=true↔V6 l (I8 os st)):=fun l hl=>B9p hi hl hgw hgp;obtain⟨acts',acts,st',h2,h3,h4⟩:=eI hE rest _ _ _ _ _ _ _ (by rw[wF];exact C06 hi hlit) h;rw[wF]at h2
        have hLg:g=true->V6 ((aJ os ls t want).getD []) (I8 os st):=by
         intro hg1
         cases hlo:aJ os ls t want with
         |none=>exact hnil
         |some l=>exact(hlit l hlo).1 hg1
        cases g with
        |true=>exact⟨act::acts',act::acts,st',⟨_,.inl ⟨hgt,wN hi (hLg rfl) (h1 rfl) ha,(G6 hv).2 ⟨v,by rw[rL];exact hav,rfl⟩⟩,h2⟩,⟨.inl rfl,h3⟩,by simpa using h4⟩
        |false=>exact⟨.skip::acts',act::acts,st',⟨_,.inr ⟨hgt,rfl,rfl⟩,h2⟩,⟨.inr rfl,h3⟩,by simpa using h4⟩
       ·cases h
      ·split at h
       ·rename_i b hob;rw[hob]at hgd;rw[<-hgd]at h;have hlit:∀l,aJ os ls t want=some l->(g=true↔V6 l (I8 os st)):=fun l hl=>B9p hi hl hgw hgp
        have hLg:g=true->V6 ((aJ os ls t want).getD []) (I8 os st):=by
         intro hg1
         cases hlo:aJ os ls t want with
         |none=>exact hnil
         |some l=>exact(hlit l hlo).1 hg1
        cases g with
        |true =>
         simp only[cond_true]at h;have e:=B1k _ (hLg rfl);have:=run _ _ _ _ _ (by rw[e];exact D5a _ hi) (by rw[e];exact hLg rfl) (by rw[e];exact hgt) h;rw[e]at this;exact this
        |false=>exact junk _ t want hlit hgt h
       ·rename_i hob;rw[hob]at hgd;simp only[tT]at hgd
        have hs:∀b,x=b->({st with ρ:=st.ρ.set t (.bool b,c)}:St)=st:=by rintro b rfl;exact D0n hr
        have hLw:g=true->V6 [(t,want)] (I8 os st):=by
         intro hg1 p hp;simp only[Ey]at hp;subst hp;exact hgw.1 hg1
        cases want<;>cases x<;>simp only[Bp,if_true,if_false,Bool.not_true,Bool.not_false,cond_true,cond_false]at h hgd hs<;>rw[hs _ rfl]at h<;>subst hgd
        ·exact run _ _ st _ _ hi (hLw rfl) hgt h
        ·exact skip st _ hi hgt h
        ·exact skip st _ hi hgt h
        ·exact run _ _ st _ _ hi (hLw rfl) hgt h
    ·cases h
end
end Go.Proofs.YtkpfigikffphdaaGreatDoor
end
