/-
  Lemmas, part P2: what the claim needs of the texts of wip/tpl.
-/
import Derived.Lib.AppendStr
import Derived.Test.YtkpfigikffphdaaGreatDoorPqPA
set_option linter.unusedVariables false
set_option linter.unusedSimpArgs false
open Array renaming ext'→Eh,range→Ez
open Bool renaming and_eq_true→Ae,false_eq_true→Bp
open List renaming length_cons→Ac,length_append→Af,getElem?_eq_some_iff→Aj,append_assoc→Al,getElem?_set_ne→Ay,getElem?_map→Az,getElem?_append_left→Bd,append_nil→Bf,getElem?_append_right→Bj,getElem?_eq_none→Bs,replicate→Bv,getElem?_drop→Ca,length_take→Cf,size_toArray→Dd,eq_nil_of_length_eq_zero→Dw,ext_getElem?→Ep,getElem?_take_of_lt→Ew
open Nat renaming le_refl→Ak,lt_of_lt_of_le→As,zero_add→Bm,add_zero→Dg,add_mul→Di,eq_zero_or_pos→Ed,mul_le_mul_right→Es
open Option renaming map_eq_some_iff→Am,map_some→Aq
open Option.some renaming injEq→Ah
open Prod.mk renaming injEq→Dz
section
namespace Go.Proofs.YtkpfigikffphdaaGreatDoor
open Go.RowKit
section
variable {NG:Nat} {X:Cx} {st:St} {a:Act} {M:C4} {β κ:Nat->Option Nat}
theorem InvB.box_lt (h:InvB NG X st a M β κ){id b:Nat}(hb:β id=some b):b<M.w.heap.size:=by
 obtain⟨cs,arr,e,_,h2,_⟩:=h.box id b hb;exact h2.lt
theorem vF (c:Nat)(x:TV):(clr c x).1=x.1:=by unfold clr;split<;>rfl
theorem C26 (c:Nat){M:C4}{κ:Nat->Option Nat}{x:TV}{v:Value}(h:N1 M κ x.1 x.2 v):N1 M (fun t=>if t=c then none else κ t) (clr c x).1 (clr c x).2 v:=by
 unfold clr;split
 ·exact .inl rfl
 ·rename_i hc;rcases h with h|⟨nl,sz,n,cells,hx,h⟩
  ·exact .inl h
  ·refine .inr ⟨nl,sz,n,cells,hx,?_⟩;rcases h with h|⟨h2,g,hk,ho⟩
   ·exact .inl h
   ·refine .inr ⟨h2,g,?_,ho⟩;show(if x.2=c then none else κ x.2)=some g;rw[if_neg (fun e=>hc (by simp[<-e,h2]))];exact hk
theorem J6.clr (c:Nat) {M:C4} {β κ:Nat->Option Nat} {cs:List TV} {arr:List Value} (h:J6 M β κ cs arr):J6 M β (fun t=>if t=c then none else κ t) (cs.map (Go.Proofs.YtkpfigikffphdaaGreatDoor.clr c)) arr :=
 ⟨by simp [h.1],fun j x hx=>by
  rw [Az]at hx;rcases hj:cs[j]? with _ |y
  ·rw [hj]at hx;simp at hx
  ·rw [hj]at hx;simp at hx;subst hx;obtain⟨u,h1,h2,h3,h4⟩:=h.2 j y hj
   exact⟨u,h1,h2,by rw [vF];exact h3,C26 c h4⟩⟩
theorem Y8.clr (c:Nat){M:C4}{β κ:Nat->Option Nat}{cs:List TV}{arr:List Value}(h:Y8 M β κ cs arr):Y8 M β (fun t=>if t=c then none else κ t) (cs.map (Go.Proofs.YtkpfigikffphdaaGreatDoor.clr c)) arr:=by
 rcases h with h|⟨xs,rfl,h⟩
 ·exact .inl (h.clr c)
 ·refine .inr ⟨xs,?_,h⟩;simp only[List.map_cons,List.map_nil,Go.Proofs.YtkpfigikffphdaaGreatDoor.clr];rw[if_neg (by simp;omega)]
theorem InvB.drop (h:InvB NG X st a M β κ)(c:Nat):InvB NG X (st.clr c) a M β (fun t=>if t=c then none else κ t) where
 mv:=h.mv
 ng:=h.ng
 fpng:=h.fpng
 len:=by simp[St.clr,h.len]
 slot:=by
  intro t x hx;simp only[St.clr,Az]at hx;rcases ht:st.ρ[t]? with _|y
  ·rw[ht]at hx;simp at hx
  ·rw[ht]at hx;simp at hx;subst hx;obtain⟨v,h1,h2,h3⟩:=h.slot t y ht;exact⟨v,h1,by rw[vF];exact h2,C26 c h3⟩
 box:=by
  intro id b hb;obtain⟨cs,arr,e,h1,h2,h3,h4,h5⟩:=h.box id b hb;exact⟨cs.map (Go.Proofs.YtkpfigikffphdaaGreatDoor.clr c),arr,e,by simp[St.clr,Az,h1],h2,h3.clr c,h4,h5⟩
 alive:=by
  intro id cs hc;simp only[St.clr,Az]at hc;rcases hi:st.bx[id]? with _|o
  ·rw[hi]at hc;simp at hc
  ·rw[hi]at hc
   cases o with
   |none=>simp at hc
   |some ds=>exact h.alive id ds hi
 binj:=h.binj
 kinj:=by
  intro t t' g h1 h2
  by_cases e1:t=c
  ·simp[e1]at h1
  ·by_cases e2:t'=c
   ·simp[e2]at h2
   ·rw[if_neg e1]at h1;rw[if_neg e2]at h2;exact h.kinj t t' g h1 h2
 kbox:=by
  intro t g id b h1 h2
  by_cases e1:t=c
  ·simp[e1]at h1
  ·rw[if_neg e1]at h1;exact h.kbox t g id b h1 h2
 klow:=by
  intro t g h1
  by_cases e1:t=c
  ·simp[e1]at h1
  ·rw[if_neg e1]at h1;exact h.klow t g h1
 khigh:=by
  intro t g h1
  by_cases e1:t=c
  ·simp[e1]at h1
  ·rw[if_neg e1]at h1;exact h.khigh t g h1
theorem InvB.move (h:InvB NG X st a M β κ){M':C4}{g:Nat}(hm:L4 M M' (some g))(h0:X.low g)(hκ:∀c,κ c≠some g)(hβ:∀id,β id≠some g):InvB NG X st a M' β κ where
 mv:=h.mv.trans hm.x (fun b hb e=>by injection e with e;subst e;rcases h0 with h0|h0;(·omega);exact h0)
 ng:=h.ng
 fpng:=h.fpng
 len:=h.len
 slot:=fun t x hx=>let⟨v,h1,h2,h3⟩:=h.slot t x hx;⟨v,h1,h2.mono hm.le (fun _ _ h=>h),h3.move hm (fun g' hg e=>hκ x.2 (by rw[hg];exact e))⟩
 box:=fun id b hb=>by
  obtain⟨cs,arr,e,h1,h2,h3,h4,h5⟩:=h.box id b hb;obtain⟨k1,k2⟩:=hm.block b h2.lt (fun e=>hβ id (by rw[hb];exact e));exact⟨cs,arr,e,h1,h2.of_eq k1,h3.move hm (fun _ _ h=>h) (fun c g' hg e=>hκ c (by rw[hg];exact e)),k2.trans h4,h5⟩
 alive:=h.alive
 binj:=h.binj
 kinj:=h.kinj
 kbox:=h.kbox
 klow:=h.klow
 khigh:=fun c g hk=>As (h.khigh c g hk) hm.size
theorem N1.name {M:C4}{κ:Nat->Option Nat}{c g:Nat}(hc:κ c=none){x:PV}{t:Nat}{v:Value}(h:N1 M κ x t v):N1 M (fun t=>if t=c then some g else κ t) x t v:=by
 rcases h with h|⟨nl,sz,n,cells,hx,h⟩
 ·exact .inl h
 ·refine .inr ⟨nl,sz,n,cells,hx,?_⟩;rcases h with h|⟨h2,g',hk,ho⟩
  ·exact .inl h
  ·refine .inr ⟨h2,g',?_,ho⟩;show(if t=c then some g else κ t)=some g';rw[if_neg (fun e=>by rw[e,hc]at hk;cases hk)];exact hk
theorem InvB.name (h:InvB NG X st a M β κ){c g:Nat}(hc:κ c=none)(h0:X.low g)(h1:g<M.w.heap.size)(hκ:∀c,κ c≠some g)(hβ:∀id,β id≠some g):InvB NG X st a M β (fun t=>if t=c then some g else κ t) where
 mv:=h.mv
 ng:=h.ng
 fpng:=h.fpng
 len:=h.len
 slot:=fun t x hx=>let⟨v,h1,h2,h3⟩:=h.slot t x hx;⟨v,h1,h2,h3.name hc⟩
 box:=fun id b hb=>by
  obtain⟨cs,arr,e,h1,h2,h3,h4,h5⟩:=h.box id b hb;exact⟨cs,arr,e,h1,h2,h3.imp (fun h3=>⟨h3.1,fun j x hx=>let⟨u,k1,k2,k3,k4⟩:=h3.2 j x hx;⟨u,k1,k2,k3,k4.name hc⟩⟩) fun q=>q,h4,h5⟩
 alive:=h.alive
 binj:=h.binj
 kinj:=by
  intro t t' g' h1 h2
  by_cases e1:t=c<;>by_cases e2:t'=c
  ·rw[e1,e2]
  ·rw[if_pos e1]at h1;rw[if_neg e2]at h2;injection h1 with h1;subst h1;exact(hκ _ h2).elim
  ·rw[if_neg e1]at h1;rw[if_pos e2]at h2;injection h2 with h2;subst h2;exact(hκ _ h1).elim
  ·rw[if_neg e1]at h1;rw[if_neg e2]at h2;exact h.kinj t t' g' h1 h2
 kbox:=by
  intro t g' id b h1 h2
  by_cases e1:t=c
  ·rw[if_pos e1]at h1;injection h1 with h1;subst h1;intro e;subst e;exact hβ id h2
  ·rw[if_neg e1]at h1;exact h.kbox t g' id b h1 h2
 klow:=by
  intro t g' h2
  by_cases e1:t=c
  ·rw[if_pos e1]at h2;injection h2 with h2;subst h2;exact h0
  ·rw[if_neg e1]at h2;exact h.klow t g' h2
 khigh:=by
  intro t g' h2
  by_cases e1:t=c
  ·rw[if_pos e1]at h2;injection h2 with h2;subst h2;exact h1
  ·rw[if_neg e1]at h2;exact h.khigh t g' h2
theorem InvB.addBox0 (h:InvB NG X st a M β κ){d g:Nat}{cs:List TV}{arr:List Value}{e:TypeId}(hg:eT M.w g e arr)(hU:M.U g=0)(h0:X.low g)(hκ:∀c,κ c≠some g)(hβ:∀id,β id≠some g)(hd:st.bx[d]? =some none)
  (hc:Y8 M β κ cs arr):InvB NG X ⟨st.ρ,st.bx.set d (some cs),st.out⟩ a M (fun id=>if id=d then some g else β id) κ:=by
 have hβd:β d=none:=by
  rcases hb:β d with _|b
  ·rfl
  ·obtain⟨cs,_,_,h1,_⟩:=h.box d b hb;rw[hd]at h1
   cases h1
 have hmono:∀id b,β id=some b->(if id=d then some g else β id)=some b:=fun id b hb=>by
  rw[if_neg (fun e=>by rw[e,hβd]at hb;cases hb)];exact hb
 exact
  {mv:=h.mv
   ng:=h.ng
   fpng:=h.fpng
   len:=h.len
   slot:=fun t x hx=>let⟨v,h1,h2,h3⟩:=h.slot t x hx;⟨v,h1,h2.mono M.le_refl hmono,h3⟩
   box :=by
    intro id b hb
    by_cases e1:id=d
    ·rw[if_pos e1]at hb;injection hb with hb;subst hb;subst e1;have hlt:id<st.bx.length:=(Aj.1 hd).1;exact⟨cs,arr,e,by simp[hlt],hg,hc.beta hmono,hU,h0⟩
    ·rw[if_neg e1]at hb;obtain⟨cs',arr',e',h1,h2,h3,h4⟩:=h.box id b hb;exact⟨cs',arr',e',by simp only;rw[Ay (Ne.symm e1)];exact h1,h2,h3.beta hmono,h4⟩
   alive:=by
    intro id cs' hc'
    by_cases e1:id=d
    ·exact⟨g,by rw[if_pos e1]⟩
    ·simp only at hc';rw[Ay (Ne.symm e1)]at hc';obtain⟨b,hb⟩:=h.alive id cs' hc';exact⟨b,by rw[if_neg e1];exact hb⟩
   binj:=by
    intro id id' b h1 h2
    by_cases e1:id=d<;>by_cases e2:id'=d
    ·rw[e1,e2]
    ·rw[if_pos e1]at h1;rw[if_neg e2]at h2;injection h1 with h1;subst h1;exact(hβ _ h2).elim
    ·rw[if_neg e1]at h1;rw[if_pos e2]at h2;injection h2 with h2;subst h2;exact(hβ _ h1).elim
    ·rw[if_neg e1]at h1;rw[if_neg e2]at h2;exact h.binj id id' b h1 h2
   kinj:=h.kinj
   kbox:=by
    intro c g' id b h1 h2
    by_cases e1:id=d
    ·rw[if_pos e1]at h2;injection h2 with h2;subst h2;intro e;subst e;exact hκ c h1
    ·rw[if_neg e1]at h2;exact h.kbox c g' id b h1 h2
   klow:=h.klow
   khigh:=h.khigh}
theorem InvB.addBox (h:InvB NG X st a M β κ){d g:Nat}{cs:List TV}{arr:List Value}{e:TypeId}(hg:eT M.w g e arr)(hU:M.U g=0)(h0:X.low g)(hκ:∀c,κ c≠some g)(hβ:∀id,β id≠some g)(hd:st.bx[d]? =some none)
  (hc:Y8 M β κ cs arr):InvB NG X ⟨st.ρ.set d (.ptr d 0,0),st.bx.set d (some cs),st.out⟩ (a.put (some d) (.pointer (some ⟨g,0,none⟩))) M (fun id=>if id=d then some g else β id) κ :=
 (h.addBox0 hg hU h0 hκ hβ hd hc).put (some d) (x:=(.ptr d 0,0)) ⟨g,by simp,rfl⟩ (.inl rfl)
theorem yU {M:C4}{b:Nat}{e:TypeId}{arr:Array Value}{new:List Value}(hh:M.w.heap[b]? =some (.cells arr e (0,0)))(hn:new.length=arr.size)(k4:M.U b=0):L4 M ⟨M.w.setRow b new.toArray,M.U,M.y⟩ (some b) :=
 {os:=rfl,tape:=rfl,output:=rfl,size:=by simp[World.setRow]
  block:=fun b' hb' hne=>⟨setRow_other _ _ _ _ (fun e=>hne (by rw[e])),rfl⟩
  le:=⟨fun b' o u h1 h2=>by
   by_cases e1:b'=b
   ·subst e1;rw[k4]at h2;omega
   ·exact⟨(cell_setRow_other _ _ _ _ e1).trans h1,h2⟩,rfl,fun b' k ⟨arr',e',h1,h2⟩=>by
   by_cases e1:b'=b
   ·subst e1;rw[hh]at h1;injection h1 with h1;injection h1 with h1 h3;subst h1;exact⟨new.toArray,e,setRow_heap _ _ _ _ _ _ hh,by simp;omega⟩
   ·exact⟨arr',e',(setRow_other _ _ _ _ e1).trans h1,h2⟩⟩}
theorem InvB.setBox (h:InvB NG X st a M β κ){id b:Nat}{cs:List TV}{arr tl:List Value}{e:TypeId}(hb:β id=some b)(hh:M.w.heap[b]? =some (.cells (arr++tl).toArray e (0,0))){new:List Value}(hnew:new.length=arr.length)
  (hc:Y8 M β κ cs new):InvB NG X {st with bx:=st.bx.set id (some cs)} a ⟨M.w.setRow b (new++tl).toArray,M.U,M.y⟩ β κ:=by
 obtain⟨cs0,arr0,e0,k1,k2,k3,k4,k5⟩:=h.box id b hb;have hm:=yU (new:=new++tl) hh (by simp[hnew]) k4;have hκ:∀c,κ c≠some b:=fun c hk=>h.kbox c b id b hk hb rfl;exact
  {mv:=h.mv.trans hm.x (fun b' hb' e=>by injection e with e;subst e;rcases k5 with k5|k5;(·omega);exact k5)
   ng:=h.ng
   fpng:=h.fpng
   len:=h.len
   slot:=fun t x hx=>let⟨v,h1,h2,h3⟩:=h.slot t x hx;⟨v,h1,h2.mono hm.le (fun _ _ h=>h),h3.move hm (fun g' hg e=>hκ x.2 (by rw[hg];exact e))⟩
   box :=by
    intro id' b' hb'
    by_cases e1:id'=id
    ·subst e1;rw[hb]at hb';injection hb' with hb';subst hb';have hlt:id'<st.bx.length:=(Aj.1 k1).1;exact⟨cs,new,e,by simp[hlt],⟨tl,setRow_heap _ _ _ _ _ _ hh⟩,by simpa using hc.move hm (fun _ _ h=>h) (fun c g' hg e=>hκ c (by rw[hg];exact e)),k4,k5⟩
    ·obtain⟨cs',arr',e',h1,h2,h3,h4,h5⟩:=h.box id' b' hb';have hne:b'≠b:=fun e2=>e1 (h.binj id' id b (by rw[<-e2];exact hb') hb);exact⟨cs',arr',e',by simp only;rw[Ay (Ne.symm e1)];exact h1,h2.of_eq (setRow_other _ _ _ _ hne),h3.move hm (fun _ _ h=>h) (fun c g' hg e=>hκ c (by rw[hg];exact e)),h4,h5⟩
   alive:=by
    intro id' cs' hc'
    by_cases e1:id'=id
    ·exact⟨b,by rw[e1];exact hb⟩
    ·simp only at hc';rw[Ay (Ne.symm e1)]at hc';exact h.alive id' cs' hc'
   binj:=h.binj
   kinj:=h.kinj
   kbox:=h.kbox
   klow:=h.klow
   khigh:=fun c g hk=>As (h.khigh c g hk) hm.size}
theorem I0.box_lt (h:I0 NG X st a M β κ){id b:Nat}(hb:β id=some b):b<M.w.heap.size:=h.toInvB.box_lt hb
theorem I0.addBox (h:I0 NG X st a M β κ){d g:Nat}{cs:List TV}{arr:List Value}{e:TypeId}(hg:eT M.w g e arr)(hU:M.U g=0)(h0:X.low g)(hκ:∀c,κ c≠some g)(hβ:∀id,β id≠some g)(hd:st.bx[d]? =some none)
  (hc:Y8 M β κ cs arr) (ho:rY X ⟨st.ρ.set d (.ptr d 0,0),st.bx.set d (some cs),st.out⟩ a.defers M (fun id=>if id=d then some g else β id) κ):I0 NG X ⟨st.ρ.set d (.ptr d 0,0),st.bx.set d (some cs),st.out⟩ (a.put (some d) (.pointer (some ⟨g,0,none⟩))) M (fun id=>if id=d then some g else β id) κ :=
 ⟨h.toInvB.addBox hg hU h0 hκ hβ hd hc,by rw[(uH a (some d) _).1];exact ho⟩
theorem I0.setBox (h:I0 NG X st a M β κ){id b:Nat}{cs:List TV}{arr tl:List Value}{e:TypeId}(hb:β id=some b)(hh:M.w.heap[b]? =some (.cells (arr++tl).toArray e (0,0))){new:List Value}(hnew:new.length=arr.length)
  (hc:Y8 M β κ cs new):I0 NG X {st with bx:=st.bx.set id (some cs)} a ⟨M.w.setRow b (new++tl).toArray,M.U,M.y⟩ β κ :=
 ⟨h.toInvB.setBox hb hh hnew hc,by
  obtain⟨_,_,_,_,_,_,k4,_⟩:=h.box id b hb
  exact h.out.next rfl (by simp) rfl h.size (yU (new:=new++tl) hh (by simp[hnew]) k4).x (fun b' e=>by injection e with e;subst e;exact .inl ⟨id,hb⟩) (fun i b' hi=>.inl hi) (fun c g hg=>.inr (.inl ⟨c,hg⟩))⟩
end
theorem qX {M:C4}{β κ:Nat->Option Nat}{x:TV}{v:Value}{cs:List TV}(h:eE x=some cs)(hr:C1 M β x.1 v)(ht:N1 M κ x.1 x.2 v):J6 M β κ cs v.cells.toList:=by
 have one:∀{y:TV} {u:Value},u.oneCell'=true->C1 M β y.1 u->N1 M κ y.1 y.2 u->J6 M β κ [y] [u]:=fun {y u} h1 h2 h3 =>
  ⟨rfl,fun j z hz=>by
   cases j with
   |zero=>simp at hz;subst hz;exact⟨u,rfl,h1,h2,h3⟩
   |succ j=>simp at hz⟩
 obtain⟨x,c⟩:=x
 cases x<;>simp only[eE,Ah,reduceCtorEq]at h<;>subst h
 case agg cs =>
  obtain⟨vs,rfl,h1⟩:=A9z hr;simpa [Value.cells]using J6.of_rel h1
 case bool b=>obtain rfl:=iW hr;exact one rfl rfl (.inl rfl)
 case int k n=>obtain rfl:=M5 hr;exact one rfl rfl (.inl rfl)
 case str s=>obtain rfl:=dF hr;exact one rfl rfl (.inl rfl)
 case sl nl sz n cells =>
  have hr':B7 M (.sl nl sz n cells) v:=hr;have hr2:=hr';simp only[B7]at hr2;obtain⟨A,c',_,rfl,_⟩:=hr2;exact one rfl hr ht
 case nilptr=>obtain rfl:v=.pointer none:=hr;exact one rfl rfl (.inl rfl)
 case nptr=>have hr2:=hr;obtain⟨ad,rfl⟩:∃ad,v=.pointer (some ad):=hr2;exact one rfl hr (.inl rfl)
 case nilIface=>obtain rfl:v=.nilIface:=hr;exact one rfl rfl (.inl rfl)
 case bsl id off sz n =>
  have hr2:=hr;simp only[C1]at hr2;obtain⟨b,c',_,rfl,_⟩:=hr2;exact one rfl hr (.inl rfl)
 case iface t y =>
  have hr':B7 M (.iface t y) v:=hr;have hr2:=hr';simp only[B7]at hr2;obtain⟨u,rfl,_⟩:=hr2;exact one rfl hr (.inl rfl)
 case nilFunc=>obtain rfl:v=.nilFunc:=hr;exact one rfl rfl (.inl rfl)
 case eptr cs=>have hr2:=hr;obtain⟨b,o,vs,rfl,_,_⟩:=qD hr2;exact one rfl hr (.inl rfl)
 case ptr id off=>have hr2:=hr;obtain⟨b,_,rfl⟩:=qU hr2;exact one rfl hr (.inl rfl)
 case clo f caps =>
  have hr2:=hr;simp only[C1]at hr2;obtain⟨vs,he,_⟩:=hr2
  have h1:v.oneCell'=true/\v.cells.toList=[v]:=by subst he;unfold pD;split<;>exact⟨rfl,rfl⟩
  rw[h1.2];exact one (y:=(.clo f caps,0)) h1.1 hr (.inl rfl)
 case agp cs =>
  obtain⟨vs,rfl,h0,h1⟩:=C2a hr;simpa [Value.cells]using J6.of_rels h1 h0
 case yld=>have hr2:v=.func (.yield M.y.l) #[] #[]:=hr;subst hr2;exact one rfl hr (.inl rfl)
 case optr d i off=>have hr2:=hr;obtain⟨b,_,rfl⟩:=A3w hr2;exact one rfl hr (.inl rfl)
theorem CT.fits_ok {M:C4}{t:CT}{v:Value}(h:t.fits v=true):v.oneCell'=true/\B7 M t.zero v:=by
 unfold CT.fits at h;split at h
 ·simp at h;obtain⟨rfl,rfl⟩:=h;exact⟨rfl,rfl⟩
 ·simp at h;subst h;exact⟨rfl,rfl⟩
 ·rename_i s;simp at h;refine⟨rfl,?_⟩;show Value.string s=.string ⟨([]:List UInt8).toArray⟩;congr 1;apply ByteArray.ext;simpa using h
 ·simp at h;obtain⟨rfl,rfl⟩:=h;refine⟨rfl,?_⟩;simp only[CT.zero,B7];exact⟨none,0,[],rfl,Ak _,Nat.zero_le _,by simp,by simp,by simp,rfl,.inl rfl⟩
 ·exact⟨rfl,rfl⟩
 ·exact⟨rfl,rfl⟩
 ·exact⟨rfl,rfl⟩
 ·exact⟨h,trivial⟩
 ·cases h
theorem A1j {M:C4}:∀{ts:List CT} {vs:List Value},rN ts vs=true->D7 M (ts.map CT.zero) vs
 |[],[],_=>rfl
 |[],_::_,h=>by simp[rN]at h
 |_::_,[],h=>by simp[rN]at h
 |t::ts,v::vs,h=>by
  simp only[rN,Ae]at h;obtain⟨h1,h2⟩:=CT.fits_ok (M:=M) h.1;exact⟨v,vs,rfl,h1,h2,A1j h.2⟩
theorem lC {P:Program}{t:TypeId}{cs:List PV}(h:kG P t=some cs):∃i z,P.info? t=some i/\i.zero=some z/\i.size=z.cells.size/\∀M,D7 M cs z.cells.toList:=by
 unfold kG at h;split at h
 ·rename_i z hz;obtain⟨hf,h⟩:=A5 h;injection h with h;subst h;simp only[Ae,beq_iff_eq]at hf;obtain⟨i,hi,hz⟩:=A6 hz;refine⟨i,z,hi,hz,?_,fun M=>A1j hf.1⟩;have:=hf.2;simp only[F9,hi,Aq,Option.getD_some]at this;exact this
 ·cases h
end Go.Proofs.YtkpfigikffphdaaGreatDoor
namespace Go.Proofs.YtkpfigikffphdaaGreatDoor
open Go.RowKit
section
variable {en:K6} {NG:Nat} {W:World->Prop} {st:St} {o:Oper}
theorem C9y {cs:List TV}(h:∀(X:Cx) (a:Act) (M:C4) (β κ:Nat->Option Nat),I0 NG X st a M β κ->gO en X.M0->Amb en NG W X->
  ∃arr e,(execOp a.eval o).run en.P M.w=.ok (.value (.pointer (some ⟨M.w.heap.size,0,none⟩))) (M.w.alloc (.cells arr e))/\J6 M β κ cs arr.toList):rZ en NG W st o (.mk cs):=by
 intro X a M β κ hI hG hW st' hst ro next Q hn;obtain⟨arr,e,h1,h2⟩:=h X a M β κ hI hG hW;simp only[B0]at hst;split at hst
 ·rename_i d hd;split at hst
  ·rename_i hbx;obtain⟨hdl,hst⟩:=A5 hst;injection hst with hst;subst hst;have hm:L4 M (M.lay (M.w.alloc (.cells arr e)) M.w.heap.size 0) none:=L4.lay (aO (Below.refl _ _) _) (Ak _) 0;refine lN h1 (hn _ (M.lay (M.w.alloc (.cells arr e)) M.w.heap.size 0) (fun id=>if id=d then some M.w.heap.size else β id) κ ?_);rw[hd];exact(hI.grow hm).addBox (e:=e) (arr:=arr.toList) (eT.full (heap_alloc_new M.w _)) (by simp[C4.lay]) (.inl hI.size) (fun c hc=>by have:=hI.khigh c _ hc;omega) (fun id hb=>by have:=hI.box_lt hb;omega) hbx (.inl (h2.move hm (fun _ _ h=>h) (fun _ _ _=>by simp)))
    (hI.out.next (by simp) (by simp) rfl hI.size hm.x (fun b e=>by cases e) (fun id b hb=>by
     by_cases e1:id=d
     ·rw[if_pos e1]at hb;injection hb with hb;subst hb;exact .inr ⟨Ak _,fun j _ e2=>by subst e1;have hlt:@LT.lt Nat _ id st.ρ.length:=hdl;omega⟩
     ·rw[if_neg e1]at hb;exact .inl hb) (fun c g hg=>.inr (.inl ⟨c,hg⟩)))
  ·cases hst
 ·cases hst
theorem A4k {P:Program}{t:TypeId}{v:Value}{w:World}:(newVar t v).run P w=.ok ⟨w.heap.size,0,none⟩ (w.alloc (.cells v.cells t)):=by
 simp[newVar,newRow]
theorem lR {P:Program}{t:TypeId}{i:TypeInfo}{z:Value}(hi:P.info? t=some i)(hz:i.zero=some z)(w:World):(zeroValue t).run P w=.ok z w:=by
 simp[zeroValue,typeInfo,hi,hz]
theorem C5v {t:TypeId}(ho:o.op=.alloc t){act:C7}(h:A9 en st o some=some act):rZ en NG W st o act:=by
 simp only[A9,ho]at h;split at h
 ·rename_i cs hcs;injection h with h;subst h;obtain⟨i,z,hi,hz,_,hr⟩:=lC hcs;refine C9y fun X a M β κ hI hG _=>⟨z.cells,t,?_,J6.of_rel (hr M)⟩;simp[execOp,ho,Instr.alloc,lR hi hz,A4k]
 ·cases h
theorem E4a {t:TypeId}{x:Operand}(ho:o.op=.box t x){act:C7}(h:A9 en st o some=some act):rZ en NG W st o act:=by
 simp only[A9,ho]at h;split at h
 ·rename_i cs hcs;injection h with h;subst h;refine C9y fun X a M β κ hI hG _=>⟨(a.eval x).cells,t,?_,qX hcs (hI.ev hG t x).1 (hI.ev hG t x).2⟩;simp[execOp,ho,Instr.box,A4k]
 ·cases h
theorem J6.splice {M:C4}{β κ:Nat->Option Nat}{cs ds:List TV}{arr new:List Value}(h:J6 M β κ cs arr)(k:J6 M β κ ds new){off:Nat}(hle:off+ds.length<=cs.length) :
  J6 M β κ (cs.take off++ds++cs.drop (off+ds.length)) (arr.take off++new++arr.drop (off+new.length)):=by
 have e1:=h.1;have e2:=k.1;refine⟨by simp;omega,fun j x hx=>?_⟩
 have l1:(cs.take off).length=off:=by rw[Cf];omega
 have l2:(arr.take off).length=off:=by rw[Cf];omega
 by_cases c1:j<off
 ·rw[Al,Bd (by omega),Ew c1]at hx;obtain⟨u,hu,r⟩:=h.2 j x hx;exact⟨u,by rw[Al,Bd (by omega),Ew c1];exact hu,r⟩
 ·by_cases c2:j<off+ds.length
  ·rw[Al,Bj (by omega),Bd (by omega),l1]at hx;obtain⟨u,hu,r⟩:=k.2 _ x hx;exact⟨u,by rw[Al,Bj (by omega),Bd (by omega),l2];exact hu,r⟩
  ·rw[Al,Bj (by omega),Bj (by omega),l1,Ca]at hx;obtain⟨u,hu,r⟩:=h.2 _ x hx;refine⟨u,?_,r⟩;rw[Al,Bj (by omega),Bj (by omega),l2,Ca,<-hu];congr 1;omega
theorem D7.splice {M:C4}{cs ds:List PV}{arr new:List Value}(h:D7 M cs arr)(k:D7 M ds new){off:Nat}:D7 M (cs.take off++ds++cs.drop (off+ds.length)) (arr.take off++new++arr.drop (off+new.length)):=by
 rw[k.length];exact((h.take _).append k).append (h.drop _)
theorem C7e {t:TypeId}(hT:G5 en.P t){x y:Operand}(ho:o.op=.store t x y)(hti:(en.P.info? t).isSome=true){act:C7}(h:A9 en st o some=some act):rZ en NG W st o act:=by
 simp only[A9,ho]at h;split at h
 ·rename_i id off cs hx hy;obtain⟨hd,h⟩:=A5 h;injection h with h;subst h;intro X a M β κ hI hG hW st' hst ro next Q hn;simp only[B0]at hst;split at hst
  ·rename_i cs0 hbx hdst;obtain⟨cs2,hbs,hst⟩:=Am.1 hst;subst hst;have hx':=(hI.ev hG t x).1;rw[hx]at hx';obtain⟨b,hb,he⟩:=qU hx';obtain⟨cs1,arr,e,k1,⟨tl,k2⟩,k3,k4,k5⟩:=hI.box id b hb;rw[hbx]at k1;injection k1 with k1;injection k1 with k1;subst k1;have hc:=qX hy (hI.ev hG t y).1 (hI.ev hG t y).2;have hcl:=hc.1
   have hsz:(a.eval y).cells.size=F9 en.P t:=by rw[<-hd];simpa using hcl.symm
   have key:off+cs.length<=arr.length->∀(cs2:List TV),Y8 M β κ cs2 (arr.take off++(a.eval y).cells.toList++arr.drop (off+(a.eval y).cells.toList.length))->
     (∀a' M' β' κ',I0 NG X {st with bx:=st.bx.set id (some cs2)} a' M' β' κ'->next a' M'.w)->o.wpIn (FR ro) 0 en.P a M.w next Q:=by
    intro hle cs2 hk hn;have hcl2:cs.length=(a.eval y).cells.toList.length:=hcl
    have hfit:off+0+(a.eval y).cells.toList.length<=(arr++tl).toArray.size:=by simp at hcl2 ⊢;omega
    have hrun:=run_storeCells_at en.P b off e (a.eval y).cells.toList 0 (arr++tl).toArray M.w k2 hfit hc.one;simp only[Dg]at hrun
    have hrow:(arr++tl).toArray.toList.take off++(a.eval y).cells.toList++(arr++tl).toArray.toList.drop (off+(a.eval y).cells.toList.length)=(arr.take off++(a.eval y).cells.toList++arr.drop (off+(a.eval y).cells.toList.length))++tl:=by
     simp only[List.toList_toArray];rw[List.take_append_of_le_length (by omega),List.drop_append_of_le_length (by omega)];simp only[Al]
    rw[hrow]at hrun;refine D9z (w':=M.w.setRow b ((arr.take off++(a.eval y).cells.toList++arr.drop (off+(a.eval y).cells.toList.length))++tl).toArray) ?_ ?_
    ·simp[execOp,ho,Instr.storeAt,he,Instr.sureAddr,storeVar,L3 hti,hsz,hrun]
    ·rw[hdst];exact hn _ _ _ _ (hI.setBox hb k2 (by simp at hcl2 ⊢;omega) hk)
   unfold A9s at hbs;rcases ha:oG cs0 with _|xs
   ·rw[ha]at hbs;obtain⟨hle,hbs⟩:=A5 hbs;injection hbs with hbs;subst hbs;have k3:=k3.cells ha;exact key (by rw[<-k3.1];exact hle) _ (.inl (k3.splice hc hle)) hn
   ·rw[ha]at hbs;obtain⟨hle,hbs⟩:=B8 hbs;injection hbs with hbs;subst hbs;simp only[Ae,decide_eq_true_eq]at hle;have k3:=k3.arr ha;have hr:=hc.rel hle.1
    have hl2:(cs.map (·.1)).length=cs.length:=by simp
    refine key (by rw[<-k3.length];exact hle.2) _ (.inr ⟨_,rfl,?_⟩) hn;have:=k3.splice hr (off:=off);rw[hl2]at this;rw[show off+cs.length=off+(a.eval y).cells.toList.length from congrArg (off + ·) hcl]at this ⊢;exact this
  ·cases hst
 ·cases h
theorem J6.piece {M:C4}{β κ:Nat->Option Nat}{cs:List TV}{arr:List Value}(h:J6 M β κ cs arr)(off n:Nat):B9 M β (((cs.take (off+n)).drop off).map (·.1)) ((arr.take (off+n)).drop off):=by
 have:=(h.rels.take (off+n)).drop off
 rwa [<-List.map_take,<-List.map_drop]at this
theorem B7e {t:TypeId}(hT:G5 en.P t){x:Operand}(ho:o.op=.load t x)(hti:(en.P.info? t).isSome=true)(hone:S9 en.P t=false->F9 en.P t=1){id off:Nat}(hx:(ev en st t x).1=.ptr id off){act:C7}(h:A9 en st o some=some act):rZ en NG W st o act:=by
 simp only[A9,ho,hx]at h;injection h with h;subst h;intro X a M β κ hI hG hW st' hst ro next Q hn;simp only[B0,K8]at hst;obtain⟨yv,hst2,he0⟩:=Am.1 hst;clear hst;subst he0;have hst:=hst2;clear hst2;split at hst
 ·rename_i cs hbx;have hx':=(hI.ev hG t x).1;rw[hx]at hx';obtain⟨b,hb,he⟩:=qU hx';obtain⟨cs1,arr,e,k1,⟨tl,k2⟩,k3,k4,k5⟩:=hI.box id b hb;rw[hbx]at k1;injection k1 with k1;injection k1 with k1;subst k1
  have hcell1:∀j u,arr[j]? =some u->M.w.cell? ⟨b,j,none⟩=some u:=by
   intro j u hu;rw[cell_of_row _ _ _ (arr++tl).toArray e (0,0) k2];have hlt:=(Aj.1 hu).1;simp only[List.getElem?_toArray];rw[Bd hlt];exact hu
  have hcell:∀n j u,((arr.take (off+n)).drop off)[j]? =some u->M.w.cell? ⟨b,off+j,none⟩=some u:=by
   intro n j u hu;rw[Ca,List.getElem?_take]at hu;split at hu
   ·exact hcell1 _ _ hu
   ·cases hu
  have one:∀(yv:TV) u,S9 en.P t=false->arr[off]? =some u->u.oneCell'=true->C1 M β yv.1 u->N1 M κ yv.1 yv.2 u->(∀a' M' β' κ',I0 NG X (O4 o.dst yv st) a' M' β' κ'->next a' M'.w)->o.wpIn (FR ro) 0 en.P a M.w next Q:=by
   intro yv u hag h1 h2 h3 h4 hn
   have hl:=W8 (P:=en.P) (w:=M.w) (t:=t) (b:=b) (off:=off) (vs:=[u]) hti (hT.un) (by rw[hone hag];rfl) (fun j u' hj=>by
    cases j with
    |zero=>simp at hj;subst hj;rw[Dg];exact hcell1 _ _ h1
    |succ j=>simp at hj) (fun _=>rfl)
   exact lN (v:=u) (w':=M.w) (by simp[execOp,ho,Instr.loadAt,he,Instr.sureAddr,hl,hag]) (hn _ M β κ (hI.put o.dst h3 h4))
  have many:∀(p:PV),S9 en.P t=true->off+F9 en.P t<=arr.length->C1 M β p (.agg ((arr.take (off+F9 en.P t)).drop off).toArray)->(∀a' M' β' κ',I0 NG X (O4 o.dst (p,0) st) a' M' β' κ'->next a' M'.w)->o.wpIn (FR ro) 0 en.P a M.w next Q:=by
   intro p hag hle hp hn;have hl:=W8 (P:=en.P) (w:=M.w) hti (hT.un) (b:=b) (off:=off) (vs:=(arr.take (off+F9 en.P t)).drop off) (by simp;omega) (hcell _) (by simp[hag]);exact lN (v:=.agg ((arr.take (off+F9 en.P t)).drop off).toArray) (w':=M.w) (by simp[execOp,ho,Instr.loadAt,he,Instr.sureAddr,hl,hag]) (hn _ M β κ (hI.put o.dst (x:=(p,0)) hp (.inl rfl)))
  rcases ha:oG cs with _|xs<;>rw[ha]at hst
  ·have k3:=k3.cells ha
   cases hag:S9 en.P t
   ·rw[hag]at hst;simp only[Bp,if_false]at hst;obtain⟨u,h1,h2,h3,h4⟩:=k3.2 off yv hst;exact one yv u hag h1 h2 h3 h4 hn
   ·rw[hag]at hst;simp only[if_true]at hst;obtain⟨hle,hst⟩:=A5 hst;injection hst with hst;subst hst;have hr:=k3.piece off (F9 en.P t);exact many _ hag (by rw[<-k3.1];exact hle) (B02 (fun u hu=>k3.one u (List.mem_of_mem_take (List.mem_of_mem_drop hu))) hr) hn
  ·have k3:=k3.arr ha
   cases hag:S9 en.P t
   ·rw[hag]at hst;simp only[Bp,if_false]at hst;obtain⟨x1,hx1,hst⟩:=Am.1 hst;subst hst;obtain⟨u,h1,h2,h3⟩:=k3.get hx1;exact one _ u hag h1 h2 (C1.of_data h3) (.inl rfl) hn
   ·rw[hag]at hst;simp only[if_true]at hst;obtain⟨hle,hst⟩:=A5 hst;injection hst with hst;subst hst;refine many _ hag (by rw[<-k3.length];exact hle) ?_ hn;refine C1.of_data ?_;simp only[B7];exact⟨_,rfl,(k3.take _).drop _⟩
 ·cases hst
theorem D61 {t:TypeId}(hT:G5 en.P t){x:Operand}(ho:o.op=.load t x)(hti:(en.P.info? t).isSome=true)(hone:S9 en.P t=false->F9 en.P t=1){act:C7}(h:A9 en st o some=some act):rZ en NG W st o act:=by
 rcases hx:(ev en st t x).1 with _|_|_|_|_|_|_|_|_|_|_|_|⟨id,off⟩|cs|_|_|_|_|_
 case ptr=>exact B7e hT ho hti hone hx h
 case eptr=>exact B9u hT ho hti hx h
 all_goals(simp only[A9,ho,hx,reduceCtorEq]at h)
theorem A4e (off:Nat):∀(cs:List Value) (arr:Array Value) (j:Nat),off+j+cs.length<=arr.size->(cs.zipIdx j).foldl (fun a (p:Value×Nat)=>a.setIfInBounds (off+p.2) p.1) arr=(arr.toList.take (off+j)++cs++arr.toList.drop (off+j+cs.length)).toArray
 |[],arr,j,_=>by simp
 |c::cs,arr,j,h=>by
  simp only[List.zipIdx_cons,List.foldl_cons];rw[A4e off cs _ (j+1) (by simp at h ⊢;omega)];simp only[Ac]at h
  have hlt:off+j<arr.size:=by omega
  congr 1;rw[Array.toList_setIfInBounds,show off+(j+1)=off+j+1 by omega];rw[List.take_set,List.drop_set,if_pos (by omega)]
  have e:(arr.toList.take (off+j+1)).set (off+j) c=arr.toList.take (off+j)++[c]:=by
   rw[List.take_succ_eq_append_getElem (by simpa using hlt),List.set_append_right _ _ (by simp;omega)];simp[Nat.min_eq_left (Nat.le_of_lt hlt)]
  rw[e];simp only[Al,List.singleton_append,Ac];congr 3;omega
theorem A0l {P:Program}{w:World}{M:C4}{place:Nat->Option (Nat×Nat)}:∀(vals:List (Nat×Value)) (ps:List (Nat×List PV)) (cells out:List PV) (arr:Array Value),
  jV cells ps=some out->D7 M cells arr.toList->vals.length=ps.length->
  (∀(k i:Nat) (v:Value) (off:Nat) (xs:List PV),vals[k]? =some (i,v)->ps[k]? =some (off,xs)->place i=some (off,xs.length)/\D7 M xs v.cells.toList)->
  ∃new,Instr.fill place arr vals=some new/\D7 M out new.toList
 |[],[],cells,out,arr,h,hr,_,_=>by
  simp only[jV,Ah]at h;subst h;exact⟨arr,rfl,hr⟩
 |[],_::_,_,_,_,_,_,hl,_=>by simp at hl
 |_::_,[],_,_,_,_,_,hl,_=>by simp at hl
 |(i,v)::vals,(off,xs)::ps,cells,out,arr,h,hr,hl,hp=>by
  simp only[jV]at h;obtain⟨hle,h⟩:=A5 h;obtain⟨h1,h2⟩:=hp 0 i v off xs rfl rfl;have e1:=hr.length;have e2:=h2.length;simp only[Array.length_toList]at e1 e2;have hf:=A4e off v.cells.toList arr 0 (by simp;omega);simp only[Dg]at hf;have hr':=hr.splice h2 (off:=off);obtain⟨new,k1,k2⟩:=A0l (P:=P) (w:=w) (place:=place) vals ps _ out (arr.toList.take off++v.cells.toList++arr.toList.drop (off+v.cells.toList.length)).toArray h (by simpa using hr') (by simpa using hl) (fun k i v off xs a b=>hp (k+1) i v off xs a b);refine⟨new,?_,k2⟩;simp only[Instr.fill,h1];rw[if_neg (by simp;omega)]
  have hz:v.cells.zipIdx.foldl (fun(cs:Array Value) (x:Value×Nat)=>cs.setIfInBounds (off+x.2) x.1) arr=(v.cells.toList.zipIdx 0).foldl (fun a (p:Value×Nat)=>a.setIfInBounds (off+p.2) p.1) arr:=by
   rw[<-Array.foldl_toList,Array.toList_zipIdx]
  rw[hz,hf];exact k1
theorem wO {X:Cx}{a:Act}{M:C4}{β κ:Nat->Option Nat}(hI:I0 NG X st a M β κ)(hG:gO en X.M0){place:Nat->Option (Nat×Nat×TypeId)}:∀(parts:List (Nat×Operand)) (ps:List (Nat×List PV)),J9 en st place parts=some ps->
  (parts.map fun p=>(p.1,a.eval p.2)).length=ps.length/\∀(k i:Nat) (v:Value) (off:Nat) (xs:List PV),(parts.map fun p=>(p.1,a.eval p.2))[k]? =some (i,v)->ps[k]? =some (off,xs)->(∃t,place i=some (off,xs.length,t))/\D7 M xs v.cells.toList
 |[],ps,h=>by
  simp only[J9,Ah]at h;subst h;exact⟨rfl,fun k i v off xs h=>by simp at h⟩
 |(i,x)::parts,ps,h=>by
  simp only[J9]at h;split at h
  ·rename_i off sz t hpl;split at h
   ·rename_i cs hcs;obtain⟨hd,h⟩:=A5 h;simp only[Ae,beq_iff_eq,decide_eq_true_eq]at hd;rcases hp:J9 en st place parts with _|ps'
    ·rw[hp]at h;simp at h
    ·rw[hp]at h;simp only[Aq,Ah]at h;subst h;obtain⟨h1,h2⟩:=wO hI hG parts ps' hp;refine⟨by simpa using h1,fun k i' v off' xs hk hp'=>?_⟩
     cases k with
     |zero =>
      simp at hk hp';obtain⟨rfl,rfl⟩:=hk;obtain⟨rfl,rfl⟩:=hp';exact⟨⟨t,by rw[hpl];simp[hd.1]⟩,(qX hcs (hI.ev hG t x).1 (hI.ev hG t x).2).rel hd.2⟩
     |succ k=>exact h2 k i' v off' xs (by simpa using hk) (by simpa using hp')
   ·cases h
  ·cases h
theorem B9.splice {M:C4}{β:Nat->Option Nat}{cs ds:List PV}{arr new:List Value}(h:B9 M β cs arr)(k:B9 M β ds new){off:Nat}:B9 M β (cs.take off++ds++cs.drop (off+ds.length)) (arr.take off++new++arr.drop (off+new.length)):=by
 rw[k.length];exact((h.take _).append k).append (h.drop _)
theorem B57 {M:C4}{β:Nat->Option Nat}{place:Nat->Option (Nat×Nat)}:∀(vals:List (Nat×Value)) (ps:List (Nat×List PV)) (cells out:List PV) (arr:Array Value),
  jV cells ps=some out->B9 M β cells arr.toList->(∀u∈arr.toList,u.oneCell'=true)->vals.length=ps.length->
  (∀(k i:Nat) (v:Value) (off:Nat) (xs:List PV),vals[k]? =some (i,v)->ps[k]? =some (off,xs)->place i=some (off,xs.length)/\B9 M β xs v.cells.toList/\∀u∈v.cells.toList,u.oneCell'=true)->
  ∃new,Instr.fill place arr vals=some new/\B9 M β out new.toList/\∀u∈new.toList,u.oneCell'=true
 |[],[],cells,out,arr,h,hr,h0,_,_=>by
  simp only[jV,Ah]at h;subst h;exact⟨arr,rfl,hr,h0⟩
 |[],_::_,_,_,_,_,_,_,hl,_=>by simp at hl
 |_::_,[],_,_,_,_,_,_,hl,_=>by simp at hl
 |(i,v)::vals,(off,xs)::ps,cells,out,arr,h,hr,h0,hl,hp=>by
  simp only[jV]at h;obtain⟨hle,h⟩:=A5 h;obtain⟨h1,h2,h3⟩:=hp 0 i v off xs rfl rfl;have e1:=hr.length;have e2:=h2.length;simp only[Array.length_toList]at e1 e2;have hf:=A4e off v.cells.toList arr 0 (by simp;omega);simp only[Dg]at hf;have hr':=hr.splice h2 (off:=off)
  obtain⟨new,k1,k2,k3⟩:=B57 (place:=place) vals ps _ out (arr.toList.take off++v.cells.toList++arr.toList.drop (off+v.cells.toList.length)).toArray h (by simpa using hr') (by
   intro u hu;simp only[Al,List.mem_append]at hu;rcases hu with hu|hu|hu
   ·exact h0 u (List.mem_of_mem_take hu)
   ·exact h3 u hu
   ·exact h0 u (List.mem_of_mem_drop hu)) (by simpa using hl) (fun k i v off xs a b=>hp (k+1) i v off xs a b)
  refine⟨new,?_,k2,k3⟩;simp only[Instr.fill,h1];rw[if_neg (by simp;omega)]
  have hz:v.cells.zipIdx.foldl (fun(cs:Array Value) (x:Value×Nat)=>cs.setIfInBounds (off+x.2) x.1) arr=(v.cells.toList.zipIdx 0).foldl (fun a (p:Value×Nat)=>a.setIfInBounds (off+p.2) p.1) arr:=by
   rw[<-Array.foldl_toList,Array.toList_zipIdx]
  rw[hz,hf];exact k1
theorem A6d {X:Cx}{a:Act}{M:C4}{β κ:Nat->Option Nat}(hI:I0 NG X st a M β κ)(hG:gO en X.M0){place:Nat->Option (Nat×Nat×TypeId)}:∀(parts:List (Nat×Operand)) (ps:List (Nat×List PV)),L5 en st place parts=some ps->
  (parts.map fun p=>(p.1,a.eval p.2)).length=ps.length/\∀(k i:Nat) (v:Value) (off:Nat) (xs:List PV),(parts.map fun p=>(p.1,a.eval p.2))[k]? =some (i,v)->ps[k]? =some (off,xs)->(∃t,place i=some (off,xs.length,t))/\B9 M β xs v.cells.toList/\∀u∈v.cells.toList,u.oneCell'=true
 |[],ps,h=>by
  simp only[L5,Ah]at h;subst h;exact⟨rfl,fun k i v off xs h=>by simp at h⟩
 |(i,x)::parts,ps,h=>by
  simp only[L5]at h;split at h
  ·rename_i off sz t hpl;split at h
   ·rename_i cs hcs;obtain⟨hd,h⟩:=A5 h;rcases hp:L5 en st place parts with _|ps'
    ·rw[hp]at h;simp at h
    ·rw[hp]at h;simp only[Aq,Ah]at h;subst h;obtain⟨h1,h2⟩:=A6d hI hG parts ps' hp;refine⟨by simpa using h1,fun k i' v off' xs hk hp'=>?_⟩
     cases k with
     |zero =>
      simp at hk hp';obtain⟨rfl,rfl⟩:=hk;obtain⟨rfl,rfl⟩:=hp';have hb:=qX hcs (hI.ev hG t x).1 (hI.ev hG t x).2;exact⟨⟨t,by rw[hpl];simp[hd]⟩,hb.rels,hb.one⟩
     |succ k=>exact h2 k i' v off' xs (by simpa using hk) (by simpa using hp')
   ·cases h
  ·cases h
end
end Go.Proofs.YtkpfigikffphdaaGreatDoor
namespace Go.Proofs.YtkpfigikffphdaaGreatDoor
open Go.RowKit
section
variable {en:K6} {NG:Nat} {W:World->Prop} {st:St} {o:Oper}
theorem B6a {P:Program}{w:World}{α β:Type}(f:α->Sem β)(g:α->β):∀l:List α,(∀x∈l,(f x).run P w=.ok (g x) w)->(l.mapM f).run P w=.ok (l.map g) w
 |[],_=>rfl
 |x::l,h=>by
  simp only[List.mapM_cons,Sem.run_bind,h x (by simp),Result.andThen_ok,B6a f g l (fun y hy=>h y (by simp[hy])),Sem.run_pure,List.map_cons]
theorem A7c {P:Program}{w:World}{α β:Type}(f:α->Sem β)(g:α->β)(l:Array α)(h:∀x∈l,(f x).run P w=.ok (g x) w):(l.mapM f).run P w=.ok (l.map g) w:=by
 rw[Array.mapM_eq_mapM_toList];simp only[Sem.run_map,B6a f g l.toList (fun x hx=>h x (by simpa using hx)),Result.andThen_ok];congr 1;apply Eh;simp
theorem C5k {t:TypeId}(hT:G5 en.P t){parts:Array (Nat×Operand)}(ho:o.op=.build t parts){act:C7}(h:A9 en st o some=some act):rZ en NG W st o act:=by
 simp only[A9,ho]at h;split at h
 ·rename_i z hz;obtain⟨i,zv,hi,hzv,hsz,hr⟩:=lC hz;split at h
  ·rename_i fs hfs;split at h
   ·rename_i ps hps;split at h
    ·rename_i cs hcs;injection h with h;subst h;refine C9 fun X a M β κ hI hG _=>?_;obtain⟨h1,h2⟩:=wO hI hG _ _ hps
     obtain⟨new,k1,k2⟩:=A0l (P:=en.P) (w:=M.w) (M:=M) (place:=fun i=>(fs.map fun f=>(f.offset,F9 en.P f.type))[i]?) _ ps z cs zv.cells hcs (hr M) h1 (fun k i v off xs a b=>by
      obtain⟨⟨t',e⟩,r⟩:=h2 k i v off xs a b;refine⟨?_,r⟩;rw[Array.getElem?_map];rcases hf:fs[i]? with _|f
      ·rw[hf]at e;simp at e
      ·rw[hf]at e;simp only[Aq,Ah,Dz]at e ⊢
       exact⟨e.1,e.2.1⟩)
     refine⟨.agg new,?_,?_,.inl rfl⟩
     ·have hm:=A7c (P:=en.P) (w:=M.w) (fun f:Field=>(do pure (f.offset,<-sizeOf f.type):Sem (Nat×Nat))) (fun f=>(f.offset,F9 en.P f.type)) fs (fun f hf=>by simp[L3 (hT.st fs hfs f hf)]);simp only[execOp,ho,Instr.build,Sem.run_bind,lR hi hzv,Result.andThen_ok,C8 hfs];rw[hm];simp only[Result.andThen_ok]
      have e:(parts.map fun x=>(x.1,a.eval x.2)).toList=parts.toList.map fun p=>(p.1,a.eval p.2):=by simp
      have k1':=k1;rw[<-e]at k1';rw[k1'];rfl
     ·show B7 M (.agg cs) _;simp only[B7];exact⟨new.toList,by simp,k2⟩
    ·cases h
   ·split at h
    ·rename_i ps hps;split at h
     ·rename_i cs hcs;injection h with h;subst h;refine C9 fun X a M β κ hI hG _=>?_;obtain⟨h1,h2⟩:=A6d hI hG _ _ hps
      obtain⟨new,k1,k2,k3⟩:=B57 (M:=M) (β:=β) (place:=fun i=>(fs.map fun f=>(f.offset,F9 en.P f.type))[i]?) _ ps z cs zv.cells hcs (hr M).rels (hr M).one h1 (fun k i v off xs a b=>by
       obtain⟨⟨t',e⟩,r⟩:=h2 k i v off xs a b;refine⟨?_,r⟩;rw[Array.getElem?_map];rcases hf:fs[i]? with _|f
       ·rw[hf]at e;simp at e
       ·rw[hf]at e;simp only[Aq,Ah,Dz]at e ⊢
        exact⟨e.1,e.2.1⟩)
      refine⟨.agg new,?_,?_,.inl rfl⟩
      ·have hm:=A7c (P:=en.P) (w:=M.w) (fun f:Field=>(do pure (f.offset,<-sizeOf f.type):Sem (Nat×Nat))) (fun f=>(f.offset,F9 en.P f.type)) fs (fun f hf=>by simp[L3 (hT.st fs hfs f hf)]);simp only[execOp,ho,Instr.build,Sem.run_bind,lR hi hzv,Result.andThen_ok,C8 hfs];rw[hm];simp only[Result.andThen_ok]
       have e:(parts.map fun x=>(x.1,a.eval x.2)).toList=parts.toList.map fun p=>(p.1,a.eval p.2):=by simp
       have k1':=k1;rw[<-e]at k1';rw[k1'];rfl
      ·simp only[C1];exact⟨new.toList,by simp,k3,k2⟩
     ·cases h
    ·cases h
  ·rename_i n e he;split at h
   ·rename_i ps hps;split at h
    ·rename_i cs hcs;injection h with h;subst h;refine C9 fun X a M β κ hI hG _=>?_;obtain⟨h1,h2⟩:=wO hI hG _ _ hps
     obtain⟨new,k1,k2⟩:=A0l (P:=en.P) (w:=M.w) (M:=M) (place:=fun i=>some (i * F9 en.P e,F9 en.P e)) _ ps z cs zv.cells hcs (hr M) h1 (fun k i v off xs a b=>by
      obtain⟨⟨t',e⟩,r⟩:=h2 k i v off xs a b;simp only[Ah,Dz]at e ⊢
      exact⟨⟨e.1,e.2.1⟩,r⟩)
     refine⟨.agg new,?_,?_,.inl rfl⟩
     ·simp only[execOp,ho,Instr.build,Sem.run_bind,lR hi hzv,Result.andThen_ok,C8 he,L3 (hT.ar n e he)]
      have e:(parts.map fun x=>(x.1,a.eval x.2)).toList=parts.toList.map fun p=>(p.1,a.eval p.2):=by simp
      have k1':=k1;rw[<-e]at k1';rw[k1'];rfl
     ·show B7 M (.agg cs) _;simp only[B7];exact⟨new.toList,by simp,k2⟩
    ·cases h
   ·cases h
  ·cases h
 ·cases h
theorem nH {P:Program}{t e:TypeId}(h:A60 P t=some e):P.underlying t=some (.slice e):=by
 unfold A60 at h;split at h
 ·injection h with h;subst h;assumption
 ·cases h
theorem D7.rep {M:C4}{z:List PV}{zs:List Value}(h:D7 M z zs):∀n,D7 M (Bv n z).flatten (Bv n zs).flatten
 |0=>rfl
 |n+1=>by
  simp only[List.replicate_succ,List.flatten_cons];exact h.append (h.rep n)
theorem A97 {α:Type}[Inhabited α](a:Array α)(i:Nat)(h:i<a.size):a[i]! =a[i]:=by simp[h]
theorem A4n (zs:Array Value)(h0:0<zs.size):∀n,((Ez (n * zs.size)).map fun i=>zs[i%zs.size]!).toList=(Bv n zs.toList).flatten
 |0=>by simp
 |n+1 => by
  rw[List.replicate_succ',List.flatten_append,<-A4n zs h0 n];apply Ep;intro i;simp only[Array.toList_map,Array.toList_range,List.flatten_cons,List.flatten_nil,Bf]
  by_cases hi:i<n * zs.size
  ·rw[Bd (by simpa using hi)];simp[hi,List.getElem?_range,As hi (Es _ (Nat.le_succ n))]
  ·rw[Bj (by simpa using hi)];simp only[List.length_map,List.length_range]
   by_cases hj:i<(n+1) * zs.size
   ·have hmod:i%zs.size=i-n * zs.size:=by
     have:i=(i-n * zs.size)+n * zs.size:=by omega
     rw[this,Nat.add_mul_mod_self_right,Nat.mod_eq_of_lt (by rw[Nat.succ_mul]at hj;omega)];omega
    have hlt:i-n * zs.size<zs.size:=by rw[Nat.succ_mul]at hj;omega
    simp only[Az,List.getElem?_range hj,Aq];rw[hmod,A97 _ _ hlt];simp[hlt]
   ·have h2:zs.toList.length<=i-n * zs.size:=by rw[Nat.succ_mul]at hj;simp;omega
    rw[Bs h2,Bs (by simpa using hj)]
theorem A2p {t:TypeId}(hT:G5 en.P t){len:Nat}{parts:Array (Nat×Operand)}(ho:o.op=.buildSlice t len parts){act:C7}(h:A9 en st o some=some act):rZ en NG W st o act:=by
 simp only[A9,ho]at h;split at h
 ·rename_i e he;have he:=nH he;have hie:=hT.sl e he;obtain⟨hle,h⟩:=A5 h;split at h
  ·rename_i z hz;obtain⟨i,zv,hi,hzv,hsz,hr⟩:=lC hz;obtain⟨hzl,h⟩:=A5 h;simp only[Ae,beq_iff_eq,decide_eq_true_eq]at hzl
   have hzs:zv.cells.size=F9 en.P e:=by rw[<-hsz];simp[F9,hi]
   split at h
   ·rename_i ps hps;split at h
    ·rename_i cs hcs;injection h with h;subst h;refine B0j fun X a M β κ hI hG _=>?_;obtain⟨h1,h2⟩:=wO hI hG _ _ hps;have hz0:=(hr M).rep len;rw[<-A4n zv.cells (by omega) len]at hz0
     obtain⟨new,k1,k2⟩:=A0l (P:=en.P) (w:=M.w) (M:=M) (place:=fun i=>some (i * F9 en.P e,F9 en.P e)) _ ps _ cs _ hcs hz0 h1 (fun k i v off xs a b=>by
      obtain⟨⟨t',e⟩,r⟩:=h2 k i v off xs a b;simp only[Ah,Dz]at e ⊢
      exact⟨⟨e.1,e.2.1⟩,r⟩)
     have hfl:∀(ps:List (Nat×List PV)) (c d:List PV),jV c ps=some d->d.length=c.length:=by
      intro ps
      induction ps with
      |nil=>intro c d h;simp only[jV,Ah]at h;rw[h]
      |cons p ps ih =>
       intro c d h;obtain⟨off,xs⟩:=p;simp only[jV]at h;obtain⟨hle,h⟩:=A5 h;rw[ih _ _ h];simp;omega
     have hcl:cs.length=len * F9 en.P e:=by
      rw[hfl _ _ _ hcs,hz0.length];simp[hzs]
     have hcap:len<=maxLen:=by
      have:len * 1<=len * F9 en.P e:=Nat.mul_le_mul_left _ hzl.2;simp only[maxLen];omega
     have hrel:=A0x (M:=M) (w1:=M.w) (Below.refl _ _) (arr:=new) (e:=e) (fr:=(0,0)) (sz:=F9 en.P e) (n:=len) (cap:=len) k2 hcl (Ak _) hcap (fun j u hu=>by simpa using hu);refine⟨_,M.lay (M.w.alloc (.cells new e)) M.w.heap.size new.toList.length,?_,L4.lay (aO (Below.refl _ _) _) (Ak _) _,C1.of_data hrel,.inr ⟨_,_,_,_,rfl,.inl ⟨_,_,rfl⟩⟩⟩
     have e24:¬(len * F9 en.P e>2^24):=by omega
     have e':(parts.map fun x=>(x.1,a.eval x.2)).toList=parts.toList.map fun p=>(p.1,a.eval p.2):=by simp
     rw[<-e']at k1
     by_cases h0:len * F9 en.P e=0
     ·have k0:Array.map (fun x=>(#[]:Array Value)[x%(#[]:Array Value).size]!) (Ez (len * F9 en.P e))=(Ez (len * zv.cells.size)).map fun i=>zv.cells[i%zv.cells.size]! :=by
       rw[hzs,h0];simp
      simp only[execOp,ho,Instr.buildSlice,Sem.run_bind,C8 he,Result.andThen_ok,L3 hie,if_neg e24,Sem.run_pure,if_pos h0];rw[k0,k1];simp[newRow,C4.lay]
     ·have k0:Array.map (fun x=>zv.cells[x%zv.cells.size]!) (Ez (len * F9 en.P e))=(Ez (len * zv.cells.size)).map fun i=>zv.cells[i%zv.cells.size]! :=by
       rw[hzs]
      simp only[execOp,ho,Instr.buildSlice,Sem.run_bind,C8 he,Result.andThen_ok,L3 hie,if_neg e24,Sem.run_pure,if_neg h0,lR hi hzv];rw[k0,k1];simp[newRow,C4.lay]
    ·cases h
   ·cases h
  ·cases h
 ·cases h
end
end Go.Proofs.YtkpfigikffphdaaGreatDoor
namespace Go.Proofs.YtkpfigikffphdaaGreatDoor
open Go.RowKit
section
variable {en:K6} {NG:Nat} {W:World->Prop} {st:St} {o:Oper}
theorem InvB.owned {X:Cx}{a:Act}{M M':C4}{β κ:Nat->Option Nat}(hI:InvB NG X st a M β κ){c d:Nat}{ex:Option Nat}(hex:ex=none\/∃g,ex=some g/\2<=c/\κ c=some g)(hm:L4 M M' ex)
  {nl:Option Bool} {sz n:Nat} {cells:List PV} {u:Value} (hr:B7 M' (.sl nl sz n cells) u) (hu:yN u\/∃g,bO M' g sz u/\(M.w.heap.size<=g\/(2<=c/\κ c=some g))) :
  ∃κ',InvB NG X ⟨((st.clr c).clr (d+2)).ρ.set d (.sl nl sz n cells,d+2),((st.clr c).clr (d+2)).bx,st.out⟩ (a.put (some d) u) M' β κ'/\∀t g,κ' t=some g->(∃t,κ t=some g)\/M.w.heap.size<=g:=by
 have I1:=(hI.drop c).drop (d+2)
 have hsub:∀t g,(if t=d+2 then none else if t=c then none else κ t)=some g->∃t,κ t=some g:=by
  intro t g ht
  by_cases e1:t=d+2
  ·simp[e1]at ht
  ·rw[if_neg e1]at ht
   by_cases e2:t=c
   ·simp[e2]at ht
   ·rw[if_neg e2]at ht;exact⟨t,ht⟩
 have hnot:∀g,κ c=some g->∀t,(if t=d+2 then none else if t=c then none else κ t)≠some g:=by
  intro g hg t ht
  by_cases e1:t=d+2
  ·simp[e1]at ht
  ·rw[if_neg e1]at ht
   by_cases e2:t=c
   ·simp[e2]at ht
   ·rw[if_neg e2]at ht;exact e2 (hI.kinj t c g ht hg)
 have I2:InvB NG X ((st.clr c).clr (d+2)) a M' β (fun t=>if t=d+2 then none else if t=c then none else κ t):=by
  rcases hex with rfl|⟨g,rfl,h2,hk⟩
  ·exact I1.grow hm
  ·exact I1.move hm (hI.klow c g hk) (hnot g hk) (fun id hb=>hI.kbox c g id g hk hb rfl)
 rcases hu with hu|⟨g,ho,hg⟩
 ·exact⟨_,I2.put (some d) (x:=(.sl nl sz n cells,d+2)) (C1.of_data hr) (.inr ⟨_,_,_,_,rfl,.inl hu⟩),fun t g ht=>.inl (hsub t g ht)⟩
 ·have hlow:X.low g:=by
   rcases hg with hg|⟨_,hk⟩
   ·exact .inl (Nat.le_trans hI.size hg)
   ·exact hI.klow c g hk
  have hκ:∀t,(if t=d+2 then none else if t=c then none else κ t)≠some g:=by
   rcases hg with hg|⟨_,hk⟩
   ·intro t ht;obtain⟨t',ht'⟩:=hsub t g ht;have:=hI.khigh t' g ht';omega
   ·exact hnot g hk
  have hβ:∀id,β id≠some g:=by
   rcases hg with hg|⟨_,hk⟩
   ·intro id hb;have:=hI.box_lt hb;omega
   ·exact fun id hb=>hI.kbox c g id g hk hb rfl
  have I3:=I2.name (c:=d+2) (g:=g) (by simp) hlow ho.lt hκ hβ;refine⟨_,I3.put (some d) (x:=(.sl nl sz n cells,d+2)) (C1.of_data hr) (.inr ⟨_,_,_,_,rfl,.inr ⟨by simp,g,by simp,ho⟩⟩),fun t g' ht=>?_⟩
  by_cases e1:t=d+2
  ·rw[if_pos e1]at ht;injection ht with ht;subst ht;rcases hg with hg|⟨_,hk⟩
   ·exact .inr hg
   ·exact .inl ⟨c,hk⟩
  ·rw[if_neg e1]at ht;exact .inl (hsub t g' (by rw[if_neg e1];rw[if_neg e1]at ht;exact ht))
theorem I0.owned {X:Cx}{a:Act}{M M':C4}{β κ:Nat->Option Nat}(hI:I0 NG X st a M β κ){c d:Nat}{ex:Option Nat}(hex:ex=none\/∃g,ex=some g/\2<=c/\κ c=some g)(hm:L4 M M' ex)
  {nl:Option Bool} {sz n:Nat} {cells:List PV} {u:Value} (hr:B7 M' (.sl nl sz n cells) u) (hu:yN u\/∃g,bO M' g sz u/\(M.w.heap.size<=g\/(2<=c/\κ c=some g))) :
  ∃κ',I0 NG X ⟨((st.clr c).clr (d+2)).ρ.set d (.sl nl sz n cells,d+2),((st.clr c).clr (d+2)).bx,st.out⟩ (a.put (some d) u) M' β κ':=by
 obtain⟨κ',h1,h2⟩:=hI.toInvB.owned (d:=d) hex hm hr hu
 have hexx:∀b,some b=ex->(∃id,β id=some b)\/∃c,κ c=some b:=fun b e=>by
  rcases hex with rfl|⟨g,rfl,h3,hk⟩
  ·cases e
  ·injection e with e;subst e;exact .inr ⟨c,hk⟩
 refine⟨κ',h1,?_⟩;rw[(uH a (some d) u).1];exact hI.out.next (by simp[St.clr]) (by simp[St.clr]) rfl hI.size hm.x hexx (fun id b hb=>.inl hb) (fun t g hg=>(h2 t g hg).elim (fun h=>.inr (.inl h)) (fun h=>.inr (.inr h)))
theorem A9c {c:Nat}{nl:Option Bool}{sz n:Nat}{cells:List PV}(h:∀(X:Cx) (a:Act) (M:C4) (β κ:Nat->Option Nat),I0 NG X st a M β κ->gO en X.M0->Amb en NG W X->
  ∃u M' ex,(execOp a.eval o).run en.P M.w=.ok (.value u) M'.w/\(ex=none\/∃g,ex=some g/\2<=c/\κ c=some g)/\L4 M M' ex/\B7 M' (.sl nl sz n cells) u/\
   (yN u\/∃g,bO M' g sz u/\(M.w.heap.size<=g\/(2<=c/\κ c=some g)))):rZ en NG W st o (.own c (.sl nl sz n cells)):=by
 intro X a M β κ hI hG hW st' hst ro next Q hn;obtain⟨u,M',ex,h1,h2,h3,h4,h5⟩:=h X a M β κ hI hG hW;simp only[B0]at hst;split at hst
 ·rename_i d hd;injection hst with hst;subst hst;obtain⟨κ',hI'⟩:=hI.owned (d:=d) h2 h3 h4 h5;rw[<-hd]at hI';exact lN h1 (hn _ M' β κ' hI')
 ·cases hst
theorem A6g {n:Int}(h0:0<=n)(h1:n<=9223372036854775807):IntKind.wrap .i64 n=n:=by
 have:IntKind.wrap .i64 n=if(true&&decide (n%18446744073709551616>=9223372036854775808))=true then n%18446744073709551616-18446744073709551616 else n%18446744073709551616:=rfl
 rw[this];split<;>simp_all<;>omega
theorem A53 {t:TypeId}(hT:G5 en.P t){l c:Operand}(ho:o.op=.makeSlice t l c){act:C7}(h:A9 en st o some=some act):rZ en NG W st o act:=by
 simp only[A9,ho]at h;split at h
 ·rename_i e k n k' m he hl hc;have he:=nH he;have hie:=hT.sl e he;split at h
  ·rename_i z hz;obtain⟨i,zv,hi,hzv,hsz,hr⟩:=lC hz;obtain⟨hzl,h⟩:=A5 h;simp only[Ae,beq_iff_eq,decide_eq_true_eq]at hzl;obtain⟨hb,h⟩:=B8 h;simp only[Ae,decide_eq_true_eq]at hb;obtain⟨⟨⟨h0,hnm⟩,hby⟩,hmx⟩:=hb;injection h with h;subst h
   have hzs:zv.cells.size=F9 en.P e:=by rw[<-hsz];simp[F9,hi]
   have hbi:i.bytes=dE en.P e:=by simp[dE,hi]
   refine A9c fun X a M β κ hI hG _=>?_;have hl':=(hI.ev hG 0 l).1;have hc':=(hI.ev hG 0 c).1;rw[hl]at hl';rw[hc]at hc';have hl':=M5 hl';have hc':=M5 hc';have hrn:D7 M ((Bv n.toNat z).flatten) (Bv n.toNat zv.cells.toList).flatten:=(hr M).rep _;have harr:=A4n zv.cells (by omega) m.toNat
   have hpre:(Bv m.toNat zv.cells.toList).flatten=(Bv n.toNat zv.cells.toList).flatten++(Bv (m.toNat-n.toNat) zv.cells.toList).flatten:=by
    rw[<-List.flatten_append,List.replicate_append_replicate];congr 2;omega
   have hlen:((Bv n.toNat z).flatten).length=n.toNat * F9 en.P e:=by rw[hrn.length];simp[hzs]
   have hcm:m.toNat<=maxLen:=by simp only[maxLen];omega
   have hrel:=A0x (M:=M) (w1:=M.w) (Below.refl _ _) (arr:=(Ez (m.toNat * zv.cells.size)).map fun i=>zv.cells[i%zv.cells.size]!) (e:=e) (fr:=(0,0)) (sz:=F9 en.P e) (n:=n.toNat) (cap:=m.toNat) hrn hlen (by omega) hcm (fun j u hu=>by
    rw[<-Array.getElem?_toList,harr,hpre,Bd (Aj.1 hu).1]
    exact hu)
   refine⟨_,M.lay (M.w.alloc (.cells ((Ez (m.toNat * zv.cells.size)).map fun i=>zv.cells[i%zv.cells.size]!) e)) M.w.heap.size _,none,?_,.inl rfl,L4.lay (aO (Below.refl _ _) _) (Ak _) _,hrel,.inr ⟨M.w.heap.size,⟨⟨n.toNat,m.toNat,_,e,rfl,heap_alloc_new M.w _,by omega,hcm,by simp[hzs],?_⟩⟩,.inl (Ak _)⟩⟩
   ·have e1:=A6g h0 (by omega:n<=9223372036854775807);have e2:=A6g (by omega:0<=m) hmx
    have hbig:¬(i.bytes * m>2^48):=by
     rw[hbi];have:m * (dE en.P e:Int)<=(140737488355328:Nat):=hby;rw[Int.mul_comm]at this;omega
    have hcond:¬((m<0\/(2:Int)^48<i.bytes * m)\/n<0\/m<n):=by omega
    by_cases hz0:m.toNat * F9 en.P e=0
    ·have hm0:m.toNat=0:=by
      rcases Ed m.toNat with h|h
      ·exact h
      ·have:=Nat.mul_pos h hzl.2;omega
     have hm0':m=0:=by omega
     have hn0':n=0:=by omega
     subst hm0';subst hn0'
     have e3:∀(f:Nat->Value),Array.map f (Ez 0)=#[]:=fun f=>by apply Eh;simp
     simp[execOp,ho,Instr.makeSlice,C8 he,hl',hc',asInt,asIntOf,typeInfo,hi,e1,L3 hie,newRow,C4.lay];rw[e3,e3]
    ·simp only[execOp,ho,Instr.makeSlice,Sem.run_bind,C8 he,Result.andThen_ok,hl',hc',asInt,asIntOf,typeInfo,run_program,hi,Sem.run_pure,e1,e2];rw[if_neg (by simp only[Bool.or_eq_true,decide_eq_true_eq];omega)];simp only[Sem.run_bind,run_askRoom,Result.andThen_ok,L3 hie,if_neg hz0,lR hi hzv,Sem.run_pure,newRow,run_newObj];rw[hzs];rfl
   ·simp only[C4.lay,if_true];rw[<-hrn.length,hlen]
  ·cases h
 ·cases h
theorem A31 {P:Program}{w:World}{t u ty e e':TypeId}{n cap c:Nat}{A B:Option Addr}(ht:P.underlying t=some (.slice e))(hu:P.underlying u=some (.slice e'))(hi:(P.info? e).isSome=true)(hnc:n<=cap) :
  (Builtin.append_ #[t,u] ty #[.slice A n cap,.slice B 0 c]).run P w=.ok (.slice A n cap) w:=by
 cases B with
 |none=>cases A<;>simp[Builtin.append_,C8 ht,C8 hu,L3 hi,Builtin.lenOf,hnc,Builtin.firstCells,storeCells]
 |some b=>cases A<;>simp[Builtin.append_,C8 ht,C8 hu,L3 hi,Builtin.lenOf,hnc,Builtin.firstCells,storeCells,loadCells,loadCellsFrom]
theorem qK {P:Program}{w:World}{t u ty e e':TypeId}(ht:P.underlying t=some (.slice e))(hu:P.underlying u=some (.slice e'))(x y:Value):(Builtin.append_ #[t,u] ty #[x,y]).run P w=(Builtin.append_ #[t,t] ty #[x,y]).run P w:=by
 cases x<;>simp[Builtin.append_,C8 ht,C8 hu]
theorem yM {P:Program}(w:World)(t ty e e':TypeId)(i:TypeInfo)(ht:P.underlying t=some (.slice e))(hi:P.info? e=some i)
  (g sLen sCap:Nat) (cur:Array Value) (hg:w.heap[g]? =some (.cells cur e' (0,0)))
  (a:Addr) (m c:Nat) (news:List Value) (hl:news.length=m * i.size) (hnews:∀j u,news[j]? =some u->w.cell? (a.add j)=some u) (h1:∀u∈news,u.oneCell'=true)
  (hroom:sLen+m<=sCap) (hfit:sLen * i.size+news.length<=cur.size) :
  (Builtin.append_ #[t,t] ty #[.slice (some ⟨g,0,none⟩) sLen sCap,.slice (some a) m c]).run P w =
   .ok (.slice (some ⟨g,0,none⟩) (sLen+m) sCap) (w.setRow g (cur.toList.take (sLen * i.size)++news++cur.toList.drop (sLen * i.size+news.length)).toArray):=by
 have hf:=run_firstCells_some (P:=P) w i.size m a m c news hl hnews;have hst:=run_storeCells_at P g (sLen * i.size) e' news 0 cur w hg (by simpa using hfit) h1;simp only[Dg]at hst;simp[Builtin.append_,run_underlying ht,sizeOf,typeInfo,hi,Builtin.lenOf,hroom,hf,Addr.add_lit,hst]
structure B92 (P:Program)(w:World)(t u ty e:TypeId)(i:TypeInfo)(z:Value)(y:Value)(m:Nat)(news:List Value):Prop where
 nothing:m=0->∀(A:Option Addr) (n cap:Nat),n<=cap->(Builtin.append_ #[t,u] ty #[.slice A n cap,y]).run P w=.ok (.slice A n cap) w
 room:0<m->∀(g sLen sCap:Nat) (cur:Array Value) (e':TypeId),w.heap[g]? =some (.cells cur e' (0,0))->sLen+m<=sCap->sLen * i.size+news.length<=cur.size->
  (Builtin.append_ #[t,u] ty #[.slice (some ⟨g,0,none⟩) sLen sCap,y]).run P w=.ok (.slice (some ⟨g,0,none⟩) (sLen+m) sCap) (w.setRow g (cur.toList.take (sLen * i.size)++news++cur.toList.drop (sLen * i.size+news.length)).toArray)
 nil:0<m->(m:Int)<=9223372036854775807->m * i.bytes<=281474976710656->
  (Builtin.append_ #[t,u] ty #[.slice none 0 0,y]).run P w=.ok (.slice (some ⟨w.heap.size,0,none⟩) m (grownCap w m 0 e)) (w.drew.alloc (.cells (news.toArray++Builtin.zeroCells z.cells (grownCap w m 0 e-m)) e))
 grow:0<m->∀(b:Addr) (sLen sCap:Nat) (olds:List Value),olds.length=sLen * i.size->(∀j v,olds[j]? =some v->w.cell? (b.add j)=some v)->sCap<sLen+m->((sLen+m:Nat):Int)<=9223372036854775807->
  Builtin.nextslicecap (sLen+m) sCap * i.bytes<=281474976710656->
  (Builtin.append_ #[t,u] ty #[.slice (some b) sLen sCap,y]).run P w =
   .ok (.slice (some ⟨w.heap.size,0,none⟩) (sLen+m) (grownCap w (sLen+m) sCap e)) (w.drew.alloc (.cells (olds.toArray++news.toArray++Builtin.zeroCells z.cells (grownCap w (sLen+m) sCap e-(sLen+m))) e))
theorem B9v {P:Program}{w:World}{t u ty e:TypeId}{i:TypeInfo}{z:Value}(ht:P.underlying t=some (.slice e))(hu:P.underlying u=some .string)(hi:P.info? e=some i)(hz:i.zero=some z)(hs1:i.size=1)(s:ByteArray) :
  B92 P w t u ty e i z (.string s) s.size (Lib.strCells s) where
 nothing:=by
  intro h0 A n cap hnc;have hf:=Lib.run_firstCells_string (P:=P) (w:=w) i.size s;rw[h0]at hf;have h1:Lib.strCells s=[]:=Dw (by rw[Lib.strCells_length];exact h0);rw[h1]at hf
  cases A<;>simp[Builtin.append_,C8 ht,C8 hu,sizeOf,typeInfo,hi,Builtin.lenOf,h0,hnc,hf,storeCells]
 room:=by
  intro h0 g sLen sCap cur e' hg hroom hfit;have hf:=Lib.run_firstCells_string (P:=P) (w:=w) i.size s;have hst:=run_storeCells_at P g (sLen * i.size) e' (Lib.strCells s) 0 cur w hg (by simpa using hfit) (Lib.strCells_oneCell s);simp only[Dg]at hst;simp[Builtin.append_,run_underlying ht,run_underlying hu,sizeOf,typeInfo,hi,Builtin.lenOf,hroom,hf,Addr.add_lit,hst]
 nil:=by
  intro h0 h63 h48;have h:=run_append_nil_string (P:=P) (w:=w) t u ty e i z ht hu hi hz s h0 h63 h48
  have e1:(Lib.strCells s).toArray=s.data.map (fun b=>Value.int .u8 b.toNat):=by apply Eh;simp[Lib.strCells]
  rw[h,e1]
 grow:=by
  intro h0 b sLen sCap olds hlo holds hg h63 hfit;exact Lib.run_append_grow_string (P:=P) (w:=w) t u ty e i z ht hu hi hz b sLen sCap olds hlo holds s hg h63 hfit
theorem C8f {P:Program}{w:World}{t u ty e e':TypeId}{i:TypeInfo}{z:Value}(ht:P.underlying t=some (.slice e))(hu:P.underlying u=some (.slice e'))(hi:P.info? e=some i)(hz:i.zero=some z){B:Option Addr}{m c:Nat}{news:List Value}
  (hl:news.length=m * i.size) (h1:∀u∈news,u.oneCell'=true) (hB:0<m->∃a,B=some a/\∀j v,news[j]? =some v->w.cell? (a.add j)=some v):B92 P w t u ty e i z (.slice B m c) m news where
 nothing:=by
  intro h0 A n cap hnc;subst h0;exact A31 ht hu (by rw[hi];rfl) hnc
 room:=by
  intro h0 g sLen sCap cur e0 hg hroom hfit;obtain⟨a,rfl,hn⟩:=hB h0;rw[qK ht hu];exact yM w t ty e e0 i ht hi g sLen sCap cur hg a m c news hl hn h1 hroom hfit
 nil:=by
  intro h0 h63 h48;obtain⟨a,rfl,hn⟩:=hB h0;rw[qK ht hu];exact run_append_nil (P:=P) w t ty e i z ht hi hz a m c news hl hn h0 h63 h48
 grow:=by
  intro h0 b sLen sCap olds hlo holds hg h63 hfit;obtain⟨a,rfl,hn⟩:=hB h0;rw[qK ht hu];exact run_append_grow (P:=P) w t ty e i z ht hi hz b sLen sCap olds hlo holds a m c news hl hn hg h63 hfit
theorem A24 {M:C4}{κ:Nat->Option Nat}{t u ty e:TypeId}(hT:G5 en.P t){nl:Option Bool}{sz n m c:Nat}{cells cells':List PV}{vs':List Value}{v w':Value}(ht:en.P.underlying t=some (.slice e))(hsz:F9 en.P e=sz)(hpos:0<sz)
  (hz:(kG en.P e).isSome=true)
  (hlen:n+m<=9223372036854775807) (hby:(n+m) * dE en.P e<=A62) (hr:B7 M (.sl nl sz n cells) v) (k5:cells'.length=m * sz) (k6:D7 M cells' vs') (hA:∀i zv,en.P.info? e=some i->i.zero=some zv->B92 en.P M.w t u ty e i zv w' m vs') (hc:c≠0) (htag:N1 M κ (.sl nl sz n cells) c v) (hU:∀g,2<=c->κ c=some g->True) :
  ∃r M' ex,(Builtin.append_ #[t,u] ty #[v,w']).run en.P M.w=.ok r M'.w/\(ex=none\/∃g,ex=some g/\2<=c/\κ c=some g)/\L4 M M' ex/\
   B7 M' (.sl (nl.map (·&& (m==0))) sz (n+m) (cells++cells')) r/\(yN r\/∃g,bO M' g sz r/\(M.w.heap.size<=g\/(2<=c/\κ c=some g))):=by
 have hie:=hT.sl e ht;obtain⟨z,hz⟩:=Option.isSome_iff_exists.1 hz;obtain⟨i,zv,hi,hzv,hisz,_⟩:=lC hz
 have hs:i.size=sz:=by rw[<-hsz];simp[F9,hi]
 have hb:i.bytes=dE en.P e:=by simp[dE,hi]
 have hzs:zv.cells.size=sz:=by rw[<-hs];exact hisz.symm
 have htag':yN v\/(2<=c/\∃g,κ c=some g/\bO M g sz v):=by
  rcases htag with h|⟨_,_,_,_,he,h⟩
  ·exact(hc h).elim
  ·injection he with _ e2 _ _;rw[e2];exact h
 simp only[B7]at hr;obtain⟨A,cap,vs,rfl,h1,h2,h3,h4,h5,h6,h7⟩:=hr;have hA:=hA i zv hi hzv
 have hlv:vs.length=n * sz:=by rw[<-h6.length];exact h5
 have hlv':vs'.length=m * sz:=by rw[<-k6.length];exact k5
 have hcl:(cells++cells').length=(n+m) * sz:=by rw[Af,h5,k5,Di]
 rcases Ed m with hm0|hm0
 ·
  subst hm0;have e1:cells'=[]:=Dw (by rw[k5];simp);subst e1;refine⟨_,M,none,hA.nothing rfl A n cap h1,.inl rfl,L4.refl M,?_,?_⟩
  ·simp only[B7,Bf,Dg];refine⟨A,cap,vs,rfl,h1,h2,?_,h4,h5,h6,h7⟩;intro b hb
   cases nl with
   |none=>simp at hb
   |some b'=>simp at hb;subst hb;exact h3 _ rfl
  ·rcases htag' with h|⟨h2,g,hk,ho⟩
   ·exact .inl h
   ·exact .inr ⟨g,ho,.inr ⟨h2,hk⟩⟩
 ·
  have hmap:nl.map (·&& (m==0))=nl.map fun _=>false:=by
   have:(m==0)=false:=by simp;omega
   rw[this]
   cases nl<;>simp
  have grow:∀(M1:World) (arr:Array Value) (newCap:Nat),M1.heap.size=M.w.heap.size->Below M.w.heap.size M.w M1->n+m<=newCap->newCap<=maxLen->arr.size=newCap * sz->(∀(j:Nat) (u:Value),(vs++vs')[j]? =some u->arr[j]? =some u)->
    ∃M' ex,M'.w=M1.alloc (.cells arr e)/\(ex=none\/∃g,ex=some g/\2<=c/\κ c=some g)/\L4 M M' ex/\B7 M' (.sl (nl.map fun _=>false) sz (n+m) (cells++cells')) (.slice (some ⟨M.w.heap.size,0,none⟩) (n+m) newCap)/\
     (yN (.slice (some ⟨M.w.heap.size,0,none⟩) (n+m) newCap)\/∃g,bO M' g sz (.slice (some ⟨M.w.heap.size,0,none⟩) (n+m) newCap)/\(M.w.heap.size<=g\/(2<=c/\κ c=some g))):=by
   intro M1 arr newCap hsz1 hb1 hc1 hc2 hc3 hc4;have hrel:=A0x (M:=M) (w1:=M1) hb1 (arr:=arr) (e:=e) (fr:=(0,0)) (sz:=sz) (n:=n+m) (cap:=newCap) (h6.append k6) hcl hc1 hc2 hc4;refine⟨M.lay (M1.alloc (.cells arr e)) M1.heap.size (vs++vs').length,none,rfl,.inl rfl,L4.lay (aO hb1 _) hb1.size _,?_,.inr ⟨M.w.heap.size,⟨⟨n+m,newCap,arr,e,rfl,?_,hc1,hc2,hc3,?_⟩⟩,.inl (Ak _)⟩⟩
   ·rw[hsz1]at hrel ⊢;simp only[B7]at hrel ⊢;obtain⟨A',cc,ws,q1,q2,q3,q4,q5⟩:=hrel;refine⟨A',cc,ws,q1,q2,q3,?_,q5⟩;intro bb hbb
    cases nl with
    |none=>simp at hbb
    |some b'=>simp at hbb;subst hbb;exact q4 _ rfl
   ·show(M1.alloc _).heap[M.w.heap.size]? =_;rw[<-hsz1];exact heap_alloc_new M1 _
   ·simp only[C4.lay,hsz1,if_true];rw[Af,hlv,hlv',Di]
  have hdrew:Below M.w.heap.size M.w M.w.drew:=(Below.refl _ _).drew
  have hrm:(n+m) * i.bytes<=140737488355328:=by rw[hb];exact hby
  have hml:n+m<=maxLen:=by simp only[maxLen];omega
  rw[hmap]
  by_cases hroom:n+m<=cap
  ·
   have hown:2<=c/\∃g,κ c=some g/\bO M g sz (.slice A n cap):=by
    rcases htag' with⟨A',n',e⟩|h
    ·injection e with _ e1 e2;omega
    ·exact h
   obtain⟨hc2,g,hk,ho⟩:=hown;obtain⟨n',cap',cur,e0,q1,q2,q3,q4,q5,q6⟩:=ho.ex;injection q1 with q11 q12 q13;subst q11;subst q12;subst q13
   have hcs:n * i.size+vs'.length<=cur.size:=by rw[hs,hlv',q5,<-Di];exact Es _ hroom
   have hrun:=hA.room hm0 g n cap cur e0 q2 hroom hcs;rw[hs]at hrun hcs
   have hvs:cur.toList.take (n * sz)=vs:=by
    rcases h7 with h7|⟨b',o',e',h7⟩
    ·rw[h7]at hlv ⊢;simp at hlv;rw[<-hlv];rfl
    ·injection e' with e';injection e' with e1 e2;subst e1;subst e2;apply Ep;intro j
     by_cases hj:j<n * sz
     ·have hj':vs[j]? =some (vs[j]'(by omega)):=List.getElem?_eq_getElem (by omega);have:=(h7 j _ hj').1;rw[Bm,cell_of_row _ _ _ cur e0 (0,0) q2]at this;rw[Ew hj,hj',<-this];simp
     ·rw[Bs (by simp;omega),Bs (by omega)]
   let M':C4:=⟨M.w.setRow g (cur.toList.take (n * sz)++vs'++cur.toList.drop (n * sz+vs'.length)).toArray,fun b=>if b=g then(n+m) * sz else M.U b,M.y⟩
   have hnewsz:(cur.toList.take (n * sz)++vs'++cur.toList.drop (n * sz+vs'.length)).length=cur.size:=by simp;omega
   have hcell:∀j,(M.w.setRow g (cur.toList.take (n * sz)++vs'++cur.toList.drop (n * sz+vs'.length)).toArray).cell? ⟨g,j,none⟩=(cur.toList.take (n * sz)++vs'++cur.toList.drop (n * sz+vs'.length))[j]? :=fun j=>by
    rw[cell_setRow_same _ _ _ _ _ _ _ q2];simp
   have hmove:L4 M M' (some g) :=
    {os:=rfl,tape:=rfl,output:=rfl,size:=by simp[M',World.setRow]
     block:=fun b' hb' hne=>⟨setRow_other _ _ _ _ (fun e=>hne (by rw[e])),by simp only[M'];rw[if_neg (fun e=>hne (by rw[e]))]⟩
     le:=⟨fun b' o' x hx hlt=>by
      by_cases e1:b'=g
      ·subst e1;rw[q6]at hlt;refine⟨?_,by simp only[M',if_true];exact As hlt (Es _ (Nat.le_add_right _ _))⟩;show(M.w.setRow _ _).cell? _=_;rw[hcell,Al,Bd (by simp;omega),Ew hlt];rw[cell_of_row _ _ _ cur e0 (0,0) q2]at hx;simpa using hx
      ·exact⟨(cell_setRow_other _ _ _ _ e1).trans hx,by simp only[M'];rw[if_neg e1];exact hlt⟩,rfl,fun b' k ⟨arr',e',h1',h2'⟩=>by
      by_cases e1:b'=g
      ·subst e1;rw[q2]at h1';injection h1' with h1';injection h1' with h1' h3';subst h1';exact⟨_,e0,setRow_heap _ _ _ _ _ _ q2,by rw[Dd,hnewsz];exact h2'⟩
      ·exact⟨arr',e',(setRow_other _ _ _ _ e1).trans h1',h2'⟩⟩}
   refine⟨_,M',some g,hrun,.inr ⟨g,rfl,hc2,hk⟩,hmove,?_,.inr ⟨g,⟨⟨n+m,cap,_,e0,rfl,setRow_heap _ _ _ _ _ _ q2,hroom,q4,by simpa [q5]using hnewsz,by simp[M']⟩⟩,.inr ⟨hc2,hk⟩⟩⟩;simp only[B7];refine⟨_,cap,vs++vs',rfl,hroom,q4,?_,by simp,hcl,(h6.append k6).mono' hmove.le,.inr ⟨g,0,rfl,?_⟩⟩
   ·intro bb hbb
    cases nl with
    |none=>simp at hbb
    |some b'=>simp at hbb;subst hbb;rfl
   ·intro j x hj
    have hlt:j<(n+m) * sz:=by
     have:=(Aj.1 hj).1;rw[Af,hlv,hlv',<-Di]at this;exact this
    refine⟨?_,by simp only[M',if_true,Bm];exact hlt⟩;show(M.w.setRow _ _).cell? _=_;rw[Bm,hcell,hvs,Bd (by rw[Af,hlv,hlv',<-Di];exact hlt)];exact hj
  ·
   have hfit:=growslice_fits (need:=n+m) (old:=cap) (by omega) hrm;have hge:=grownCap_ge M.w (n+m) cap e;have hcm:grownCap M.w (n+m) cap e<=maxLen:=grownCap_le_maxLen M.w (n+m) cap e hml
   have harr:∀(k:Nat),(vs.toArray++vs'.toArray++Builtin.zeroCells zv.cells k).size=(n+m+k) * sz:=fun k=>by
    rw[Array.size_append,Array.size_append,size_zeroCells,hzs];simp only[Dd,hlv,hlv'];rw[<-Di,<-Di]
   have hgetj:∀(k:Nat) (j:Nat) (x:Value),(vs++vs')[j]? =some x->(vs.toArray++vs'.toArray++Builtin.zeroCells zv.cells k)[j]? =some x:=fun k j x hj=>by
    rw[Array.getElem?_append_left (by simp;have:=(Aj.1 hj).1;simpa using this)];simpa using hj
   cases A with
   |none =>
    have hcap0:cap=0:=h4 rfl;subst hcap0
    have hn0:n=0:=by omega
    subst hn0;have hv0:vs=[]:=Dw (by rw[hlv];simp);subst hv0;have hrun:=hA.nil hm0 (by omega) (by simp only[Bm]at hrm;omega);simp only[Bm]at hge hcm hml;obtain⟨M',ex,g1,g2,g3,g4,g5⟩:=grow M.w.drew (vs'.toArray++Builtin.zeroCells zv.cells (grownCap M.w m 0 e-m)) (grownCap M.w m 0 e) rfl hdrew (by omega) hcm (by have:=harr (grownCap M.w m 0 e-m);simp only[Bm]at this;rw[show(#[]:Array Value)=([]:List Value).toArray from rfl]at *;simpa [show m+(grownCap M.w m 0 e-m)=grownCap M.w m 0 e by omega]using this) (fun j x hj=>by have:=hgetj (grownCap M.w m 0 e-m) j x hj;simpa using this);simp only[Bm]at g4 g5 ⊢;exact⟨_,M',ex,by rw[hrun,g1],g2,g3,g4,g5⟩
   |some ad =>
    have holds:∀j x,vs[j]? =some x->M.w.cell? (ad.add j)=some x:=by
     rcases h7 with h7|⟨b',o',e',h7⟩
     ·intro j x hj;rw[h7]at hj;simp at hj
     ·injection e' with e';subst e';intro j x hj;rw[V9];exact(h7 j x hj).1
    have hrun:=hA.grow hm0 ad n cap vs (by rw[hs];exact hlv) holds (by omega) (by omega) hfit;obtain⟨M',ex,g1,g2,g3,g4,g5⟩:=grow M.w.drew _ (grownCap M.w (n+m) cap e) rfl hdrew hge hcm (by have:=harr (grownCap M.w (n+m) cap e-(n+m));rw[show n+m+(grownCap M.w (n+m) cap e-(n+m))=grownCap M.w (n+m) cap e by omega]at this;exact this) (hgetj _);exact⟨_,M',ex,by rw[hrun,g1],g2,g3,g4,g5⟩
theorem C4h {M:C4}{κ:Nat->Option Nat}{t u ty e e':TypeId}(hT:G5 en.P t){nl nl':Option Bool}{sz n m c:Nat}{cells cells':List PV}{v w':Value}(ht:en.P.underlying t=some (.slice e))(hu:en.P.underlying u=some (.slice e'))(hsz:F9 en.P e=sz)(hpos:0<sz)
  (hz:(kG en.P e).isSome=true)
  (hlen:n+m<=9223372036854775807) (hby:(n+m) * dE en.P e<=A62) (hr:B7 M (.sl nl sz n cells) v) (hr':B7 M (.sl nl' sz m cells') w') (hc:c≠0) (htag:N1 M κ (.sl nl sz n cells) c v) (hU:∀g,2<=c->κ c=some g->True) :
  ∃r M' ex,(Builtin.append_ #[t,u] ty #[v,w']).run en.P M.w=.ok r M'.w/\(ex=none\/∃g,ex=some g/\2<=c/\κ c=some g)/\L4 M M' ex/\
   B7 M' (.sl (nl.map (·&& (m==0))) sz (n+m) (cells++cells')) r/\(yN r\/∃g,bO M' g sz r/\(M.w.heap.size<=g\/(2<=c/\κ c=some g))):=by
 simp only[B7]at hr';obtain⟨B,c',vs',rfl,k1,k2,k3,k4,k5,k6,k7⟩:=hr'
 have hlv':vs'.length=m * sz:=by rw[<-k6.length];exact k5
 refine A24 hT ht hsz hpos hz hlen hby hr k5 k6 (fun i zv hi hzv=>?_) hc htag hU
 have hs:i.size=sz:=by rw[<-hsz];simp[F9,hi]
 refine C8f ht hu hi hzv (by rw[hs];exact hlv') k6.one fun hm0=>?_
 have hne:vs'≠[]:=by intro e;rw[e]at hlv';have:=Nat.mul_pos hm0 hpos;simp at hlv';omega
 rcases k7 with k7|⟨b,off,rfl,k7⟩
 ·exact(hne k7).elim
 ·exact⟨⟨b,off,none⟩,rfl,fun j u hj=>by rw[V9];exact(k7 j u hj).1⟩
theorem B7s {M:C4}{κ:Nat->Option Nat}{t u ty e:TypeId}(hT:G5 en.P t){nl:Option Bool}{n c:Nat}{cells:List PV}{q:List UInt8}{v:Value}(ht:en.P.underlying t=some (.slice e))(hu:en.P.underlying u=some .string)(hsz:F9 en.P e=1)
  (hz:(kG en.P e).isSome=true)
  (hlen:n+q.length<=9223372036854775807) (hby:(n+q.length) * dE en.P e<=A62) (hr:B7 M (.sl nl 1 n cells) v) (hc:c≠0) (htag:N1 M κ (.sl nl 1 n cells) c v) (hU:∀g,2<=c->κ c=some g->True) :
  ∃r M' ex,(Builtin.append_ #[t,u] ty #[v,.string ⟨q.toArray⟩]).run en.P M.w=.ok r M'.w/\(ex=none\/∃g,ex=some g/\2<=c/\κ c=some g)/\L4 M M' ex/\
   B7 M' (.sl (nl.map (·&& (q.length==0))) 1 (n+q.length) (cells++q.map aA)) r/\(yN r\/∃g,bO M' g 1 r/\(M.w.heap.size<=g\/(2<=c/\κ c=some g))):=by
 refine A24 (vs':=q.map fun b=>.int .u8 b.toNat) hT ht hsz (by decide) hz hlen hby hr (by simp) (B0b M q) (fun i zv hi hzv=>?_) hc htag hU
 have hs:i.size=1:=by rw[<-hsz];simp[F9,hi]
 exact B9v ht hu hi hzv hs ⟨q.toArray⟩
end
end Go.Proofs.YtkpfigikffphdaaGreatDoor
end
