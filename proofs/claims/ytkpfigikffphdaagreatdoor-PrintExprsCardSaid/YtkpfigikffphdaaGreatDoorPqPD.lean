/-
  Lemmas, part P4: what the claim needs of the texts of wip/tpl.
-/
import Derived.RangeFuncNested
import Derived.LoopNIn
import Derived.Test.YtkpfigikffphdaaGreatDoorProg
import Derived.Laws.Externs
import Derived.Test.YtkpfigikffphdaaGreatDoorPqPC
set_option linter.unusedVariables false
set_option linter.unusedSimpArgs false
open Array renaming getElem?_eq_some_iff→Bu,replicate→Ej
open Bool renaming and_eq_true→Ae,false_eq_true→Bp,or_eq_true→Cc
open List renaming length_cons→Ac,getElem?_eq_getElem→Ag,getElem?_eq_some_iff→Aj,append_assoc→Al,mem_cons_self→An,mem_cons_of_mem→Ap,getElem?_map→Az,getElem?_append_left→Bd,mem_cons→Be,append_nil→Bf,all_eq_true→Bg,mem_of_getElem?→Bi,getElem?_append_right→Bj,cons_append→Bk,reverse_cons→Br,replicate→Bv,length_map→By,getElem?_cons_succ→Bz,getElem?_drop→Ca,map_cons→Cb,nil_append→Cd,getElem?_of_mem→Cm,lookup_cons→Ct,getElem?_take→De,nodup_cons→Dm,getElem?_cons_zero→Dn,map_nil→Ei,mem_filterMap→El,nodup_nil→Fk,nodup_append→Fp
open List.cons renaming injEq→Cl
open Nat renaming le_refl→Ak,lt_of_lt_of_le→As,le_trans→Aw,zero_le→Bh,zero_add→Bm,add_zero→Dg,lt_or_ge→Dx,eq_zero_or_pos→Ed
open Option renaming bind_assoc→Ad,map_eq_some_iff→Am,map_some→Aq,isNone_iff_eq_none→Et
open Option.some renaming injEq→Ah
open Prod.mk renaming injEq→Dz
section
namespace Go.Proofs.YtkpfigikffphdaaGreatDoor
open Go.RowKit
section
variable {en:K6} {NG:Nat} {W:World->Prop}
theorem iL {α β:Type}(f:Nat->α->β):∀(l:List α) (k i:Nat),(S4 f k l)[i]? =(l[i]?).map (f (k+i))
 |[],k,i=>by simp[S4]
 |x::l,k,0=>by simp[S4]
 |x::l,k,i+1=>by
  simp only[S4,Bz];rw[iL f l (k+1) i];congr 2;omega
theorem eU {α β:Type}(f:Nat->α->β):∀(l:List α) (k:Nat),(S4 f k l).length=l.length
 |[],k=>rfl
 |x::l,k=>by simp[S4,eU f l]
theorem U8 {α:Type _}:∀{l:List (Nat×α)} {k:Nat} {v:α},l.lookup k=some v->(k,v)∈l
 |[],k,v,h=>by simp at h
 |(a,b)::l,k,v,h=>by
  rw[Ct]at h
  by_cases e:k=a
  ·subst e;simp at h;subst h;exact An
  ·have:(k==a)=false:=by simpa using e
   rw[this]at h;exact Ap _ (U8 h)
theorem bT {α:Type}:∀{l:List Nat},Z2 l=true->l.Nodup
 |[],_=>Fk
 |x::l,h=>by
  simp only[Z2,Ae,Bool.not_eq_true',List.contains_eq_mem,decide_eq_false_iff_not]at h;exact Dm.2 ⟨h.1,bT (α:=α) h.2⟩
theorem Z4 {α β:Type}(f:α->Option β):∀{l:List α},(l.filterMap f).Nodup->∀{p q:α} {v:β},p∈l->q∈l->f p=some v->f q=some v->p=q
 |[],_,p,q,v,hp,_,_,_=>by cases hp
 |x::l,h,p,q,v,hp,hq,h1,h2=>by
  rcases hx:f x with _|u
  ·rw[List.filterMap_cons_none hx]at h
   have e1:p∈l:=by
    rcases Be.1 hp with e|e
    ·rw[e,hx]at h1;cases h1
    ·exact e
   have e2:q∈l:=by
    rcases Be.1 hq with e|e
    ·rw[e,hx]at h2;cases h2
    ·exact e
   exact Z4 f h e1 e2 h1 h2
  ·rw[List.filterMap_cons_some hx,Dm]at h;rcases Be.1 hp with e1|e1<;>rcases Be.1 hq with e2|e2
   ·rw[e1,e2]
   ·rw[e1,hx]at h1;injection h1 with h1;subst h1;exact(h.1 (El.2 ⟨q,e2,h2⟩)).elim
   ·rw[e2,hx]at h2;injection h2 with h2;subst h2;exact(h.1 (El.2 ⟨p,e1,h1⟩)).elim
   ·exact Z4 f h.2 e1 e2 h1 h2
def qM (slots:List (Nat×Bool))(claims:List Nat)(st:St)(κ:Nat->Option Nat)(tag:Nat):Option Nat :=
 if st.ρ.length+st.ρ.length+2<=tag then
  if claims.contains (tag-(st.ρ.length+st.ρ.length+2))then
   match kE st.bx[tag-(st.ρ.length+st.ρ.length+2)]? with
   |some x=>if 2<=x.2 then κ x.2 else none
   |none=>none
  else none
 else if st.ρ.length+2<=tag then
  match slots.lookup (tag-(st.ρ.length+2)),st.ρ[tag-(st.ρ.length+2)]? with
  |some true,some x=>if 2<=x.2 then κ x.2 else none
  |_,_=>none
 else none
theorem cY {slots:List (Nat×Bool)}{claims:List Nat}{st:St}{κ:Nat->Option Nat}{tag g:Nat}(h:qM slots claims st κ tag=some g) :
  (∃t x,tag=st.ρ.length+2+t/\slots.lookup t=some true/\st.ρ[t]? =some x/\2<=x.2/\κ x.2=some g)\/(∃i x,tag=st.ρ.length+st.ρ.length+2+i/\i∈claims/\kE st.bx[i]? =some x/\2<=x.2/\κ x.2=some g):=by
 unfold qM at h;split at h
 ·rename_i hle;obtain⟨h1,h⟩:=A5 h;split at h
  ·rename_i x hx;obtain⟨h2,h⟩:=A5 h;exact .inr ⟨_,x,by omega,by simpa using h1,hx,h2,h⟩
  ·cases h
 ·obtain⟨h1,h⟩:=A5 h;split at h
  ·rename_i x h2 h3;obtain⟨h4,h⟩:=A5 h;exact .inl ⟨tag-(st.ρ.length+2),x,by omega,h2,h3,h4,h⟩
  ·cases h
theorem B2p {slots:List (Nat×Bool)}{claims:List Nat}{st:St}{κ:Nat->Option Nat}{t:Nat}{x:TV}(h1:slots.lookup t=some true)(h2:st.ρ[t]? =some x)(h3:2<=x.2):qM slots claims st κ (st.ρ.length+2+t)=κ x.2:=by
 have hlt:@LT.lt Nat _ t st.ρ.length:=(Aj.1 h2).1;unfold qM;rw[if_neg (by omega),if_pos (by omega),show st.ρ.length+2+t-(st.ρ.length+2)=t by omega,h1,h2];simp only;rw[if_pos h3]
theorem B7k {slots:List (Nat×Bool)}{claims:List Nat}{st:St}{κ:Nat->Option Nat}{i:Nat}{x:TV}(h1:claims.contains i=true)(h2:kE st.bx[i]? =some x)(h3:2<=x.2):qM slots claims st κ (st.ρ.length+st.ρ.length+2+i)=κ x.2:=by
 unfold qM;rw[if_pos (by omega),show st.ρ.length+st.ρ.length+2+i-(st.ρ.length+st.ρ.length+2)=i by omega,if_pos h1,h2];simp only;rw[if_pos h3]
theorem sU {M:C4}{β:Nat->Option Nat}{bs:List Nat}{x:PV}{v:Value}(h:C1 M β x v):C1 M (fun id=>if bs.contains id then β id else none) (mJ bs x) v:=by
 have key:∀(y:PV),C1 M β y v->C1 M (fun id=>if bs.contains id then β id else none) ((Q2 (fun id=>if bs.contains id then some id else none) true 4 y).getD .undef) v:=by
  intro y hy;rcases hr:Q2 (fun id=>if bs.contains id then some id else none) true 4 y with _|z
  ·exact trivial
  ·refine V3 (fun id j hj b hb=>?_) 4 y z v hr hy;obtain⟨h1,h2⟩:=A5 hj;injection h2 with h2;subst h2;rw[if_pos h1];exact hb
 cases x with
 |ptr id off =>
  simp only[mJ];split
  ·rename_i hc;obtain⟨b,h1,h2⟩:=h;exact⟨b,by simp only[hc,if_true];exact h1,h2⟩
  ·exact trivial
 |bsl id off sz n =>
  simp only[mJ];split
  ·rename_i hc;simp only[C1]at h ⊢;obtain⟨b,c,h1,h2⟩:=h;exact⟨b,c,by simp only[hc,if_true];exact h1,h2⟩
  ·exact trivial
 |eptr cs=>exact h
 |clo f caps =>
  cases caps with
  |nil=>exact C1.of_data (h.data rfl)
  |cons c cs=>exact key _ h
 |agp cs=>exact key _ h
 |tupp cs=>exact key _ h
 |_=>exact h
theorem A3a {M:C4}{κ κ':Nat->Option Nat}{x y:PV}{c c':Nat}{v:Value}(h:N1 M κ x c v)(hx:∀nl sz n cells,x=.sl nl sz n cells->y=x)(hc:c≠0)(hκ:2<=c->κ' c'=κ c)(hc':2<=c'):N1 M κ' y c' v:=by
 rcases h with h|⟨nl,sz,n,cells,he,h⟩
 ·exact(hc h).elim
 ·refine .inr ⟨nl,sz,n,cells,(hx _ _ _ _ he).trans he,?_⟩;rcases h with h|⟨h2,g,hk,ho⟩
  ·exact .inl h
  ·exact .inr ⟨hc',g,(hκ h2).trans hk,ho⟩
theorem I0.normA {X:Cx}{st:St}{a:Act}{M:C4}{β κ:Nat->Option Nat}(hI:I0 NG X st a M β κ){slots:List (Nat×Bool)}:I0 NG X (normA slots st) a M β κ:=by
 refine⟨?_,hI.out.next (by simp[Go.Proofs.YtkpfigikffphdaaGreatDoor.normA,eU]) (Ak _) rfl hI.size (H8.refl M fun _=>False) (fun _ h=>h.elim) (fun id b hb=>.inl hb) (fun c g hg=>.inr (.inl ⟨c,hg⟩))⟩;exact
  {mv:=hI.mv
   ng:=hI.ng
   fpng:=hI.fpng
   len:=by simp only[Go.Proofs.YtkpfigikffphdaaGreatDoor.normA,eU];exact hI.len
   slot:=by
    intro t x hx;simp only[Go.Proofs.YtkpfigikffphdaaGreatDoor.normA]at hx;rw[iL,Bm]at hx;rcases ht:st.ρ[t]? with _|y
    ·rw[ht]at hx;simp at hx
    ·rw[ht]at hx;simp only[Aq,Ah]at hx;subst hx;obtain⟨v,h1,h2,h3⟩:=hI.slot t y ht;unfold A79;split
     ·exact⟨v,h1,C1.of_data (by simp only[B7]),.inl rfl⟩
     ·exact⟨v,h1,h2,.inl rfl⟩
   box:=hI.box
   alive:=hI.alive
   binj:=hI.binj
   kinj:=hI.kinj
   kbox:=hI.kbox
   klow:=hI.klow
   khigh:=hI.khigh}
theorem I0.norm {X :Cx} {st:St} {a:Act} {M:C4} {β κ:Nat->Option Nat} (hI:I0 NG X st a M β κ) {slots:List (Nat × Bool)} {boxes claims:List Nat} (E4:A9r slots claims st=true) :
  I0 NG X (wQ slots boxes claims st) a M (fun id=>if boxes.contains id then β id else none) (qM slots claims st κ):=by
 unfold A9r at E4;simp only [Ae]at E4;have hnd:=bT (α:=Nat) E4.1;have hnd1:=(Fp.1 hnd).1;have hnd2:=(Fp.1 hnd).2.1;have hnd3:=(Fp.1 hnd).2.2
 have slotTag:∀t x g,slots.lookup t=some true->st.ρ[t]? =some x->2<=x.2->κ x.2=some g->x.2∈ B5s slots st:=fun t x g h1 h2 h3 _ =>
  El.2 ⟨(t,true),U8 h1,by simp [h2,h3]⟩
 have boxTag:∀i x,i∈ claims->kE st.bx[i]? =some x->2<=x.2->x.2∈ lD claims st:=fun i x h1 h2 h3 =>
  El.2 ⟨i,h1,by simp [h2,h3]⟩
 refine⟨?_,hI.out.next (by simp [wQ,eU]) (by simp [wQ,eU]) rfl hI.size (H8.refl M fun _=>False) (fun _ h=>h.elim) (fun id b hb=>.inl (A5 hb).2) (fun c g hg=>?_)⟩
 ·exact
  {mv :=hI.mv
   ng:=hI.ng
   fpng:=hI.fpng
   len:=by simp only [wQ,eU];exact hI.len
   slot :=by
    intro t x hx;simp only [wQ]at hx;rw [iL,Bm]at hx;rcases ht:st.ρ[t]? with _ |y
    ·rw [ht]at hx;simp at hx
    ·rw [ht]at hx;simp only [Aq,Ah]at hx;subst hx;obtain⟨v,h1,h2,h3⟩:=hI.slot t y ht;unfold B1i;split
     ·exact⟨v,h1,trivial,.inl rfl⟩
     ·rename_i want hw;refine⟨v,h1,sU h2,?_⟩
      cases want with
      |false=>exact .inl rfl
      |true =>
       simp only [if_true]
       by_cases h0:y.2=0
       ·rw [if_pos h0];exact .inl rfl
       ·rw [if_neg h0];exact A3a h3 (fun nl sz n cells he=>by rw [he];rfl) h0 (fun h2=>B2p hw ht h2) (by omega)
   box :=by
    intro id b hb;obtain⟨hc,hb⟩:=A5 hb;obtain⟨cs,arr,e,h1,h2,h3,h4,h5⟩:=hI.box id b hb;refine⟨gT boxes claims st.ρ.length id cs,arr,e,?_,h2,?_,h4,h5⟩
    ·simp only [wQ,iL,h1,Aq,Bm,A82];rw [if_pos hc]
    ·rcases h3 with h3 |⟨xs,hxs,h3⟩
     rotate_left
     ·exact .inr ⟨xs,by rw [hxs];simp [gT,mJ,PV.nilSl],h3⟩
     refine .inl ?_
     have gen:J6 M (fun id=>if boxes.contains id then β id else none) (qM slots claims st κ) (cs.map fun x=>(mJ boxes x.1,0)) arr:=by
      refine⟨by simp [h3.1],fun j x hx=>?_⟩;rw [Az]at hx;rcases hj:cs[j]? with _ |y
      ·rw [hj]at hx;simp at hx
      ·rw [hj]at hx;simp only [Aq,Ah]at hx;subst hx;obtain⟨u,k1,k2,k3,_⟩:=h3.2 j y hj;exact⟨u,k1,k2,sU k3,.inl rfl⟩
     rcases cs with _ |⟨x,r⟩
     ·exact gen
     refine⟨by simp only [gT,Ac,By];exact h3.1,fun j y hy=>?_⟩
     cases j with
     |succ j=>exact gen.2 (j + 1) y (by simpa [gT]using hy)
     |zero =>
      simp [gT]at hy;subst hy;obtain⟨u,k1,k2,k3,k4⟩:=h3.2 0 x rfl;refine⟨u,k1,k2,sU k3,?_⟩;show N1 M _ (mJ boxes x.1) (if id∈ claims then(if x.2=0 then(if x.1.nilSl=true then st.ρ.length + st.ρ.length + 2 + id else 0)else st.ρ.length + st.ρ.length + 2 + id)else 0) u
      by_cases hcl:id∈ claims
      ·rw [if_pos hcl]
       by_cases h0:x.2=0
       ·rw [if_pos h0]
        by_cases hnil:x.1.nilSl=true
        ·rw [if_pos hnil];obtain⟨y,t⟩:=x
         obtain⟨sz,n,cells,rfl⟩:∃sz n cells,y=.sl (some true) sz n cells:=by
          cases y with
          |sl nl sz n cells =>
           cases nl with
           |none=>simp [PV.nilSl]at hnil
           |some b =>
            cases b with
            |true=>exact⟨sz,n,cells,rfl⟩
            |false=>simp [PV.nilSl]at hnil
          |_=>simp [PV.nilSl]at hnil
         refine .inr ⟨some true,sz,n,cells,rfl,.inl ?_⟩;have k3':B7 M (.sl (some true) sz n cells) u:=k3.data rfl;simp only [B7]at k3';obtain⟨A,c,vs,rfl,q1,q2,q3,q4,_⟩:=k3';have hA:=q3 true rfl
         obtain rfl:A=none:=by cases A<;>simp_all
         obtain rfl:=q4 rfl
         obtain rfl:n=0:=by omega
         exact⟨none,0,rfl⟩
        ·rw [if_neg hnil];exact .inl rfl
       ·rw [if_neg h0];exact A3a k4 (fun nl sz n cells he=>by rw [he];rfl) h0 (fun h2=>B7k (by simpa using hcl) (by rw [h1];rfl) h2) (by omega)
      ·rw [if_neg hcl];exact .inl rfl
   alive :=by
    intro id cs hc;simp only [wQ]at hc;rw [iL,Bm]at hc;rcases hi:st.bx[id]? with _ |o
    ·rw [hi]at hc;simp at hc
    ·rw [hi]at hc;simp only [Aq,Ah,A82]at hc;obtain⟨hk,hc⟩:=A5 hc
     cases o with
     |none=>simp at hc
     |some ds =>
      obtain⟨b,hb⟩:=hI.alive id ds hi;exact⟨b,by simp only [hk,if_true];exact hb⟩
   binj:=by
    intro id id' b h1 h2;exact hI.binj id id' b (A5 h1).2 (A5 h2).2
   kinj:=by
    intro c c' g h1 h2;rcases cY h1 with⟨t,x,rfl,a1,a2,a3,a4⟩ |⟨i,x,rfl,a1,a2,a3,a4⟩<;>rcases cY h2 with⟨t',x',rfl,b1,b2,b3,b4⟩ |⟨i',x',rfl,b1,b2,b3,b4⟩
    ·have he:=hI.kinj _ _ g a4 b4;have:=Z4 (fun p:Nat × Bool=>if p.2 then(match st.ρ[p.1]? with |some x=>if 2<=x.2 then some x.2 else none |none=>none)else none) hnd1 (U8 a1) (U8 b1) (v:=x.2) (by simp [a2,a3]) (by simp [b2,b3,he]);injection this with e1 _;rw [e1]
    ·have he:=hI.kinj _ _ g a4 b4;exact(hnd3 _ (slotTag t x g a1 a2 a3 a4) _ (boxTag i' x' b1 b2 b3) he).elim
    ·have he:=hI.kinj _ _ g a4 b4;exact(hnd3 _ (slotTag t' x' g b1 b2 b3 b4) _ (boxTag i x a1 a2 a3) he.symm).elim
    ·have he:=hI.kinj _ _ g a4 b4;have:=Z4 (fun i:Nat=>match kE st.bx[i]? with |some x=>if 2<=x.2 then some x.2 else none |none=>none) hnd2 a1 b1 (v:=x.2) (by simp [a2,a3]) (by simp [b2,b3,he]);rw [this]
   kbox:=by
    intro c g id b h1 h2;rcases cY h1 with⟨t,x,rfl,a1,a2,a3,a4⟩ |⟨i,x,rfl,a1,a2,a3,a4⟩
    ·exact hI.kbox _ g id b a4 (A5 h2).2
    ·exact hI.kbox _ g id b a4 (A5 h2).2
   klow:=by
    intro c g h1;rcases cY h1 with⟨t,x,rfl,a1,a2,a3,a4⟩ |⟨i,x,rfl,a1,a2,a3,a4⟩
    ·exact hI.klow _ g a4
    ·exact hI.klow _ g a4
   khigh:=by
    intro c g h1;rcases cY h1 with⟨t,x,rfl,a1,a2,a3,a4⟩ |⟨i,x,rfl,a1,a2,a3,a4⟩
    ·exact hI.khigh _ g a4
    ·exact hI.khigh _ g a4}
 ·rcases cY hg with⟨t,x,rfl,a1,a2,a3,a4⟩ |⟨i,x,rfl,a1,a2,a3,a4⟩
  ·exact .inr (.inl ⟨_,a4⟩)
  ·exact .inr (.inl ⟨_,a4⟩)
theorem dU {n:Nat}{al:List Nat}{bx:List (Option (List TV))}:∀{ids:List Nat} {i:Nat} {r:List (Option (List TV))},dG n al bx i ids=some r->r.length=ids.length
 |[],i,r,h=>by simp only[dG,Ah]at h;subst h;rfl
 |id::ids,i,r,h=>by
  simp only[dG]at h;split at h
  ·split at h
   ·rename_i r' hr;injection h with h;subst h;simp[dU hr]
   ·cases h
  ·cases h
theorem gP {n:Nat}{al:List Nat}{bx:List (Option (List TV))}:∀{ids:List Nat} {i:Nat} {r:List (Option (List TV))},dG n al bx i ids=some r->∀(j id:Nat),ids[j]? =some id->∃cs,bx[id]? =some (some cs)/\r[j]? =some (some (lZ n al (i+j) cs))
 |[],i,r,h,j,id,hj=>by simp at hj
 |a::ids,i,r,h,j,id,hj=>by
  simp only[dG]at h;split at h
  ·rename_i cs hcs;split at h
   ·rename_i r' hr;injection h with h;subst h
    cases j with
    |zero=>simp at hj;subst hj;exact⟨cs,hcs,by simp⟩
    |succ j =>
     obtain⟨cs',h1,h2⟩:=gP hr j id (by simpa using hj);exact⟨cs',h1,by simp only[Bz];rw[show i+(j+1)=i+1+j by omega];exact h2⟩
   ·cases h
  ·cases h
theorem A2z {n:Nat}{bx:List (Option (List TV))}{i:Nat}:(fL n bx)[n+i]? =bx[i]? :=by
 unfold fL;rw[Bj (by simp)];simp
theorem D3t {n:Nat}{bx:List (Option (List TV))}{i:Nat}(h:i<n):(fL n bx)[i]? =some none:=by
 unfold fL;rw[Bd (by simpa using h)];simp[h]
theorem uP {n:Nat}{bx:List (Option (List TV))}:(fL n bx).length=n+bx.length:=by simp[fL]
theorem A6t {n:Nat}{bx:List (Option (List TV))}{id:Nat}{cs:List TV}(h:(fL n bx)[id]? =some (some cs)):∃i,id=n+i/\bx[i]? =some (some cs):=by
 rcases Dx id n with hlt|hge
 ·rw[D3t hlt]at h;cases h
 ·obtain⟨i,rfl⟩:∃i,id=n+i:=⟨id-n,by omega⟩;rw[A2z]at h;exact⟨i,rfl,h⟩
def cS (n:Nat)(al:List Nat)(β:Nat->Option Nat)(id:Nat):Option Nat:=if n<=id then(al[id-n]?).bind β else none
theorem J0 {n:Nat}{al:List Nat}{β:Nat->Option Nat}{id b:Nat}(h:cS n al β id=some b):∃i id',id=n+i/\al[i]? =some id'/\β id'=some b:=by
 unfold cS at h;obtain⟨h1,h⟩:=A5 h;obtain⟨id',h2,h3⟩:=A6 h;exact⟨id-n,id',by omega,h2,h3⟩
theorem qJ {n:Nat}{al:List Nat}{β:Nat->Option Nat}{i id:Nat}(h:al[i]? =some id):cS n al β (n+i)=β id:=by
 unfold cS;rw[if_pos (by omega),show n+i-n=i by omega,h];rfl
theorem A29 {n:Nat}{al:List Nat}{β:Nat->Option Nat}:∀id j,A7h n al id=some j->∀b,β id=some b->cS n al β j=some b:=by
 intro id j h b hb;unfold A7h at h;split at h
 ·rename_i i hi;injection h with h;subst h;obtain⟨_,h2⟩:=sS hi;rw[qJ (by simpa using h2)];exact hb
 ·cases h
theorem pZ {M:C4}{β:Nat->Option Nat}{n:Nat}{al:List Nat}{x:PV}{v:Value}(h:C1 M β x v):C1 M (cS n al β) (A50 n al x) v:=by
 unfold A50;rcases hr:Q2 (A7h n al) true 4 x with _|z
 ·exact trivial
 ·exact V3 A29 4 x z v hr h
def sL (n:Nat)(al:List Nat)(bx:List (Option (List TV)))(κ:Nat->Option Nat)(tag:Nat):Option Nat :=
 if n+n+2<=tag then
  match al[tag-(n+n+2)]? with
  |some id=>match kE bx[id]? with
   |some x=>if 2<=x.2 then κ x.2 else none
   |none=>none
  |none=>none
 else none
theorem cK {n:Nat}{al:List Nat}{bx:List (Option (List TV))}{κ:Nat->Option Nat}{tag g:Nat}(h:sL n al bx κ tag=some g):∃i id x,tag=n+n+2+i/\al[i]? =some id/\kE bx[id]? =some x/\2<=x.2/\κ x.2=some g:=by
 unfold sL at h;obtain⟨h1,h⟩:=A5 h;split at h
 ·rename_i id hid;split at h
  ·rename_i x hx;obtain⟨h2,h⟩:=A5 h;exact⟨tag-(n+n+2),id,x,by omega,hid,hx,h2,h⟩
  ·cases h
 ·cases h
theorem D2w {n:Nat}{al:List Nat}{bx:List (Option (List TV))}{κ:Nat->Option Nat}{i id:Nat}{x:TV}(h1:al[i]? =some id)(h2:kE bx[id]? =some x)(h3:2<=x.2):sL n al bx κ (n+n+2+i)=κ x.2:=by
 unfold sL;rw[if_pos (by omega),show n+n+2+i-(n+n+2)=i by omega,h1];simp only[h2];rw[if_pos h3]
theorem A2e {R:Type}{al:List Nat}{st:St}{k:List (Option (List TV))->Option R}{r:R}(h:B1r al st k=some r):∃bx,al.Nodup/\(lD al st).Nodup/\dG st.ρ.length al st.bx 0 al=some bx/\k bx=some r:=by
 unfold B1r at h;obtain⟨h1,h⟩:=A5 h;simp only[Ae]at h1;split at h
 ·rename_i bx hbx;exact⟨bx,bT (α:=Nat) h1.1,bT (α:=Nat) h1.2,hbx,h⟩
 ·cases h
theorem I0.pin {X:Cx}{st:St}{a:Act}{M:C4}{β κ:Nat->Option Nat}(hI:I0 NG X st a M β κ){al:List Nat}(hal:al.Nodup)(hnd:(lD al st).Nodup){bx:List (Option (List TV))}(hbx:dG st.ρ.length al st.bx 0 al=some bx)(hal0:∀j,j<X.np->al[j]? =some (st.ρ.length+j)) :
  I0 NG X ⟨mR st.ρ.length al st.ρ,fL st.ρ.length bx,st.out⟩ a M (cS st.ρ.length al β) (sL st.ρ.length al st.bx κ):=by
 have hlen:=dU hbx;refine⟨?_,?_⟩
 ·exact
  {mv :=hI.mv
   ng:=hI.ng
   fpng:=hI.fpng
   len:=by simp only[mR,By];exact hI.len
   slot :=by
    intro t x hx;simp only[mR,Az]at hx;rcases ht:st.ρ[t]? with _|y
    ·rw[ht]at hx;simp at hx
    ·rw[ht]at hx;simp only[Aq,Ah]at hx;subst hx;obtain⟨v,h1,h2,h3⟩:=hI.slot t y ht;refine⟨v,h1,pZ h2,?_⟩;simp only
     by_cases e:y.2=1
     ·rw[if_pos e];rcases h3 with h3|⟨nl,sz,n,cells,he,h3⟩
      ·omega
      ·refine .inr ⟨nl,sz,n,cells,by rw[he];rfl,?_⟩;rcases h3 with h3|⟨hc,_⟩
       ·exact .inl h3
       ·omega
     ·rw[if_neg e];exact .inl rfl
   box :=by
    intro id b hb;obtain⟨i,id',rfl,h1,h2⟩:=J0 hb;obtain⟨cs0,arr,e,k1,k2,k3,k4,k5⟩:=hI.box id' b h2;obtain⟨cs,q1,q2⟩:=gP hbx i id' h1;rw[k1]at q1;injection q1 with q1;injection q1 with q1;subst q1;rw[Bm]at q2;refine⟨_,arr,e,by simp only[A2z];exact q2,k2,?_,k4,k5⟩;rcases k3 with k3|⟨xs,hxs,k3⟩
    rotate_left
    ·exact .inr ⟨xs,by rw[hxs];simp[lZ,A50,Q2,PV.nilSl],k3⟩
    refine .inl ?_
    have gen:J6 M (cS st.ρ.length al β) (sL st.ρ.length al st.bx κ) (cs0.map fun x=>(A50 st.ρ.length al x.1,0)) arr:=by
     refine⟨by simp[k3.1],fun j x hx=>?_⟩;rw[Az]at hx;rcases hj:cs0[j]? with _|y
     ·rw[hj]at hx;simp at hx
     ·rw[hj]at hx;simp only[Aq,Ah]at hx;subst hx;obtain⟨u,p1,p2,p3,_⟩:=k3.2 j y hj;exact⟨u,p1,p2,pZ p3,.inl rfl⟩
    rcases cs0 with _|⟨x,r⟩
    ·exact gen
    refine⟨by simp only[lZ,Ac,By];exact k3.1,fun j y hy=>?_⟩
    cases j with
    |succ j=>exact gen.2 (j+1) y (by simpa [lZ]using hy)
    |zero =>
     simp[lZ]at hy;subst hy;obtain⟨u,p1,p2,p3,p4⟩:=k3.2 0 x rfl;refine⟨u,p1,p2,pZ p3,?_⟩;show N1 M _ (A50 st.ρ.length al x.1) (if x.2=0 then(if x.1.nilSl=true then st.ρ.length+st.ρ.length+2+i else 0)else st.ρ.length+st.ρ.length+2+i) u
     by_cases h0:x.2=0
     ·rw[if_pos h0]
      by_cases hnil:x.1.nilSl=true
      ·rw[if_pos hnil];obtain⟨y,t⟩:=x
       obtain⟨sz,n,cells,rfl⟩:∃sz n cells,y=.sl (some true) sz n cells:=by
        cases y with
        |sl nl sz n cells =>
         cases nl with
         |none=>simp[PV.nilSl]at hnil
         |some b =>
          cases b with
          |true=>exact⟨sz,n,cells,rfl⟩
          |false=>simp[PV.nilSl]at hnil
        |_=>simp[PV.nilSl]at hnil
       refine .inr ⟨some true,sz,n,cells,rfl,.inl ?_⟩;have k3':B7 M (.sl (some true) sz n cells) u:=p3.data rfl;simp only[B7]at k3';obtain⟨A,c,vs,rfl,q1,q2,q3,q4,_⟩:=k3';have hA:=q3 true rfl
       obtain rfl:A=none:=by cases A<;>simp_all
       obtain rfl:=q4 rfl
       obtain rfl:n=0:=by omega
       exact⟨none,0,rfl⟩
      ·rw[if_neg hnil];exact .inl rfl
     ·rw[if_neg h0];exact A3a p4 (fun nl sz n cells he=>by rw[he];rfl) h0 (fun h2=>D2w h1 (by rw[k1];rfl) h2) (by omega)
   alive:=by
    intro id cs hc;obtain⟨i,rfl,hi⟩:=A6t hc
    have hlt:i<al.length:=by rw[<-hlen];exact(Aj.1 hi).1
    obtain⟨cs',q1,_⟩:=gP hbx i al[i] (Ag hlt);obtain⟨b,hb⟩:=hI.alive _ _ q1;exact⟨b,by rw[qJ (Ag hlt)];exact hb⟩
   binj:=by
    intro id id' b h1 h2;obtain⟨i,x,rfl,a1,a2⟩:=J0 h1;obtain⟨j,y,rfl,b1,b2⟩:=J0 h2;have:=hI.binj _ _ b a2 b2;subst this;rw[bL hal a1 b1]
   kinj:=by
    intro c c' g h1 h2;obtain⟨i,id,x,rfl,a1,a2,a3,a4⟩:=cK h1;obtain⟨j,id',y,rfl,b1,b2,b3,b4⟩:=cK h2;have he:=hI.kinj _ _ g a4 b4;have:=Z4 (fun i:Nat=>match kE st.bx[i]? with|some x=>if 2<=x.2 then some x.2 else none|none=>none) hnd (Bi a1) (Bi b1) (v:=x.2) (by simp[a2,a3]) (by simp[b2,b3,he]);subst this;rw[bL hal a1 b1]
   kbox:=by
    intro c g id b h1 h2;obtain⟨i,id0,x,rfl,a1,a2,a3,a4⟩:=cK h1;obtain⟨j,y,rfl,b1,b2⟩:=J0 h2;exact hI.kbox _ g _ b a4 b2
   klow:=by
    intro c g h1;obtain⟨i,id0,x,rfl,a1,a2,a3,a4⟩:=cK h1;exact hI.klow _ g a4
   khigh:=by
    intro c g h1;obtain⟨i,id0,x,rfl,a1,a2,a3,a4⟩:=cK h1
    exact hI.khigh _ g a4}
 ·obtain⟨f,f0,h1,h01,hmk,h2,h3,h4⟩:=hI.out.ex;refine⟨fun id b hb=>?_,fun h0=>?_,f,f0,h1,h01,hmk,h2,fun id b hb=>?_,fun c g hg=>?_⟩
  ·obtain⟨i,id',rfl,a1,a2⟩:=J0 hb;simp only[mR,By];rcases hI.out.lent id' b a2 with⟨j,e1,e2,e3⟩|⟨e1,e2⟩
   ·have:=bL hal a1 (by rw[e2];exact hal0 j e1);subst this;exact .inl ⟨i,e1,rfl,e3⟩
   ·refine .inr ⟨e1,fun j hj e=>?_⟩
    have:i=j:=by omega
    subst this;have:=hal0 i hj;rw[a1]at this;injection this with this;exact e2 i hj this
  ·simp only[mR,By,uP,hlen];have:=(Aj.1 (hal0 (X.np-1) (by omega))).1;omega
  ·obtain⟨i,id',rfl,a1,a2⟩:=J0 hb;exact h3 id' b a2
  ·obtain⟨i,id0,x,rfl,a1,a2,a3,a4⟩:=cK hg;exact h4 _ g a4
theorem C2v {M:C4}{κ:Nat->Option Nat}{n:Nat}{al:List Nat}{x:PV}{c:Nat}{v:Value}(h:N1 M κ x c v):N1 M κ (A50 n al x) c v:=by
 rcases h with h|⟨nl,sz,m,cells,rfl,h⟩
 ·exact .inl h
 ·exact .inr ⟨nl,sz,m,cells,rfl,h⟩
theorem C51 {al:List Nat}{st st':St}(h:C2c al st=some st'):∃bx,F7 (C1v st.ρ.length al st.bx) al=some bx/\st'=⟨st.ρ.map (C31 st.ρ.length al),fL st.ρ.length bx,st.out⟩:=by
 unfold C2c at h;split at h
 ·rename_i bx hbx;injection h with h;exact⟨bx,hbx,h.symm⟩
 ·cases h
theorem A7f {n:Nat}{al:List Nat}{bx:List (Option (List TV))}{id:Nat}{y:Option (List TV)}(h:C1v n al bx id=some y):∃cs,bx[id]? =some (some cs)/\y=some (cs.map (C31 n al)):=by
 unfold C1v at h;split at h
 ·rename_i cs hcs;injection h with h;exact⟨cs,hcs,h.symm⟩
 ·cases h
theorem I0.ren {X:Cx}{st st':St}{a:Act}{M:C4}{β κ:Nat->Option Nat}(hI:I0 NG X st a M β κ)(hnp:X.np=0){al:List Nat}(hal:al.Nodup)(h:C2c al st=some st') :
  I0 NG X st' a M (cS st.ρ.length al β) κ:=by
 obtain⟨bx,hbx,rfl⟩:=C51 h;have hlen:=E6 hbx;refine⟨?_,?_⟩
 ·exact
  {mv :=hI.mv
   ng:=hI.ng
   fpng:=hI.fpng
   len:=by simp only[By];exact hI.len
   slot:=by
    intro t x hx;simp only[Az]at hx;rcases ht:st.ρ[t]? with _|y
    ·rw[ht]at hx;simp at hx
    ·rw[ht]at hx;simp only[Aq,Ah]at hx;subst hx;obtain⟨v,h1,h2,h3⟩:=hI.slot t y ht;exact⟨v,h1,pZ h2,C2v h3⟩
   box :=by
    intro id b hb;obtain⟨i,id',rfl,h1,h2⟩:=J0 hb;obtain⟨cs0,arr,e,k1,k2,k3,k4,k5⟩:=hI.box id' b h2;obtain⟨y,q1,q2⟩:=J8 hbx i id' h1;obtain⟨cs,q3,rfl⟩:=A7f q2;rw[k1]at q3;injection q3 with q3;injection q3 with q3;subst q3;refine⟨_,arr,e,by simp only[A2z];exact q1,k2,?_,k4,k5⟩;rcases k3 with k3|⟨xs,hxs,k3⟩
    ·refine .inl ⟨by rw[By];exact k3.1,fun j x hx=>?_⟩;rw[Az]at hx;rcases hj:cs0[j]? with _|y
     ·rw[hj]at hx;simp at hx
     ·rw[hj]at hx;simp only[Aq,Ah]at hx;subst hx;obtain⟨u,p1,p2,p3,p4⟩:=k3.2 j y hj;exact⟨u,p1,p2,pZ p3,C2v p4⟩
    ·exact .inr ⟨xs,by rw[hxs];rfl,k3⟩
   alive:=by
    intro id cs hc;obtain⟨i,rfl,hi⟩:=A6t hc;obtain⟨id',q1,q2⟩:=fG hbx i _ hi;obtain⟨cs',q3,_⟩:=A7f q2;obtain⟨b,hb⟩:=hI.alive _ _ q3;exact⟨b,by rw[qJ q1];exact hb⟩
   binj:=by
    intro id id' b h1 h2;obtain⟨i,x,rfl,a1,a2⟩:=J0 h1;obtain⟨j,y,rfl,b1,b2⟩:=J0 h2;have:=hI.binj _ _ b a2 b2;subst this;rw[bL hal a1 b1]
   kinj:=hI.kinj
   kbox:=by
    intro c g id b h1 h2;obtain⟨j,y,rfl,b1,b2⟩:=J0 h2;exact hI.kbox _ g _ b h1 b2
   klow:=hI.klow
   khigh:=hI.khigh}
 ·obtain⟨f,f0,h1,h01,hmk,h2,h3,h4⟩:=hI.out.ex;refine⟨fun id b hb=>?_,fun h0=>by omega,f,f0,h1,h01,hmk,h2,fun id b hb=>?_,h4⟩
  ·obtain⟨i,id',rfl,a1,a2⟩:=J0 hb;rcases hI.out.lent id' b a2 with⟨j,e1,_,_⟩|⟨e1,_⟩
   ·omega
   ·exact .inr ⟨e1,fun j hj=>by omega⟩
  ·obtain⟨i,id',rfl,a1,a2⟩:=J0 hb;exact h3 id' b a2
theorem I0.pinK {X:Cx}{st st':St}{a:Act}{M:C4}{β κ:Nat->Option Nat}(hI:I0 NG X st a M β κ)(hnp:X.np=0){kp:zX}(h:D5n kp st=some st'):∃β' κ',I0 NG X st' a M β' κ':=by
 unfold D5n at h;split at h
 ·rename_i al _;obtain⟨hal,h⟩:=A5 h;split at h
  ·rename_i st1 h1;have hI1:=hI.ren hnp (bT (α:=Nat) hal) h1;obtain⟨E4,h⟩:=A5 h;injection h with h;subst h;exact⟨_,_,hI1.norm E4⟩
  ·cases h
 ·cases h
end
end Go.Proofs.YtkpfigikffphdaaGreatDoor
namespace Go.Proofs.YtkpfigikffphdaaGreatDoor
open Go.RowKit
section
variable {R S:Type} {en:K6}
theorem B74 {l:List Bool}{x:Option R}{k:R->Option S}:gC l (x.bind k)=(gC l x).bind k:=by
 cases l with
 |nil=>rfl
 |cons a l=>simp only[gC];cases nS (a::l)<;>rfl
theorem B5x {g:Bool}{l:List Bool}{x:Option R}{k:R->Option S}:rD g l (x.bind k)=(rD g l x).bind k:=by
 cases l with
 |nil=>rfl
 |cons a l=>simp only[rD];cases g<;>cases nS (a::l)<;>rfl
theorem A0p {b:Bool}{x y:Option R}{x' y':Option S}{k:R->Option S}(hx:x'=x.bind k)(hy:y'=y.bind k):(bif b then x' else y')=(bif b then x else y).bind k:=by cases b<;>assumption
theorem cR (hE:en.nat){ops:Array Oper}{k:R->Option S}:∀(rest:List Oper) (acc:List C7) (st:St) (os:OS) (ls:LS) (kn:OS) (k0:St->List C7->Option R),W9 en ops rest acc st os ls kn (fun st acts=>(k0 st acts).bind k)=(W9 en ops rest acc st os ls kn k0).bind k
 |[],acc,st,os,ls,kn,k0=>rfl
 |o::rest,acc,st,os,ls,kn,k0=>by
  have run:∀(os:OS) (ls:LS) (st:St) (L:List (Nat×Bool)) (kn:OS),(gC (iI en st os ls L o) (A9 en st o fun act =>
    if yZ os act then aD en o act st fun st'=>W9 en ops rest (act::acc) st' (gL o.dst os) (if S1 act then iP o.dst ls else []) kn (fun st acts=>(k0 st acts).bind k)
    else none))=(gC (iI en st os ls L o) (A9 en st o fun act =>
    if yZ os act then aD en o act st fun st'=>W9 en ops rest (act::acc) st' (gL o.dst os) (if S1 act then iP o.dst ls else []) kn k0
    else none)).bind k:=by
   intro os ls st L kn;rw[X8 en hE,X8 en hE (R:=R),<-B74,C3];congr 2;funext act;split
   ·rw[<-B5f];congr 1;funext st';exact cR hE rest _ _ _ _ _ k0
   ·rfl
  have sk:∀(st:St) (kn:OS),W9 en ops rest (.skip::acc) (O4 o.dst (.tuple [],0) st) (gL o.dst os) (iP o.dst ls) kn (fun st acts=>(k0 st acts).bind k)=(W9 en ops rest (.skip::acc) (O4 o.dst (.tuple [],0) st) (gL o.dst os) (iP o.dst ls) kn k0).bind k:=fun st kn=>cR hE rest _ _ _ _ _ k0;simp only[W9];split
  ·exact run _ _ st _ kn
  ·split
   ·exact sk st kn
   ·split
    ·split
     ·exact sk st kn
     ·rfl
    ·split
     ·refine A0p ?_ rfl;split
      ·exact run _ _ st _ kn
      ·exact sk st kn
     ·split
      ·exact A0p rfl (cR hE rest _ _ _ _ _ k0)
      ·rfl
     ·split
      ·rw[X8 en hE,X8 en hE (R:=R),<-B5x,C3];congr 2;funext act;split
       ·split
        ·exact cR hE rest _ _ _ _ _ k0
        ·rfl
       ·rfl
      ·split
       ·exact A0p (run _ _ _ _ _) (cR hE rest _ _ _ _ _ k0)
       ·exact A0p (run _ _ _ _ _) (sk _ _)
    ·rfl
theorem zM (hE:en.nat){ops:Array Oper}{draw:Bool}{st:St}{k0:St->Option R}{k:R->Option S}:dQ en ops draw st (fun st=>(k0 st).bind k)=(dQ en ops draw st k0).bind k:=by
 unfold dQ;split
 ·split
  ·rw[<-cR hE];congr 1;funext st' acts;split<;>rfl
  ·rw[<-cR hE]
 ·rfl
theorem gV {kp:Option zX}{st:St}{k0:St->Option R}{k:R->Option S}:C2 kp st (fun st=>(k0 st).bind k)=(C2 kp st k0).bind k:=by
 unfold C2;split
 ·rfl
 ·split
  ·rfl
  ·split
   ·split<;>rfl
   ·split<;>rfl
theorem sV {k:R->Option S}:∀(kx:List (Nat×(St->Option R))) (id:Nat),(kx.map fun p=>(p.1,fun st=>(p.2 st).bind k)).lookup id=(kx.lookup id).map fun g st=>(g st).bind k
 |[],_=>rfl
 |(a,g)::kx,id=>by
  simp only[Cb,Ct];split
  ·rfl
  ·exact sV kx id
theorem A4j {al:List Nat}{st:St}{k0:List (Option (List TV))->Option R}{k:R->Option S}:B1r al st (fun bx=>(k0 bx).bind k)=(B1r al st k0).bind k:=by
 unfold B1r;split
 ·split<;>rfl
 ·rfl
def B7w (run:{S:Type}->St->(Option kH->St->Option S)->Option S):Prop:=∀(S:Type) (st:St) (k:Option kH->St->Option S),run st k=(run (S:=Option kH×St) st fun j st=>some (j,st)).bind fun p=>k p.1 p.2
theorem B9r {ids:List Nat}{np:Array Tmp}{ρ:List TV}{run:{S:Type}->St->(Option kH->St->Option S)->Option S}(hrun:B7w run):(tP ids np ρ run).nat:=by
 intro R bs o xs k;simp only[tP];split
 ·split
  ·split
   ·refine(hrun R _ _).trans ?_;refine Eq.trans ?_ (congrArg (fun z=>Option.bind z _) (hrun (List (List PV)×kC×Bool) _ _)).symm;rw[Ad];congr 1;funext p;split
    ·rw[<-A4j];congr 1;funext bx';split
     ·rcases p.1 with _|j<;>rfl
     ·rfl
    ·rfl
   ·rfl
  ·rfl
 ·rfl
theorem B70 (hE:en.nat){st:St}{f:Operand}{np:Array Tmp}{run:{S:Type}->St->(Option kH->St->Option S)->Option S}{kj:Option kH->St->Option R}{k:R->Option S} :
  xF en st f np run (fun j st=>(kj j st).bind k)=(xF en st f np run kj).bind k:=by
 unfold xF;split
 ·split
  ·rename_i fid _ _ _ p hp
   have hp:en.I fid=some p:=by
    split at hp
    ·exact hp
    ·cases hp
   rw[<-A4j];congr 1;funext bx;split
   ·split
    ·split
     ·split
      ·rw[(hE.i _ _ hp) S,(hE.i _ _ hp) R,Ad];congr 1;funext q;split
       ·split
        ·split<;>rfl
        ·rfl
       ·rfl
      ·rfl
     ·rfl
    ·rfl
   ·rfl
  ·rfl
 ·rfl
theorem T5 (hE:en.nat){h:B4}{fuel:Nat}:∀(c:Code) {R S:Type} {k:R->Option S} (kr:St->Option R) (cur:Nat) (st:St) (kn:St->Option R) (kx:List (Nat×(St->Option R))),
  H0 en h fuel c (fun st=>(kr st).bind k) cur st (fun st=>(kn st).bind k) (kx.map fun p=>(p.1,fun st=>(p.2 st).bind k))=(H0 en h fuel c kr cur st kn kx).bind k
 |.skip,_,_,k,kr,cur,st,kn,kx=>rfl
 |.label l,_,_,k,kr,cur,st,kn,kx=>rfl
 |.ret,_,_,k,kr,cur,st,kn,kx=>by
  simp only[H0];rw[<-A1v];congr 1;funext st';exact gV
 |.exit id,_,_,k,kr,cur,st,kn,kx=>by
  simp only[H0,sV];rcases kx.lookup id with _|g<;>rfl
 |.region id ops draw,_,_,k,kr,cur,st,kn,kx=>by
  simp only[H0];rw[<-A1v];congr 1;funext st';exact zM hE
 |.seq a b,_,_,k,kr,cur,st,kn,kx=>by
  simp only[H0];rw[<-T5 hE a];congr 1;funext st';exact T5 hE b kr cur st' kn kx
 |.cond c a b,_,_,k,kr,cur,st,kn,kx=>by
  simp only[H0];split
  ·rename_i t _
   cases t
   ·exact T5 hE b kr cur st kn kx
   ·exact T5 hE a kr cur st kn kx
  ·rfl
 |.block id a,_,_,k,kr,cur,st,kn,kx=>by
  simp only[H0];rw[<-T5 hE a];congr 1
  ·funext st';exact gV
  ·simp only[Cb];congr 2;funext st';exact gV
 |.loop a,R,S,k,kr,cur,st,kn,kx=>by
  simp only[H0];rw[<-gV];congr 1;funext st'
  have key:∀n st,iT (h.loop.lookup cur) (fun st kn'=>H0 en h fuel a (fun st=>(kr st).bind k) cur st kn' (kx.map fun p=>(p.1,fun st=>(p.2 st).bind k))) n st=(iT (h.loop.lookup cur) (fun st kn'=>H0 en h fuel a kr cur st kn' kx) n st).bind k:=by
   intro n
   induction n with
   |zero=>intro st;rfl
   |succ n ih =>
    intro st;simp only[iT];rw[<-T5 hE a];congr 1;funext st';rw[<-gV];congr 1;funext st'';exact ih st''
  exact key fuel st'
 |.rangeFunc f np assign body,R,S,k,kr,cur,st,kn,kx=>by
  simp only[H0];split
  ·rfl
  rw[<-B70 hE];congr 1
  ·funext T st k';simp only[List.map_map,Function.comp_def]
  ·funext j st;rcases j with _|(_|id)
   ·rfl
   ·rfl
   ·simp only[sV];rcases kx.lookup id with _|g<;>rfl
 |.scope _,_,_,_,_,_,_,_,_=>rfl
 |.goto _,_,_,_,_,_,_,_,_=>rfl
 |.refuse _,_,_,_,_,_,_,_,_=>rfl
theorem C7o (hE:en.nat){h:B4}{fuel:Nat}{assign body:Code}{ids:List Nat}:B7w fun {S} st k=>H0 en h fuel assign (fun _=>none) 0 st (fun st=>H0 en h fuel body (fun st=>k (some .ret) st) 0 st (fun st=>k none st) (ids.map fun id=>(id,fun st=>k (some (.exit id)) st))) []:=by
 intro S st k;refine Eq.trans ?_ (T5 hE assign _ _ _ _ []);show H0 en h fuel assign (fun _=>none) 0 st _ []=H0 en h fuel assign (fun _=>none) 0 st _ [];congr 1;funext st';refine Eq.trans ?_ (T5 hE body _ _ _ _ _);simp only[List.map_map,Function.comp_def];rfl
end
end Go.Proofs.YtkpfigikffphdaaGreatDoor
namespace Go.Proofs.YtkpfigikffphdaaGreatDoor
open Go.RowKit
theorem T6.chy {M M2:C4}(hw:M2.w=M.w)(hU:M2.U=M.U){b o:Nat}{vs:List Value}(h:T6 M b o vs):T6 M2 b o vs:=by
 intro j u hu;rw[hw,hU];exact h j u hu
mutual
theorem B7.chy {M M2:C4}(hw:M2.w=M.w)(hU:M2.U=M.U):∀(x:PV) (v:Value),B7 M x v->B7 M2 x v
 |.undef,_,_=>trivial
 |.bool _,_,h=>h
 |.int _ _,_,h=>h
 |.str _,_,h=>h
 |.sl nl sz n cells,v,h=>by
  simp only[B7]at h ⊢;obtain⟨A,c,vs,h1,h2,h3,h4,h5,h6,h7,h8⟩:=h;exact⟨A,c,vs,h1,h2,h3,h4,h5,h6,D7.chy hw hU cells vs h7,h8.imp id fun⟨b,o,e,k⟩=>⟨b,o,e,k.chy hw hU⟩⟩
 |.agg cells,v,h=>by
  simp only[B7]at h ⊢;obtain⟨vs,h1,h2⟩:=h;exact⟨vs,h1,D7.chy hw hU cells vs h2⟩
 |.tuple cells,v,h=>by
  simp only[B7]at h ⊢;obtain⟨vs,h1,h2⟩:=h;exact⟨vs,h1,K9.chy hw hU cells vs h2⟩
 |.nilptr,_,h=>h
 |.nptr,_,h=>h
 |.nilIface,_,h=>h
 |.iface t x,v,h=>by
  simp only[B7]at h ⊢;obtain⟨u,h1,h2⟩:=h;exact⟨u,h1,B7.chy hw hU x u h2⟩
 |.nilFunc,_,h=>h
 |.ptr _ _,_,h=>h.elim
 |.eptr cells,v,h=>by
  simp only[B7]at h ⊢;obtain⟨b,o,vs,h1,h2,h3⟩:=h;exact⟨b,o,vs,h1,D7.chy hw hU cells vs h2,h3.chy hw hU⟩
 |.clo _ _,_,h=>h
 |.agp _,_,h=>h.elim
 |.tupp _,_,h=>h.elim
 |.yld,_,h=>h.elim
 |.optr _ _ _,_,h=>h.elim
 |.bsl _ _ _ _,_,h=>h.elim
theorem D7.chy {M M2:C4}(hw:M2.w=M.w)(hU:M2.U=M.U):∀(xs:List PV) (vs:List Value),D7 M xs vs->D7 M2 xs vs
 |[],_,h=>h
 |x::xs,vs,h=>by
  simp only[D7]at h ⊢;obtain⟨u,us,h1,h2,h3,h4⟩:=h;exact⟨u,us,h1,h2,B7.chy hw hU x u h3,D7.chy hw hU xs us h4⟩
theorem K9.chy {M M2:C4}(hw:M2.w=M.w)(hU:M2.U=M.U):∀(xs:List PV) (vs:List Value),K9 M xs vs->K9 M2 xs vs
 |[],_,h=>h
 |x::xs,vs,h=>by
  simp only[K9]at h ⊢;obtain⟨u,us,h1,h3,h4⟩:=h;exact⟨u,us,h1,B7.chy hw hU x u h3,K9.chy hw hU xs us h4⟩
end
theorem gO.chy {en:K6}{M M2:C4}(hw:M2.w=M.w)(hU:M2.U=M.U)(h:gO en M):gO en M2:=fun g cs hg=>let⟨vs,h1,h2⟩:=h g cs hg;⟨vs,D7.chy hw hU _ _ h1,h2.chy hw hU⟩
theorem aW {M M2:C4}{β β':Nat->Option Nat}{f:PV->Option PV}:∀{xs ys:List PV} {vs:List Value},(∀x y v,f x=some y->C1 M β x v->C1 M2 β' y v)->F7 f xs=some ys->B9 M β xs vs->B9 M2 β' ys vs
 |[],ys,vs,_,h,hr=>by
  simp only[F7,Ah]at h;subst h;simp only[B9]at hr ⊢;exact hr
 |x::xs,ys,vs,hf,h,hr=>by
  simp only[F7]at h;split at h
  ·rename_i y hy;split at h
   ·rename_i zs hz;injection h with h;subst h;simp only[B9]at hr ⊢;obtain⟨u,us,rfl,h1,h2⟩:=hr;exact⟨u,us,rfl,hf x y u hy h1,aW hf hz h2⟩
   ·cases h
  ·cases h
theorem vH {M M2:C4}(hw:M2.w=M.w)(hU:M2.U=M.U){β β':Nat->Option Nat}{σ:Nat->Option Nat}(hσ:∀id j,σ id=some j->∀b,β id=some b->β' j=some b):∀(n:Nat) (x y:PV) (v:Value),Q2 σ false n x=some y->C1 M β x v->C1 M2 β' y v
 |0,x,y,v,h,hr=>by
  simp only[Q2]at h;obtain⟨hd,h⟩:=A5 h;injection h with h;subst h;exact C1.of_data (B7.chy hw hU _ _ (hr.data hd))
 |n+1,x,y,v,h,hr=>by
  have ih:=vH hw hU (M:=M) (β:=β) (β':=β') hσ n
  cases x<;>simp only[Q2]at h
  case ptr id off =>
   split at h
   ·rename_i j hj;injection h with h;subst h;simp only[C1]at hr ⊢;obtain⟨b,h1,h2⟩:=hr;exact⟨b,hσ id j hj b h1,h2⟩
   ·cases h
  case bsl id off sz m =>
   split at h
   ·rename_i j hj;injection h with h;subst h;simp only[C1]at hr ⊢;obtain⟨b,c,h1,h2,h3,h4,h5⟩:=hr;exact⟨b,c,hσ id j hj b h1,h2,h3,h4,by rw[hw];exact h5⟩
   ·cases h
  case clo f caps =>
   split at h
   ·rename_i cs hc;injection h with h;subst h;simp only[C1]at hr ⊢;obtain⟨vs,h1,h2⟩:=hr;exact⟨vs,h1,aW ih hc h2⟩
   ·cases h
  case agp cells =>
   split at h
   ·rename_i cs hc;injection h with h;subst h;simp only[C1]at hr ⊢;obtain⟨vs,h1,h0,h2⟩:=hr;exact⟨vs,h1,h0,aW ih hc h2⟩
   ·cases h
  case tupp cells =>
   split at h
   ·rename_i cs hc;injection h with h;subst h;simp only[C1]at hr ⊢;obtain⟨vs,h1,h2⟩:=hr;exact⟨vs,h1,aW ih hc h2⟩
   ·cases h
  case yld=>obtain⟨h,_⟩:=A5 h;cases h
  case optr d i off=>obtain⟨h,_⟩:=A5 h;cases h
  all_goals
   injection h with h;subst h;exact C1.of_data (B7.chy hw hU _ _ (hr.data rfl))
section
variable {NG:Nat} {X:Cx} {st:St} {a:Act} {M:C4} {β κ:Nat->Option Nat}
theorem D6k {M M2:C4}(hw:M2.w=M.w)(hU:M2.U=M.U){β β':Nat->Option Nat}{σ:Nat->Option Nat}{xs ys:List PV}{arr:List Value}(hσ:∀id j,σ id=some j->∀b,β id=some b->β' j=some b)(h:BsK M β xs arr)(hm:F7 (Q2 σ false 4) xs=some ys):BsK M2 β' ys arr :=
 h.map hm (fun vs h=>aW (vH hw hU hσ 4) hm h) (fun zs e=>by subst e;exact B3y hm) (fun zs h=>D7.chy hw hU _ _ h)
theorem A4f (h:InvB NG X st a M β κ){ids:List Nat}(hd:ids.Nodup){bs:List (List PV)}(h0:dO st.bx ids=some bs){M2:C4}(hw:M2.w=M.w)(hU:M2.U=M.U):kJ M2 (G0 β ids) NG bs where
 box:=by
  intro j cs hj;obtain⟨bs0,h0,h1⟩:=fJ h0;obtain⟨cs0,hj0,hc⟩:=fG h1 j cs hj;obtain⟨id,hid,hc0⟩:=fG h0 j cs0 hj0;obtain⟨ts,ht,rfl⟩:=bF hc0;obtain⟨b,hb⟩:=h.alive id ts ht;obtain⟨ts',arr,e,k1,k2,k3,k4,k5⟩:=h.box id b hb;rw[ht]at k1;injection k1 with k1;injection k1 with k1;subst k1;exact⟨b,arr,e,by simp[G0,hid,hb],by rw[hw];exact k2,by rw[hU];exact k4,h.lowng k5,D6k hw hU fH k3.bs hc⟩
 lt:=by
  intro j b hb;obtain⟨id,hid,_⟩:=D2 hb;rw[eC h0];exact(Aj.1 hid).1
 inj:=by
  intro i j b hi hj;obtain⟨id,h2,h3⟩:=D2 hi;obtain⟨id',h4,h5⟩:=D2 hj;have:=h.binj id id' b h3 h5;subst this;exact bL hd h2 h4
end
def B0l:kH->Code
 |.ret=>.ret
 |.exit id=>.exit id
def aY (fn:FuncId)(tmps:Array Value)(np:Array Tmp)(assign body:Code)(D:Nat)(fin:Option kH):Loop :=
 {state:=match fin with|none=>.ready|some _=>.done,pending:=fin.map B0l,fn,tmps,params:=np,assign,body,defers:=D}
def B8l (ids:List Nat)(β κ:Nat->Option Nat)(f3:Nat->Prop)(l:Nat)(b:Nat):Prop:=(∃id,id ∉ ids/\β id=some b)\/(∃c,κ c=some b)\/f3 b\/b=l
structure LW (NG:Nat)(X:Cx)(ids:List Nat)(n:Nat)(ds:List Deferred)(β:Nat->Option Nat)(bx:List (Option (List TV)))(o:kC)(l:Nat)(rec:Loop)(M:C4)(κ:Nat->Option Nat)(f3 f0:Nat->Prop):Prop where
 isbox:∀id b,β id=some b->∃cs,(fL n bx)[id]? =some (some cs)
 box:∀id b,β id=some b->id ∉ ids->∃cs arr e,(fL n bx)[id]? =some (some cs)/\eT M.w b e arr/\Y8 M β κ cs arr/\M.U b=0
 alive:∀id cs,(fL n bx)[id]? =some (some cs)->∃b,β id=some b
 kinj:∀c c' g,κ c=some g->κ c'=some g->c=c'
 kbox:∀c g id b,κ c=some g->β id=some b->g≠b
 klow:∀c g,κ c=some g->X.low g
 khigh:∀c g,κ c=some g->g<M.w.heap.size
 J:X.J o M f0
 f01:∀b,f0 b->f3 b
 marks:C33 X ds M f3 f0
 flow:∀b,f3 b->b<M.w.heap.size/\X.low b
 fβ:∀id b,β id=some b->¬f3 b
 fκ:∀c g,κ c=some g->¬f3 g
 lrec:M.w.heap[l]? =some (.loop rec)
 lβ:∀id,β id≠some l
 lκ:∀c,κ c≠some l
 lf:¬f3 l
 llow:X.low l
theorem J6.stay {M M':C4}{β κ:Nat->Option Nat}(hle:M.le M')(hs:∀c g,κ c=some g->M'.w.heap[g]? =M.w.heap[g]?/\M'.U g=M.U g){cs:List TV}{arr:List Value}(h:J6 M β κ cs arr):J6 M' β κ cs arr:=by
 refine⟨h.1,fun j x hx=>?_⟩;obtain⟨u,h1,h2,h3,h4⟩:=h.2 j x hx;refine⟨u,h1,h2,h3.mono hle (fun _ _ h=>h),?_⟩;rcases h4 with h4|⟨nl,sz,n,cells,he,h4⟩
 ·exact .inl h4
 ·refine .inr ⟨nl,sz,n,cells,he,?_⟩;rcases h4 with h4|⟨hc,g,hk,ho⟩
  ·exact .inl h4
  ·obtain⟨n',cap,cur,e,q1,q2,q3,q4,q5,q6⟩:=ho.ex;exact .inr ⟨hc,g,hk,⟨n',cap,cur,e,q1,(hs _ g hk).1.trans q2,q3,q4,q5,(hs _ g hk).2.trans q6⟩⟩
theorem Y8.stay {M M':C4}{β κ:Nat->Option Nat}(hle:M.le M')(hs:∀c g,κ c=some g->M'.w.heap[g]? =M.w.heap[g]?/\M'.U g=M.U g){cs:List TV}{arr:List Value}(h:Y8 M β κ cs arr):Y8 M' β κ cs arr :=
 h.imp (fun h=>h.stay hle hs) fun⟨xs,e,h⟩=>⟨xs,e,D7.mono hle _ _ h⟩
theorem LW.stab {NG:Nat}{X:Cx}{ids:List Nat}{n:Nat}{ds:List Deferred}{β:Nat->Option Nat}{bx:List (Option (List TV))}{o:kC}{l:Nat}{rec:Loop}{M M':C4}{κ:Nat->Option Nat}{f3 f0:Nat->Prop}(h:LW NG X ids n ds β bx o l rec M κ f3 f0)
  (hs:∀b,B8l ids β κ f3 l b->M'.w.heap[b]? =M.w.heap[b]?/\M'.U b=M.U b) (hle:M.le M') (hsz:M.w.heap.size<=M'.w.heap.size):LW NG X ids n ds β bx o l rec M' κ f3 f0 :=
 {h with
  box:=fun id b hb hid=>by
   obtain⟨cs,arr,e,h1,h2,h3,h4⟩:=h.box id b hb hid;obtain⟨q1,q2⟩:=hs b (.inl ⟨id,hid,hb⟩);exact⟨cs,arr,e,h1,h2.of_eq q1,h3.stay hle (fun c g hg=>hs g (.inr (.inl ⟨c,hg⟩))),q2.trans h4⟩
  khigh:=fun c g hg=>As (h.khigh c g hg) hsz
  J:=X.stab h.J (fun b hb=>hs b (.inr (.inr (.inl (h.f01 b hb))))) hle hsz
  marks:=by
   obtain⟨Ds,k1,k2,k3⟩:=h.marks.ex;exact⟨Ds,k1,k2,fun D hD=>⟨(k3 D hD).1,(k3 D hD).2.1,(hs D (.inr (.inr (.inl (k3 D hD).1)))).1.trans (k3 D hD).2.2.1,(k3 D hD).2.2.2⟩⟩
  flow:=fun b hb=>⟨As (h.flow b hb).1 hsz,(h.flow b hb).2⟩
  lrec:=(hs l (.inr (.inr (.inr rfl)))).1.trans h.lrec}
def C4.as' (M:C4)(y:tC):C4:=⟨M.w,M.U,y⟩
theorem C4.le_as {M M':C4}(h:M.le M')(y:tC):(M.as' y).le (M'.as' y):=⟨h.cell,rfl,h.size⟩
theorem H8.as' {M M':C4}{ex:Nat->Prop}(h:H8 M M' ex)(y:tC):H8 (M.as' y) (M'.as' y) ex:=⟨h.os,h.tape,h.output,h.size,h.block,C4.le_as h.le y⟩
def C08 (NG:Nat)(X:Cx)(ids:List Nat)(n np:Nat)(ds:List Deferred)(β:Nat->Option Nat)(l:Nat)(rec:Option kH->Loop)(yo:tC)(o2:kC)(M2:C4)(f2:Nat->Prop):Prop :=
 ∃bx fin o κ f3 f0,o2=.fr bx fin o/\bx.length=np/\(∀b,f2 b↔B8l ids β κ f3 l b)/\LW NG X ids n ds β bx o l (rec fin) (M2.as' yo) κ f3 f0
theorem B8w {NG:Nat}{X:Cx}{ids:List Nat}{n np:Nat}{ds:List Deferred}{β:Nat->Option Nat}{l:Nat}{rec:Option kH->Loop}{yo:tC}{o:kC}{M M':C4}{f:Nat->Prop}(h:C08 NG X ids n np ds β l rec yo o M f)
  (hs:∀b,f b->M'.w.heap[b]? =M.w.heap[b]?/\M'.U b=M.U b) (hle:M.le M') (hsz:M.w.heap.size<=M'.w.heap.size):C08 NG X ids n np ds β l rec yo o M' f:=by
 obtain⟨bx,fin,o,κ,f3,f0,h1,h2,h3,h4⟩:=h;exact⟨bx,fin,o,κ,f3,f0,h1,h2,h3,h4.stab (fun b hb=>hs b ((h3 b).2 hb)) (C4.le_as hle yo) hsz⟩
def B7l (X:Cx)(ds:List Deferred)(l:Nat)(rec:Loop)(o:kC)(M:C4)(f:Nat->Prop):Prop :=
 ∃f3 f0,X.J o M f0/\(∀b,f0 b->f3 b)/\C33 X ds M f3 f0/\(∀b,f3 b->b<M.w.heap.size/\X.low b)/\M.w.heap[l]? =some (.loop rec)/\¬f3 l/\(∀b,f b↔f3 b\/b=l)
theorem B1x {X:Cx}{ds:List Deferred}{l:Nat}{rec:Loop}{o:kC}{M M':C4}{f:Nat->Prop}(h:B7l X ds l rec o M f)
  (hs:∀b,f b->M'.w.heap[b]? =M.w.heap[b]?/\M'.U b=M.U b) (hle:M.le M') (hsz:M.w.heap.size<=M'.w.heap.size):B7l X ds l rec o M' f:=by
 obtain⟨f3,f0,h1,h2,h3,h4,h5,h6,h7⟩:=h;refine⟨f3,f0,X.stab h1 (fun b hb=>hs b ((h7 b).2 (.inl (h2 b hb)))) hle hsz,h2,?_,fun b hb=>⟨As (h4 b hb).1 hsz,(h4 b hb).2⟩,(hs l ((h7 l).2 (.inr rfl))).1.trans h5,h6,h7⟩;obtain⟨Ds,k1,k2,k3⟩:=h3.ex;exact⟨Ds,k1,k2,fun D hD=>⟨(k3 D hD).1,(k3 D hD).2.1,(hs D ((h7 D).2 (.inl (k3 D hD).1))).1.trans (k3 D hD).2.2.1,(k3 D hD).2.2.2⟩⟩
def rW (X:Cx)(ro:Option Nat):Prop:=∀l,ro=some l->∀o M f,X.J o M f->∃r,M.w.heap[l]? =some (.loop r)
def QJ (Q:Exit->Act->World->Prop):Option kH->Act->World->Prop
 |none=>Q .normal
 |some .ret=>Q .ret
 |some (.exit id)=>Q (.exit id)
def E6m (en:K6)(NG:Nat)(W:World->Prop)(assign body:Code)(run:{S:Type}->St->(Option kH->St->Option S)->Option S):Prop :=
 ∀(S:Type) (X1 X2:Cx) (l:Nat) (st1:St) (k:Option kH->St->Option S) (s:S),gO en X1.M0->Amb en NG W X1->rW X1 (some l)->gO en X2.M0->Amb en NG W X2->rW X2 (some l)->run st1 k=some s->
  ∀(a1:Act) (M1:C4) (β1 κ1:Nat->Option Nat),I0 NG X1 st1 a1 M1 β1 κ1->(∀st' a' M' β' κ',I0 NG X1 st' a' M' β' κ'->∃M'',(Instr.beginRound l).run en.P M'.w=.ok () M''.w/\I0 NG X2 st' a' M'' β' κ')->
  ∀(Q:Exit->Act->World->Prop),(∀j st' a' M' β' κ',I0 NG X2 st' a' M' β' κ'->k j st'=some s->QJ Q j a' M'.w)->
  assign.wpIn (FR (some l)) 0 en.P (Exit.then (fun a₁ w₁=>∃w₂,(Instr.beginRound l).run en.P w₁=.ok () w₂/\body.wpIn (FR (some l)) 0 en.P Q a₁ w₂) (fun _ _ _=>False)) a1 M1.w
end Go.Proofs.YtkpfigikffphdaaGreatDoor
namespace Go.Proofs.YtkpfigikffphdaaGreatDoor
open Go.RowKit
theorem B8u {w:World}{l b o:Nat}{x:Obj}(h:b≠l):(w.putObj l x).cell? ⟨b,o,none⟩=w.cell? ⟨b,o,none⟩:=World.cell?_of_block (World.putObj_heap_other h)
theorem D3x {w:World}{l o:Nat}{x:Obj}{u:Value}(h:w.heap[l]? =some x)(hx:x.isCells=false):w.cell? ⟨l,o,none⟩≠some u:=by
 intro hc;obtain⟨y,h1,h2⟩:=cells_of_cell hc;rw[h]at h1;injection h1 with h1;subst h1;rw[hx]at h2
 cases h2
theorem xL {M:C4}{l:Nat}{x x':Obj}(h:M.w.heap[l]? =some x)(hx:x.isCells=false):H8 M ⟨M.w.putObj l x',M.U,M.y⟩ (fun c=>c=l) where
 os:=rfl
 tape:=rfl
 output:=rfl
 size:=by simp
 block:=fun b hb hne=>⟨World.putObj_heap_other hne,rfl⟩
 le:=⟨fun b o u h1 h2=>by
  have hne:b≠l:=fun e=>by subst e;exact D3x h hx h1
  exact⟨(B8u hne).trans h1,h2⟩,rfl,fun b k ⟨arr,e,h1,h2⟩=>by
  have hne:b≠l:=fun e=>by subst e;rw[h]at h1;injection h1 with h1;subst h1;cases hx
  exact⟨arr,e,(World.putObj_heap_other hne).trans h1,h2⟩⟩
section
variable {en:K6} {NG:Nat} {W:World->Prop}
def oV (X:Cx)(Mo:C4)(ex:Nat->Prop)(n np:Nat)(hnp:X.nl<=np)(β:Nat->Option Nat)(ds:List Deferred)(l:Nat)(rec:Loop):Cx:=⟨Mo,ex,X.nl,np,fun j=>β (n+j),hnp,B7l X ds l rec,B1x,[]⟩
theorem rW.round {X:Cx}{Mo:C4}{ex:Nat->Prop}{n np:Nat}{hnp:X.nl<=np}{β:Nat->Option Nat}{ds:List Deferred}{l:Nat}{rec:Loop}:rW (oV X Mo ex n np hnp β ds l rec) (some l):=by
 intro l0 h o M f hJ;injection h with h;subst h;obtain⟨_,_,_,_,_,_,h5,_⟩:=hJ;exact⟨_,h5⟩
theorem YOK.round {X:Cx}{k:Nat}{y:YFn}(hY:YOK en.P NG W X k y){Mo:C4}{ex:Nat->Prop}{n np:Nat}{hnp:X.nl<=np}{β:Nat->Option Nat}{ds:List Deferred}{l:Nat}{rec:Loop}(hmv:H8 X.M0 Mo X.fp)(hex:∀c,ex c->X.low c)(hlX:∀j b,j<X.np->β (n+j)=some b->X.lb j=some b) :
  YOK en.P NG W (oV X Mo ex n np hnp β ds l rec) k y:=by
 refine⟨hY.nl,?_⟩;intro M' β' bs o xs vs bs' o' b f h1 h2 h3 h4 h5 h6 h7 h8;obtain⟨f3,f0,j1,j2,j3,j4,j5,j6,j7⟩:=h2
 have hmv':H8 X.M0 M' X.fp:=hmv.trans h1 (fun c hc he=>by
  rcases hex c he with hl|hl
  ·omega
  ·exact hl)
 have hjk:∀j c,β' j=some c->X.lb j=some c/\¬f0 c:=fun j c hj=>by
  obtain⟨q1,q2⟩:=h6 j c hj;have hlt:=h4.lt j c hj;have hk:=hY.nl;have hnlp:=X.nlp;exact⟨hlX j c (by omega) q1,fun hf=>q2 ((j7 c).2 (.inl (j2 c hf)))⟩
 obtain⟨fn,tmps,assign,body,g1,g2⟩:=hY.call M' β' bs o xs vs bs' o' b f0 hmv' j1 (fun c hc=>j4 c (j2 c hc)) h4 h5 hjk h7 h8;refine⟨fn,tmps,assign,body,g1,g2.mono ?_⟩
 rintro e w' ⟨rfl,U',f0',k1,k2,k3,k4,k5⟩
 have hne:∀c,f3 c->¬f0 c->¬(f0 c\/∃j,β' j=some c):=fun c hc hn hh=>by
  rcases hh with hh|⟨j,hj⟩
  ·exact hn hh
  ·exact(h6 j c hj).2 ((j7 c).2 (.inl hc))
 have hl0:¬(f0 l\/∃j,β' j=some l):=fun hh=>by
  rcases hh with hh|⟨j,hj⟩
  ·exact j6 (j2 l hh)
  ·exact(h6 j l hj).2 ((j7 l).2 (.inr rfl))
 refine⟨rfl,U',fun c=>(f0' c\/(f3 c/\¬f0 c))\/c=l,k1.weaken (fun c hc=>?_),k2,k3,⟨fun c=>f0' c\/(f3 c/\¬f0 c),f0',k4,fun c hc=>.inl hc,⟨?_⟩,fun c hc=>?_,(k1.block l (N6 j5) hl0).1.trans j5,fun hh=>?_,fun c=>Iff.rfl⟩,fun c hc=>?_⟩
 ·rcases hc with hc|hc
  ·exact .inl ((j7 c).2 (.inl (j2 c hc)))
  ·exact .inr hc
 ·obtain⟨Ds,q1,q2,q3⟩:=j3.ex;refine⟨Ds,q1,q2,fun D hD=>?_⟩;obtain⟨r1,r2,r3,r4⟩:=q3 D hD;refine⟨.inr ⟨r1,r2⟩,fun h'=>?_,(k1.block D (N6 r3) (hne D r1 r2)).1.trans r3,r4⟩;rcases(k5 D h').1 with h' |h'
  ·exact r2 h'
  ·have:=N6 r3;omega
 ·rcases hc with hc|hc
  ·refine⟨(k5 c hc).2,?_⟩;rcases(k5 c hc).1 with h' |h'
   ·exact(j4 c (j2 c h')).2
   ·exact .inl (Aw hmv'.size h')
  ·exact⟨As (j4 c hc.1).1 k1.size,(j4 c hc.1).2⟩
 ·rcases hh with hh|hh
  ·rcases(k5 l hh).1 with h' |h'
   ·exact j6 (j2 l h')
   ·have:=N6 j5;omega
  ·exact j6 hh.1
 ·rcases hc with(hc|hc)|hc
  ·refine⟨?_,(k5 c hc).2⟩;rcases(k5 c hc).1 with h' |h'
   ·exact .inl ((j7 c).2 (.inl (j2 c h')))
   ·exact .inr h'
  ·exact⟨.inl ((j7 c).2 (.inl hc.1)),As (j4 c hc.1).1 k1.size⟩
  ·subst hc;exact⟨.inl ((j7 c).2 (.inr rfl)),As (N6 j5) k1.size⟩
theorem I0.turn {X:Cx}{Mo:C4}{ex:Nat->Prop}{n np:Nat}{hnp:X.nl<=np}{β0:Nat->Option Nat}{ds:List Deferred}{l:Nat}{rec rec':Loop}{st:St}{a:Act}{M:C4}{β κ:Nat->Option Nat}(hI:I0 NG (oV X Mo ex n np hnp β0 ds l rec) st a M β κ)(hl:ex l) :
  M.w.heap[l]? =some (.loop rec)/\I0 NG (oV X Mo ex n np hnp β0 ds l rec') st a ⟨M.w.putObj l (.loop rec'),M.U,M.y⟩ β κ:=by
 obtain⟨f,f0,hJ,h01,hmk,hlow,hfβ,hfκ⟩:=hI.out.ex;obtain⟨f3,f00,j1,j2,j3,j4,j5,j6,j7⟩:=hJ;have hfl:f l:=h01 l ((j7 l).2 (.inr rfl));have hm:H8 M ⟨M.w.putObj l (.loop rec'),M.U,M.y⟩ (fun c=>c=l):=xL j5 rfl;have hne:∀id b,β id=some b->b≠l:=fun id b hb e=>hfβ id b hb (by rw[e];exact hfl);have hB:=InvB.lend (o':=st.out) hI hm (fun b he=>⟨by rw[he];exact .inr hl,fun c hc=>hfκ c b hc (by rw[he];exact hfl)⟩) (fun _ _ h=>h) (bx':=st.bx) (fun id b hb=>.inl ⟨hb,hne id b hb,rfl⟩) hI.alive hI.binj;refine⟨j5,⟨⟨hB.mv,hB.ng,hB.fpng,hB.len,hB.slot,hB.box,hB.alive,hB.binj,hB.kinj,hB.kbox,hB.klow,hB.khigh⟩,⟨hI.out.lent,hI.out.room,f,f0,?_,h01,⟨?_⟩,fun b hb=>⟨As (hlow b hb).1 hm.size,(hlow b hb).2⟩,hfβ,hfκ⟩⟩⟩
 ·refine⟨f3,f00,X.stab j1 (fun b hb=>hm.block b (j4 b (j2 b hb)).1 (fun e=>j6 (by rw[<-e];exact j2 b hb))) hm.le hm.size,j2,⟨?_⟩,fun b hb=>⟨As (j4 b hb).1 hm.size,(j4 b hb).2⟩,World.putObj_heap_same (N6 j5),j6,j7⟩;obtain⟨Ds,q1,q2,q3⟩:=j3.ex;exact⟨Ds,q1,q2,fun D hD=>⟨(q3 D hD).1,(q3 D hD).2.1,(hm.block D (N6 (q3 D hD).2.2.1) (fun e=>j6 (by rw[<-e];exact(q3 D hD).1))).1.trans (q3 D hD).2.2.1,(q3 D hD).2.2.2⟩⟩
 ·obtain⟨Ds,q1,q2,q3⟩:=hmk.ex;refine⟨Ds,q1,q2,fun D hD=>⟨(q3 D hD).1,(q3 D hD).2.1,(hm.block D (N6 (q3 D hD).2.2.1) (fun e=>?_)).1.trans (q3 D hD).2.2.1,(q3 D hD).2.2.2⟩⟩;have e:D=l:=e;exact(q3 D hD).2.1 (by rw[e];exact(j7 l).2 (.inr rfl))
theorem LW.close {X:Cx}{ids:List Nat}{n:Nat}{ds:List Deferred}{β:Nat->Option Nat}{bx:List (Option (List TV))}{o:kC}{l:Nat}{rec:Loop}{M:C4}{yo:tC}{κ:Nat->Option Nat}{f3 f0:Nat->Prop}(h:LW NG X ids n ds β bx o l rec (M.as' yo) κ f3 f0)
  (hd:ids.Nodup) {bs bs2:List (List PV)} (hB:kJ M (G0 β ids) NG bs) (hl:bs.length=ids.length) (h2:F7 (F7 (Q2 (fun j=>ids[j]?) false 4)) bs=some bs2) (hids:∀id∈ids,∃b,β id=some b) :
  (∀id b,β id=some b->∃cs arr e,(E1 (cB ids bs2) (fL n bx))[id]? =some (some cs)/\eT M.w b e arr/\Y8 (M.as' yo) β κ cs arr/\M.U b=0)/\
  (∀id cs,(E1 (cB ids bs2) (fL n bx))[id]? =some (some cs)->∃b,β id=some b):=by
 have hσ:∀j i,ids[j]? =some i->∀b,G0 β ids j=some b->β i=some b:=fun j i hj b hb=>by
  obtain⟨id,q1,q2⟩:=D2 hb;rw[hj]at q1;injection q1 with q1;rw[q1];exact q2
 refine⟨fun id b hb=>?_,fun id cs hc=>?_⟩
 ·by_cases hid:id∈ids
  ·obtain⟨j,hj⟩:=Cm hid
   have hlt:j<bs2.length:=by rw[E6 h2,hl];exact(Aj.1 hj).1
   obtain⟨cs0,h3,h4⟩:=fG h2 j bs2[j] (Ag hlt);obtain⟨b1,arr,e,k1,k2,k3,k4,k5⟩:=hB.box j cs0 h3
   have e2:b1=b:=by
    have:=hσ j id hj b1 k1;rw[hb]at this;injection this with this;exact this.symm
   subst e2;obtain⟨cs1,hc1⟩:=h.isbox id b1 hb;exact⟨_,arr,e,fQ hd hj (Ag hlt) (Aj.1 hc1).1,k2,Y8.of_bs (D6k (M:=M) (M2:=M.as' yo) rfl rfl hσ k5 h4),k3⟩
  ·obtain⟨cs,arr,e,k1,k2,k3,k4⟩:=h.box id b hb hid;exact⟨cs,arr,e,(G8 _ _ _ (fun p hp e=>hid (by rw[<-e];exact bX hp))).trans k1,k2,k3,k4⟩
 ·by_cases hid:id∈ids
  ·exact hids id hid
  ·rw[G8 _ _ _ (fun p hp e=>hid (by rw[<-e];exact bX hp))]at hc;exact h.alive id cs hc
theorem A1k:∀(ps:List Tmp) (xs:List PV) (ρ:List TV),(kN ps xs ρ).length=ρ.length
 |[],xs,ρ=>by cases xs<;>rfl
 |p::ps,[],ρ=>rfl
 |p::ps,x::xs,ρ=>by simp only[kN];rw[A1k ps xs];simp
theorem A6f {M:C4}{β:Nat->Option Nat}:∀(ps:List Tmp) (xs:List PV) (vs:List Value) (ρ:List TV) (tmps:Array Value),xs.length=ps.length->ρ.length=tmps.size->B9 M β xs vs->(∀(t:Nat) (x:TV),ρ[t]? =some x->∃v,tmps[t]? =some v/\C1 M β x.1 v/\∀M κ,N1 M κ x.1 x.2 v)->
  (kN ps xs ρ).length=((ps.zip vs).foldl (fun t (p:Tmp×Value)=>t.setIfInBounds p.1 p.2) tmps).size/\∀(t:Nat) (x:TV),(kN ps xs ρ)[t]? =some x->∃v,((ps.zip vs).foldl (fun t (p:Tmp×Value)=>t.setIfInBounds p.1 p.2) tmps)[t]? =some v/\C1 M β x.1 v/\∀M κ,N1 M κ x.1 x.2 v
 |[],xs,vs,ρ,tmps,_,hl,_,h=>by
  have e1:kN [] xs ρ=ρ:=by cases xs<;>rfl
  rw[e1];exact⟨hl,h⟩
 |p::ps,[],vs,ρ,tmps,hn,hl,_,h=>by simp at hn
 |p::ps,x::xs,vs,ρ,tmps,hn,hl,hr,h=>by
  simp only[B9]at hr;obtain⟨u,us,rfl,h1,h2⟩:=hr;simp only[kN,List.zip_cons_cons,List.foldl_cons];refine A6f ps xs us _ _ (by simpa using hn) (by simp[hl]) h2 ?_;intro t y hy
  by_cases e:p=t
  ·subst e
   have hlt:p<ρ.length:=by
    rcases Dx p ρ.length with h' |h'
    ·exact h'
    ·rw[List.getElem?_eq_none (by simpa using h')]at hy;cases hy
   rw[List.getElem?_set_self hlt]at hy;injection hy with hy;subst hy;exact⟨u,by rw[Array.getElem?_setIfInBounds_self_of_lt (by rw[<-hl];exact hlt)],h1,fun _ _=>.inl rfl⟩
  ·rw[List.getElem?_set_ne e]at hy;obtain⟨v,k1,k2⟩:=h t y hy;exact⟨v,by rw[Array.getElem?_setIfInBounds_ne e];exact k1,k2⟩
structure E7z (NG:Nat)(X:Cx)(ids:List Nat)(n np:Nat)(β:Nat->Option Nat)(a:Act)(ρ:List TV)(M1:C4):Prop where
 binj:∀id id' b,β id=some b->β id'=some b->id=id'
 low:∀id b,β id=some b->X.low b
 lt:∀id b,β id=some b->b<M1.w.heap.size
 ran:∀id b,β id=some b->∃j,j<np/\id=n+j
 lent:∀j b,j<X.np->β (n+j)=some b->X.lb j=some b
 npX:X.np<=np
 nd:ids.Nodup
 mem:∀id∈ids,∃b,β id=some b
 len:ρ.length=a.tmps.size
 rn:ρ.length=n
 slot:∀(t:Nat) (x:TV),ρ[t]? =some x->∃v,a.tmps[t]? =some v/\C1 M1 β x.1 v/\∀M κ,N1 M κ x.1 x.2 v
 ng:NG<=X.M0.w.heap.size
 fpng:∀b,X.fp b->NG<=b
 size:X.M0.w.heap.size<=M1.w.heap.size
def D2l (NG:Nat)(X:Cx)(ids:List Nat)(n np:Nat)(ds:List Deferred)(β:Nat->Option Nat)(l:Nat)(rec:Option kH->Loop)(M1:C4)(γ:Nat->Nat->Option Nat)(fp:Nat->Prop):Cx :=
 ⟨M1.as' ⟨l,γ⟩,fp,ids.length,ids.length,G0 β ids,Ak _,C08 NG X ids n np ds β l rec M1.y,B8w,[]⟩
theorem A3d {X:Cx}{ids:List Nat}{n:Nat}{ds:List Deferred}{β:Nat->Option Nat}{bx:List (Option (List TV))}{o:kC}{l:Nat}{rec:Loop}{M:C4}{κ:Nat->Option Nat}{f3 f0:Nat->Prop}(h:LW NG X ids n ds β bx o l rec M κ f3 f0)(hlow:∀id b,β id=some b->X.low b){c:Nat}(hc:B8l ids β κ f3 l c):X.low c:=by
 rcases hc with⟨id,_,hc⟩|⟨t,ht⟩|hc|rfl
 ·exact hlow id c hc
 ·exact h.klow t c ht
 ·exact(h.flow c hc).2
 ·exact h.llow
end
end Go.Proofs.YtkpfigikffphdaaGreatDoor
namespace Go.Proofs.YtkpfigikffphdaaGreatDoor
open Go.RowKit
section
variable {en:K6} {NG:Nat} {W:World->Prop}
theorem C1.later {M M':C4}{β:Nat->Option Nat}{x:PV}{v:Value}(h:C1 M β x v)(hle:M.le M'):C1 M' β x v:=h.mono hle (fun _ _ h=>h)
theorem D68 (hE:aE en NG W){X:Cx}(hG:gO en X.M0)(hW:Amb en NG W X){ids:List Nat}{n np:Nat}{ds:List Deferred}{β:Nat->Option Nat}{l:Nat}{a:Act}{ρ:List TV}{M1:C4}{γ:Nat->Nat->Option Nat}{fp:Nat->Prop}{fn:FuncId}{nps:Array Tmp}{assign body:Code}{D0:Nat}
  {run:{S:Type}->St->(Option kH->St->Option S)->Option S} (hrun:E6m en NG W assign body run) (hF:E7z NG X ids n np β a ρ M1) (hmv1:H8 X.M0 M1 X.fp) (hfp:∀c,c<M1.w.heap.size->fp c->X.low c) :
  YOK en.P NG W (D2l NG X ids n np ds β l (aY fn a.tmps nps assign body D0) M1 γ fp) ids.length (tP ids nps ρ run):=by
 refine⟨rfl,?_⟩;intro M βl bs o xs vs bs' o' b f hmv hJ hflow hB hbl hlb hargs hFy
 have hβl:βl=G0 β ids:=by
  funext j;rcases h1:G0 β ids j with _|c
  ·rcases h2:βl j with _|c
   ·rfl
   ·have:=(hlb j c h2).1;rw[show(D2l NG X ids n np ds β l (aY fn a.tmps nps assign body D0) M1 γ fp).lb j=G0 β ids j from rfl,h1]at this
    cases this
  ·obtain⟨id,q1,q2⟩:=D2 h1
   have hlt:j<bs.length:=by rw[hbl];exact(Aj.1 q1).1
   obtain⟨c',_,_,h3,_⟩:=hB.box j bs[j] (Ag hlt);have h4:G0 β ids j=some c':=(hlb j c' h3).1;rw[h1]at h4;rw[h3,h4]
 subst hβl;obtain⟨bx,fin,o1,κ,f3,f0,rfl,hbxl,hfoot,hLW⟩:=hJ;have hlf:∀j c,G0 β ids j=some c->¬f c:=fun j c hj=>(hlb j c hj).2;simp only[tP]at hFy
 cases fin with
 |some j=>cases hFy
 |none =>
 simp only at hFy;obtain⟨hsz,hFy⟩:=A5 hFy;simp only[Ae,beq_iff_eq]at hsz;have hsz1:bs.length=ids.length:=hbl
 have hsz2:xs.length=nps.size:=by simpa using hsz.2
 split at hFy
 case h_2=>cases hFy
 rename_i bs2 xs2 hbs2 hxs2
 let Mo:C4:=M.as' M1.y
 let ex:Nat->Prop:=fun c=>f c\/∃j,G0 β ids j=some c
 have hfl:f l:=(hfoot l).2 (.inr (.inr (.inr rfl)))
 have hexlow:∀c,ex c->X.low c:=fun c hc=>by
  rcases hc with hc|⟨j,hj⟩
  ·exact A3d hLW hF.low ((hfoot c).1 hc)
  ·obtain⟨id,_,q2⟩:=D2 hj;exact hF.low id c q2
 have hmvo:H8 M1 Mo fp:=by
  have:=hmv.as' M1.y;exact this
 have hmvX:H8 X.M0 Mo X.fp:=hmv1.trans hmvo (fun c hc he=>by
  rcases hfp c (As hc hmv1.size) he with h|h
  ·omega
  ·exact h)
 have hnp:X.nl<=np:=Aw X.nlp hF.npX;have hrec:M.w.heap[l]? =some (.loop (aY fn a.tmps nps assign body D0 none)):=hLW.lrec;obtain⟨mX,halive⟩:=hLW.close (M:=M) (yo:=M1.y) hF.nd hB hsz1 hbs2 hF.mem
 have hσ:∀j i,ids[j]? =some i->∀b,G0 β ids j=some b->β i=some b:=fun j i hj b hb=>by
  obtain⟨id,q1,q2⟩:=D2 hb;rw[hj]at q1;injection q1 with q1;rw[q1];exact q2
 have hxs:B9 Mo β xs2 vs:=aW (vH (M:=M) (M2:=Mo) rfl rfl hσ 4) hxs2 hargs
 have hxl:xs2.length=nps.toList.length:=by rw[E6 hxs2,hsz2];simp
 have hvl:vs.length=nps.size:=by rw[<-hargs.length];exact hsz2
 obtain⟨hl1,hslots⟩:=A6f nps.toList xs2 vs ρ a.tmps hxl hF.len hxs (fun t x hx=>let⟨v,h1,h2,h3⟩:=hF.slot t x hx;⟨v,h1,h2.later hmvo.le,h3⟩)
 have htm:(nps.zip vs.toArray).foldl (fun t (p:Tmp×Value)=>t.setIfInBounds p.1 p.2) a.tmps=(nps.toList.zip vs).foldl (fun t (p:Tmp×Value)=>t.setIfInBounds p.1 p.2) a.tmps:=by
  rw[<-Array.foldl_toList];simp
 have hwo:W Mo.w:=hE.world _ _ (fun c hc=>(hmvX.block c (As hc hF.ng) (fun h=>by have:=hF.fpng c h;omega)).1) hW.w;have hamb:∀rec,Amb en NG W (oV X Mo ex n np hnp β ds l rec):=fun rec=>⟨hwo,fun k y hy=>(hW.y k y hy).round hmvX hexlow hF.lent⟩;have hgo:gO en Mo:=hG.mono hmvX.le
 have hI :I0 NG (oV X Mo ex n np hnp β ds l (aY fn a.tmps nps assign body D0 none)) ⟨kN nps.toList xs2 ρ,E1 (cB ids bs2) (fL ρ.length bx),o1⟩ {tmps:=(nps.zip vs.toArray).foldl (fun t (p:Tmp×Value)=>t.setIfInBounds p.1 p.2) a.tmps,defers:=[]} Mo β κ:=by
  rw[htm,hF.rn]
  have hpl:(kN nps.toList xs2 ρ).length=n:=by rw[A1k,hF.rn]
  refine⟨?_,?_⟩
  ·exact
   {mv:=H8.refl _ _
    ng:=Aw hF.ng (Aw hF.size hmvo.size)
    fpng:=fun c hc=>by
     rcases hexlow c hc with h|h
     ·exact Aw hF.ng h
     ·exact hF.fpng c h
    len:=hl1
    slot:=fun t x hx=>let⟨v,h1,h2,h3⟩:=hslots t x hx;⟨v,h1,h2,h3 Mo κ⟩
    box :=fun id c hc=>by
     obtain⟨cs,arr,e,k1,k2,k3,k4⟩:=mX id c hc;refine⟨cs,arr,e,k1,k2,k3,k4,?_⟩
     by_cases hid:id∈ids
     ·obtain⟨j,hj⟩:=Cm hid;exact .inr (.inr ⟨j,by simp[G0,hj,hc]⟩)
     ·exact .inr (.inl ((hfoot c).2 (.inl ⟨id,hid,hc⟩)))
    alive:=halive
    binj:=hF.binj
    kinj:=hLW.kinj
    kbox:=hLW.kbox
    klow:=fun t g hg=>.inr (.inl ((hfoot g).2 (.inr (.inl ⟨t,hg⟩))))
    khigh:=hLW.khigh}
  ·refine⟨fun id c hc=>?_,fun _=>?_,fun c=>f3 c\/c=l,fun c=>f3 c\/c=l,?_,fun _ h=>h,⟨[],fB.nil,Fk,fun D hD=>by cases hD⟩,fun c hc=>?_,fun id c hc hh=>?_,fun t g hg hh=>?_⟩
   ·obtain⟨j,h1,h2⟩:=hF.ran id c hc;refine .inl ⟨j,h1,by rw[h2];simp only[hpl],?_⟩;show β (n+j)=some c;rw[<-h2];exact hc
   ·simp only[hpl,Q7,uP,hbxl];exact Ak _
   ·exact⟨f3,f0,hLW.J,hLW.f01,hLW.marks,hLW.flow,hrec,hLW.lf,fun c=>Iff.rfl⟩
   ·rcases hc with hc|rfl
    ·exact⟨(hLW.flow c hc).1,.inr (.inl ((hfoot c).2 (.inr (.inr (.inl hc)))))⟩
    ·exact⟨N6 hrec,.inr (.inl hfl)⟩
   ·rcases hh with hh|rfl
    ·exact hLW.fβ id c hc hh
    ·exact hLW.lβ id hc
   ·rcases hh with hh|rfl
    ·exact hLW.fκ t g hg hh
    ·exact hLW.lκ t hg
 have hexl:ex l:=.inl hfl
 have hyl:M.y.l=l:=by rw[hmv.le.y];rfl
 rw[hyl];refine⟨fn,_,assign,body,run_yield (args:=vs.toArray) hrec (by simpa [aY]using hvl),?_⟩;refine roundIn_of_wpIn trivial (hrun _ (oV X Mo ex n np hnp β ds l (aY fn a.tmps nps assign body D0 none)) (oV X Mo ex n np hnp β ds l {aY fn a.tmps nps assign body D0 none with state:=.busy}) l _ _ _ hgo (hamb _) rW.round hgo (hamb _) rW.round hFy _ Mo β κ hI ?_ _ ?_)
 ·intro st' a' M' β' κ' hI';obtain⟨h1,h2⟩:=hI'.turn (rec':={aY fn a.tmps nps assign body D0 none with state:=.busy}) hexl;exact⟨_,run_beginRound h1 rfl,h2⟩
 ·intro j st' a' M' β' κ' hI' hK;obtain⟨hlen,hK⟩:=A5 hK;obtain⟨bx',hal,hnd,hren,hK⟩:=A2e hK;split at hK
  case h_2=>cases hK
  rename_i bs3 hbs3;have hn':st'.ρ.length=n:=hlen.trans hF.rn
  have hKj:bs'=bs3/\o'=.fr bx' j st'.out/\b=j.isNone:=by
   cases j with
   |none=>simp only[Ah,Dz]at hK;exact⟨hK.1.symm,hK.2.1.symm,hK.2.2.symm⟩
   |some j=>simp only[Ah,Dz]at hK;exact⟨hK.1.symm,hK.2.1.symm,hK.2.2.symm⟩
  clear hK;obtain⟨rfl,rfl,rfl⟩:=hKj;rw[hlen]at hren;rw[hF.rn,hbxl]at hren hal hnd;rw[hF.rn]at hbs3;have hp:=hI'.pin (al:=E9 n np) hal hnd (bx:=bx') (by rw[hn'];exact hren) (fun i hi=>by rw[hn'];exact aV hi);rw[hn']at hp
  have hβ':cS n (E9 n np) β'=β:=by
   funext id
   have fwd:∀c,cS n (E9 n np) β' id=some c->β id=some c:=fun c hc=>by
    obtain⟨i,id',rfl,q1,q2⟩:=J0 hc;obtain⟨q3,rfl⟩:=oU q1;rcases hI'.out.lent _ c q2 with⟨i',e1,e2,e3⟩|⟨_,e2⟩
    ·rw[hn']at e2
     have:i'=i:=by omega
     subst this;exact e3
    ·exact(e2 i q3 (by rw[hn'])).elim
   rcases h1:β id with _|c
   ·rcases h2:cS n (E9 n np) β' id with _|c
    ·rfl
    ·rw[fwd c h2]at h1;cases h1
   ·obtain⟨i,hi,rfl⟩:=hF.ran id c h1;obtain⟨cs,q1,_⟩:=gP hren i _ (aV hi);obtain⟨c',hc'⟩:=hI'.alive _ _ q1
    have e:cS n (E9 n np) β' (n+i)=some c':=by rw[qJ (aV hi)];exact hc'
    have:=fwd c' e;rw[h1]at this;rw[e,this]
  rw[hβ']at hp
  have hrecj:∀jump,jump=j.map B0l->{({aY fn a.tmps nps assign body D0 none with state:=.busy}:Loop)with state:=if jump.isNone then .ready else .done,pending:=jump}=aY fn a.tmps nps assign body D0 j:=by
   rintro _ rfl
   cases j<;>rfl
  obtain⟨hl1,hT⟩:=hp.turn (rec':=aY fn a.tmps nps assign body D0 j) hexl
  have hfin :∃v w',(Instr.endRound l (j.map B0l)).run en.P M'.w=.ok v w'/\(Ending.returned v=.returned (.bool j.isNone)/\∃U' f',H8 M ⟨w',U',M.y⟩ (fun c=>f c\/∃j,G0 β ids j=some c)/\kJ ⟨w',U',M.y⟩ (G0 β ids) NG bs'/\bs'.length=ids.length/\
    C08 NG X ids n np ds β l (aY fn a.tmps nps assign body D0) M1.y (.fr bx' j st'.out) ⟨w',U',M.y⟩ f'/\∀c,f' c->(f c\/M.w.heap.size<=c)/\c<w'.heap.size):=by
   refine⟨_,_,run_endRound (P:=en.P) (j.map B0l) hl1,by cases j<;>rfl,?_⟩;rw[hrecj _ rfl];obtain⟨fA,f0A,hJA,hA01,hAmk,hAlow,hAβ,hAκ⟩:=hT.out.ex;obtain⟨f3',f0',j1,j2,j3,j4,j5,j6,j7⟩:=hJA
   have hmem:(⟨M'.w.putObj l (.loop (aY fn a.tmps nps assign body D0 j)),M'.U,M'.y⟩:C4)=(⟨M'.w.putObj l (.loop (aY fn a.tmps nps assign body D0 j)),M'.U,M.y⟩:C4).as' M1.y:=by
    have:M'.y=M1.y:=hT.mv.le.y;simp only[C4.as',this]
   have hfA:∀c,fA c->f c\/M.w.heap.size<=c:=fun c hc=>by
    rcases(hAlow c hc).2 with h|(h|⟨i,hi⟩)
    ·exact .inr h
    ·exact .inl h
    ·obtain⟨id,_,q2⟩:=D2 hi;exact(hAβ id c q2 hc).elim
   refine⟨M'.U,B8l ids β (sL n (E9 n np) st'.bx κ') f3' l,?_,?_,?_,?_,?_⟩
   ·have:=hT.mv.as' M.y;exact this
   ·exact A4f hT.toInvB hF.nd hbs3 rfl rfl
   ·exact eC hbs3
   ·refine⟨bx',j,st'.out,sL n (E9 n np) st'.bx κ',f3',f0',rfl,by rw[dU hren,aQ],fun c=>Iff.rfl,?_⟩;rw[<-hmem];exact
     {isbox:=fun id c hc=>by obtain⟨cs,_,_,k1,_⟩:=hT.box id c hc;exact⟨cs,k1⟩
      box:=fun id c hc _=>by obtain⟨cs,arr,e,k1,k2,k3,k4,_⟩:=hT.box id c hc;exact⟨cs,arr,e,k1,k2,k3,k4⟩
      alive:=hT.alive
      kinj:=hT.kinj
      kbox:=hT.kbox
      klow:=fun t g hg=>by
       rcases hT.klow t g hg with h|h
       ·exact .inl (Aw hmvX.size h)
       ·exact hexlow g h
      khigh:=hT.khigh
      J:=j1
      f01:=j2
      marks:=j3
      flow:=j4
      fβ:=fun id c hc hh=>hAβ id c hc (hA01 c ((j7 c).2 (.inl hh)))
      fκ:=fun t g hg hh=>hAκ t g hg (hA01 g ((j7 g).2 (.inl hh)))
      lrec:=j5
      lβ:=fun id hc=>hAβ id l hc (hA01 l ((j7 l).2 (.inr rfl)))
      lκ:=fun t hg=>hAκ t l hg (hA01 l ((j7 l).2 (.inr rfl)))
      lf:=j6
      llow:=hexlow l hexl}
   ·intro c hc;rcases hc with⟨id,hid,hc⟩|⟨t,ht⟩|hc|rfl
    ·exact⟨.inl ((hfoot c).2 (.inl ⟨id,hid,hc⟩)),hT.box_lt hc⟩
    ·refine⟨?_,hT.khigh t c ht⟩;rcases hT.klow t c ht with h|(h|⟨i,hi⟩)
     ·exact .inr h
     ·exact .inl h
     ·obtain⟨id,_,q2⟩:=D2 hi;exact(hT.kbox t c id c ht q2 rfl).elim
    ·exact⟨hfA c (hA01 c ((j7 c).2 (.inl hc))),(hAlow c (hA01 c ((j7 c).2 (.inl hc)))).1⟩
    ·exact⟨.inl hfl,N6 j5⟩
  cases j with
  |none=>exact hfin
  |some j =>
   cases j with
   |ret=>exact hfin
   |exit id=>exact hfin
theorem C8z {P:Program}{X:Cx}{ro:Option Nat}(hro:rW X ro){o:kC}{M:C4}{f0:Nat->Prop}(hJ:X.J o M f0)(fn:FuncId)(tmps:Array Value)(np:Array Tmp)(assign body:Code) :
  ∃l mark w1 D0,(Instr.enterLoop fn tmps np assign body ro).run P M.w=.ok (l,mark) w1/\Below M.w.heap.size M.w w1/\w1.heap[l]? =some (.loop (aY fn tmps np assign body D0 none))/\M.w.heap.size<=l/\
   (mark=[]\/∃D,mark=[eO D]/\M.w.heap.size<=D/\D≠l/\w1.heap[D]? =some (.deferred (some []))):=by
 cases ro with
 |none =>
  refine⟨_,_,_,M.w.heap.size,run_enterLoop_outer fn tmps np assign body,((Below.refl _ _).alloc (Ak _) _).alloc (by simp) _,?_,Nat.le_succ _,.inr ⟨_,rfl,Ak _,by omega,?_⟩⟩
  ·have:=World.alloc_heap_new (M.w.alloc (.deferred (some []))) (.loop (aY fn tmps np assign body M.w.heap.size none))
   rwa [World.size_alloc]at this
  ·exact(Below.heap_alloc _ _ _ (by simp)).trans (World.alloc_heap_new M.w _)
 |some l0 =>
  obtain⟨r0,hr0⟩:=hro l0 rfl o M f0 hJ;exact⟨_,_,_,r0.defers,run_enterLoop_inner hr0 fn tmps np assign body,(Below.refl _ _).alloc (Ak _) _,World.alloc_heap_new M.w _,Ak _,.inl rfl⟩
theorem C4b {R:Type}(hE:aE en NG W){X:Cx}(hG:gO en X.M0)(hW:Amb en NG W X){ro:Option Nat}(hro:rW X ro){f:Operand}{nps:Array Tmp}{assign body:Code}{run:{S:Type}->St->(Option kH->St->Option S)->Option S}(hrunN:B7w run)(hrun:E6m en NG W assign body run)
  {kj:Option kH->St->Option R} {st:St} {r:R} (h:xF en st f nps run kj=some r) {a:Act} {M:C4} {β κ:Nat->Option Nat} (hI:I0 NG X st a M β κ) {Q:Exit->Act->World->Prop}
  (hn:∀j st' a' M' β' κ',I0 NG X st' a' M' β' κ'->kj j st'=some r->QJ Q j a' M'.w):(Code.rangeFunc f nps assign body).wpIn (FR ro) 0 en.P Q a M.w:=by
 unfold xF at h;split at h
 case h_2=>cases h
 rename_i fid caps hx;split at h
 case h_2=>cases h
 rename_i p hp
 have hlt:fid<1000000:=by
  by_cases hlt:fid<1000000
  ·exact hlt
  ·rw[if_neg hlt]at hp;cases hp
 rw[if_pos hlt]at hp;obtain⟨bx1,hal,hnd,hren,h⟩:=A2e h;split at h
 case h_2=>cases h
 rename_i caps1 hcaps1;split at h
 case h_2=>cases h
 rename_i ids hids;obtain⟨hdist,h⟩:=A5 h;split at h
 case h_2=>cases h
 rename_i bs caps2 hbs hcaps2;have hIn:=hE.ins fid p hp;rw[hIn.nat]at h;obtain⟨⟨bs',o',v⟩,hFy,h⟩:=A6 h;simp only at h;split at h
 case h_2=>cases h
 rename_i bx2 j o2;obtain⟨hbl',h⟩:=A5 h;split at h
 case h_2=>cases h
 rename_i bs2 hbs2;refine wpIn_rangeFunc fun fn _=>?_;obtain⟨f1,f0,hJ,h01,hmk,hlow,hfβ,hfκ⟩:=hI.out.ex;obtain⟨l,mark,w1,D0,he,hb1,hl1,hlsz,hmark⟩:=C8z (P:=en.P) hro hJ fn a.tmps nps assign body
 let M1:C4:=⟨w1,M.U,M.y⟩
 have hm1:L4 M M1 none:=L4.world hb1;have hI1:I0 NG X st a M1 β κ:=hI.grow hm1;generalize hnn:st.ρ.length=n at *;generalize hall:A4d n st.bx=al at *
 have hal0:∀i,i<X.np->al[i]? =some (n+i):=fun i hi=>by
  have:=hI.out.room (by omega);rw[hnn]at this;rw[<-hall];unfold A4d;rw[Bd (by rw[aQ];omega)];exact aV (by omega)
 have hpI:=hI1.pin hal hnd (by rw[hnn];exact hren) (fun i hi=>by rw[hnn];exact hal0 i hi);rw[hnn]at hpI;generalize hβ1:cS n al β=β1 at *;generalize hκ1:sL n al st.bx κ=κ1 at *
 have hβold:∀id b,β1 id=some b->∃id',β id'=some b:=fun id b hb=>by
  rw[<-hβ1]at hb;obtain⟨_,id',_,_,h⟩:=J0 hb;exact⟨id',h⟩
 have hκold:∀c g,κ1 c=some g->∃c',κ c'=some g:=fun c g hg=>by
  rw[<-hκ1]at hg;obtain⟨_,_,x,_,_,_,_,h⟩:=cK hg;exact⟨_,h⟩
 have hβsz:∀id b,β1 id=some b->b<M.w.heap.size:=fun id b hb=>by obtain⟨id',h'⟩:=hβold id b hb;exact hI.box_lt h'
 have hκsz:∀c g,κ1 c=some g->g<M.w.heap.size:=fun c g hg=>by obtain⟨c',h'⟩:=hκold c g hg;exact hI.khigh c' g h'
 have hbx1:bx1.length=al.length:=dU hren;have hsz1:M.w.heap.size<=w1.heap.size:=hb1.size
 let f3:Nat->Prop:=fun c=>f1 c\/∃D,mark=[eO D]/\c=D
 have hmD:∀D,mark=[eO D]->M.w.heap.size<=D/\D≠l/\w1.heap[D]? =some (.deferred (some [])):=fun D hD=>by
  rcases hmark with e|⟨D',e,q⟩
  ·rw[e]at hD;cases hD
  ·rw[e]at hD;injection hD with hD _
   have:D'=D:=by simpa [eO]using hD
   subst this;exact q
 have hstay:∀b,b<M.w.heap.size->w1.heap[b]? =M.w.heap[b]? :=fun b hb=>hb1.block b hb
 have hLW:LW NG X ids n (mark++a.defers) β1 bx1 st.out l (aY fn a.tmps nps assign body D0 none) M1 κ1 f3 f0 :=
  {isbox :=fun id b hb=>by obtain⟨cs,_,_,k1,_⟩:=hpI.box id b hb;exact⟨cs,k1⟩
   box:=fun id b hb _=>by obtain⟨cs,arr,e,k1,k2,k3,k4,_⟩:=hpI.box id b hb;exact⟨cs,arr,e,k1,k2,k3,k4⟩
   alive:=hpI.alive
   kinj:=hpI.kinj
   kbox:=hpI.kbox
   klow:=hpI.klow
   khigh:=hpI.khigh
   J:=X.stab hJ (fun b hb=>⟨hstay b (hlow b (h01 b hb)).1,rfl⟩) hm1.le hsz1
   f01:=fun b hb=>.inl (h01 b hb)
   marks :=by
    obtain⟨Ds,k1,k2,k3⟩:=hmk.ex
    have old:∀D∈Ds,f3 D/\¬f0 D/\M1.w.heap[D]? =some (.deferred (some []))/\X.M0.w.heap.size<=D:=fun D hD=>by
     obtain⟨q1,q2,q3,q4⟩:=k3 D hD;exact⟨.inl q1,q2,(hstay D (N6 q3)).trans q3,q4⟩
    rcases hmark with e|⟨D,e,q1,q2,q3⟩
    ·rw[e,Cd];exact⟨Ds,k1,k2,old⟩
    ·refine⟨D::Ds,by rw[e];exact k1.cons D,Dm.2 ⟨fun hD=>?_,k2⟩,fun D' hD'=>?_⟩
     ·have:=N6 (k3 D hD).2.2.1;omega
     ·rcases Be.1 hD' with rfl|hD'
      ·exact⟨.inr ⟨_,e,rfl⟩,fun h=>by have:=(hlow _ (h01 _ h)).1;omega,q3,Aw hI.size q1⟩
      ·exact old D' hD'
   flow:=fun b hb=>by
    rcases hb with hb|⟨D,hD,rfl⟩
    ·exact⟨As (hlow b hb).1 hsz1,(hlow b hb).2⟩
    ·obtain⟨q1,_,q3⟩:=hmD _ hD;exact⟨N6 q3,.inl (Aw hI.size q1)⟩
   fβ:=fun id b hb hh=>by
    rcases hh with hh|⟨D,hD,rfl⟩
    ·obtain⟨id',h'⟩:=hβold id b hb;exact hfβ id' b h' hh
    ·have:=hβsz id _ hb;have:=(hmD _ hD).1;omega
   fκ:=fun c g hg hh=>by
    rcases hh with hh|⟨D,hD,rfl⟩
    ·obtain⟨c',h'⟩:=hκold c g hg;exact hfκ c' g h' hh
    ·have:=hκsz c _ hg;have:=(hmD _ hD).1;omega
   lrec:=hl1
   lβ:=fun id hb=>by have:=hβsz id l hb;omega
   lκ:=fun c hg=>by have:=hκsz c l hg;omega
   lf:=fun hh=>by
    rcases hh with hh|⟨D,hD,e⟩
    ·have:=(hlow l hh).1;omega
    ·exact(hmD _ hD).2.1 e.symm
   llow:=.inl (Aw hI.size hlsz)}
 have hal1:X.np<=al.length:=by
  rcases Ed X.np with h0|h0
  ·omega
  ·have:=(Aj.1 (hal0 (X.np-1) (by omega))).1;omega
 have hρl:(mR n al st.ρ).length=n:=by simp only[mR,By];exact hnn
 have hFix :E7z NG X ids n bx1.length β1 a (mR n al st.ρ) M1 :=
  {binj:=hpI.binj
   low:=fun id b hb=>by obtain⟨_,_,_,_,_,_,_,k⟩:=hpI.box id b hb;exact k
   lt:=fun id b hb=>hpI.box_lt hb
   ran:=fun id b hb=>by
    rw[<-hβ1]at hb;obtain⟨i,id',rfl,q1,_⟩:=J0 hb;exact⟨i,by rw[hbx1];exact(Aj.1 q1).1,rfl⟩
   lent:=fun i b hi hb=>by
    rcases hpI.out.lent _ b hb with⟨i',e1,e2,e3⟩|⟨_,e2⟩
    ·simp only[hρl]at e2
     have:i'=i:=by omega
     subst this;exact e3
    ·exact(e2 i hi (by simp only[hρl])).elim
   npX:=by rw[hbx1];exact hal1
   nd:=W2 hdist
   mem:=fun id hid=>by
    obtain⟨cs,hc⟩:=nL hbs id hid;exact hpI.alive id cs hc
   len:=hpI.len
   rn:=hρl
   slot:=fun t x hx=>by
    obtain⟨v,k1,k2,k3⟩:=hpI.slot t x hx;refine⟨v,k1,k2,fun M' κ'=>?_⟩
    have hx2:x.2=0\/x.2=1:=by
     simp only[mR,Az]at hx;obtain⟨y,_,rfl⟩:=Am.1 hx;simp only
     by_cases e:y.2=1
     ·rw[if_pos e];exact .inr rfl
     ·rw[if_neg e];exact .inl rfl
    rcases hx2 with e|e
    ·exact .inl e
    ·rcases k3 with k3|⟨nl,sz,m,cells,q1,q2⟩
     ·exact .inl k3
     ·refine .inr ⟨nl,sz,m,cells,q1,?_⟩;rcases q2 with q2|⟨q2,_⟩
      ·exact .inl q2
      ·omega
   ng:=hI.ng
   fpng:=hI.fpng
   size:=hI1.size}
 let fp:Nat->Prop:=fun c=>B8l ids β1 κ1 f3 l c\/∃i,G0 β1 ids i=some c
 have hfplow:∀c,fp c->X.low c:=fun c hc=>by
  rcases hc with hc|⟨i,hi⟩
  ·exact A3d hLW hFix.low hc
  ·obtain⟨id,_,q2⟩:=D2 hi;exact hFix.low id c q2
 let X2:Cx:=D2l NG X ids n bx1.length (mark++a.defers) β1 l (aY fn a.tmps nps assign body D0) M1 (fun _ _=>none) fp
 have hY2:YOK en.P NG W X2 ids.length (tP ids nps (mR n al st.ρ) run):=D68 hE hG hW hrun hFix hI1.mv (fun c _ hc=>hfplow c hc);have hbl:bs.length=ids.length:=eC hbs;have hW1:W w1:=hE.world _ _ (fun b hb=>hstay b (As hb (Aw hI.ng hI.size))) (hI.world hE hW);have hcv:=(hI1.ev hG 0 f).1;rw[hx]at hcv;simp only[C1]at hcv;obtain⟨vs,hfv,hvs⟩:=hcv;rw[pD,if_pos hlt]at hfv;have hvs1:B9 M1 β1 caps1 vs:=O2 (V3 (by rw[<-hβ1];exact A29) 4) hcaps1 hvs;have hvs2:B9 X2.M0 X2.lb caps2 vs:=aW (vH (M:=M1) (M2:=X2.M0) rfl rfl (fH (β:=β1)) 4) hcaps2 hvs1
 have hfoot:∀c,B8l ids β1 κ1 f3 l c->c<w1.heap.size/\∀i,G0 β1 ids i≠some c:=fun c hc=>by
  rcases hc with⟨id,hid,hc⟩|⟨t,ht⟩|hc|rfl
  ·refine⟨hpI.box_lt hc,fun i hi=>?_⟩;obtain⟨id',q1,q2⟩:=D2 hi;have:=hFix.binj _ _ c hc q2;subst this;exact hid (Bi q1)
  ·refine⟨hpI.khigh t c ht,fun i hi=>?_⟩;obtain⟨id',q1,q2⟩:=D2 hi;exact hpI.kbox t c id' c ht q2 rfl
  ·refine⟨(hLW.flow c hc).1,fun i hi=>?_⟩;obtain⟨id',q1,q2⟩:=D2 hi;exact hLW.fβ id' c q2 hc
  ·refine⟨N6 hl1,fun i hi=>?_⟩;obtain⟨id',q1,q2⟩:=D2 hi;exact hLW.lβ id' q2
 obtain⟨hent,hcall⟩:=hIn.call X2 (tP ids nps (mR n al st.ρ) run) bs (.fr bx1 none st.out) (.yld::caps2) (.func (.yield l) #[] #[]::vs) bs' (.fr bx2 j o2) v (B8l ids β1 κ1 f3 l) hW1 (Aw hI.ng hI1.size) (gO.chy (M:=M1) (M2:=X2.M0) rfl rfl (hG.mono hI1.le0)) (B9r hrunN) (by rw[hbl];exact hY2)
  (A4f hpI.toInvB (W2 hdist) hbs rfl rfl) ⟨bx1,none,st.out,κ1,f3,f0,rfl,rfl,fun c=>Iff.rfl,hLW⟩
  (fun c hc=>⟨(hfoot c hc).1,hI.lowng (A3d hLW hFix.low hc),(hfoot c hc).2⟩) hbl.symm rfl (by simp only[B9];exact⟨_,_,rfl,rfl,hvs2⟩) hFy
 have hargs:(Value.func (.yield l) #[] #[]::vs).toArray=#[Value.func (.yield l) #[] #[]]++vs.toArray:=by apply Array.ext';simp
 rw[hargs]at hent hcall;refine⟨l,mark,w1,{target:=.fn (.func fid) vs.toArray,args:=#[.func (.yield l) #[] #[]]},w1,fid,#[Value.func (.yield l) #[] #[]]++vs.toArray,w1,he,?_,fun _ _=>F5v ro _,?_,?_,?_⟩
 ·simp only[resolve,hfv];simp[go_sem]
 ·have hent':(callFunc fid (#[Value.func (.yield l) #[] #[]]++vs.toArray)).run en.P w1=.ok (.enter fid (#[Value.func (.yield l) #[] #[]]++vs.toArray)) w1:=hent;simp only[invoke];exact hent'
 ·intro hd;simp[FR,Fence.wide]at hd
 ·have hc2:=callsIn_wide (n:=0-1).2 hcall;have hc3:∀R,CallsIn Fence.wide (0-1) en.P fid (#[Value.func (.yield l) #[] #[]]++vs.toArray) w1 R->CallsIn (FR ro) (0-1) en.P fid (#[Value.func (.yield l) #[] #[]]++vs.toArray) w1 R:=fun R h=>h;refine CallsIn.mono (hc3 _ hc2) ?_
  rintro e w3 ⟨v3,rfl,U3,f3',g1,g2,g3,g4,g5,g6⟩
  obtain⟨bx2',fin,o2',κ3,f33,f03,e1,e2,e3,hLW3⟩:=g4;injection e1 with e11 e12 e13;subst e11;subst e12;subst e13
  let M3:C4:=⟨w3,U3,X2.M0.y⟩
  have hlr:w3.heap[l]? =some (.loop (aY fn a.tmps nps assign body D0 j)):=hLW3.lrec
  have hnb:(aY fn a.tmps nps assign body D0 j).state≠.busy:=by cases j<;>simp[aY]
  obtain⟨mX,halive⟩:=hLW3.close (M:=M3) (yo:=M1.y) hFix.nd g2 hbl' hbs2 hFix.mem
  let M3o:C4:=M3.as' M1.y
  have hmv3:H8 M1 M3o fp:=by
   have:=g1.as' M1.y;exact this
  have hmvX3:H8 X.M0 M3o X.fp:=hI1.mv.trans hmv3 (fun c hc he=>by
   rcases hfplow c he with h|h
   ·omega
   ·exact h)
  have hIo:I0 NG X ⟨mR n al st.ρ,E1 (cB ids bs2) (fL n bx2),o2⟩ {a with defers:=mark++a.defers} M3o β1 κ3:=by
   refine⟨?_,?_⟩
   ·exact
    {mv:=hmvX3
     ng:=hI.ng
     fpng:=hI.fpng
     len:=hpI.len
     slot:=fun t x hx=>let⟨v,k1,k2,k3⟩:=hFix.slot t x hx;⟨v,k1,k2.later hmv3.le,k3 _ _⟩
     box:=fun id c hc=>by
      obtain⟨cs,arr,e,k1,k2,k3,k4⟩:=mX id c hc;exact⟨cs,arr,e,k1,k2,k3,k4,hFix.low id c hc⟩
     alive:=halive
     binj:=hFix.binj
     kinj:=hLW3.kinj
     kbox:=hLW3.kbox
     klow:=hLW3.klow
     khigh:=hLW3.khigh}
   ·refine⟨hpI.out.lent,fun h0=>?_,f33,f03,hLW3.J,hLW3.f01,hLW3.marks,hLW3.flow,hLW3.fβ,hLW3.fκ⟩;simp only[hρl,Q7,uP,e2];have:=hFix.npX;omega
  have hmp:H8 M3o ⟨M3o.w.putObj l (.loop {aY fn a.tmps nps assign body D0 j with state:=.exhausted}),M3o.U,M3o.y⟩ (fun c=>c=l):=xL (show M3o.w.heap[l]? =_ from hlr) rfl;have hB4:=InvB.lend (o':=o2) hIo hmp (fun b hb=>⟨by rw[hb];exact hLW3.llow,fun c hc=>hLW3.lκ c (by rw[hc,hb])⟩) (fun _ _ h=>h) (bx':=E1 (cB ids bs2) (fL n bx2)) (fun id b hb=>.inl ⟨hb,fun e=>hLW3.lβ id (by rw[hb,e]),rfl⟩) hIo.alive hIo.binj
  have hI4:I0 NG X ⟨mR n al st.ρ,E1 (cB ids bs2) (fL n bx2),o2⟩ {a with defers:=mark++a.defers} ⟨M3o.w.putObj l (.loop {aY fn a.tmps nps assign body D0 j with state:=.exhausted}),M3o.U,M3o.y⟩ β1 κ3:=by
   refine⟨hB4,hIo.out.lent,hIo.out.room,f33,f03,X.stab hLW3.J (fun b hb=>hmp.block b (hLW3.flow b (hLW3.f01 b hb)).1 (fun e=>hLW3.lf (by rw[<-e];exact hLW3.f01 b hb))) hmp.le hmp.size,hLW3.f01,⟨?_⟩,fun b hb=>⟨As (hLW3.flow b hb).1 hmp.size,(hLW3.flow b hb).2⟩,hLW3.fβ,hLW3.fκ⟩;obtain⟨Ds,k1,k2,k3⟩:=hLW3.marks.ex;exact⟨Ds,k1,k2,fun D hD=>⟨(k3 D hD).1,(k3 D hD).2.1,(hmp.block D (N6 (k3 D hD).2.2.1) (fun e=>hLW3.lf (by rw[<-e];exact(k3 D hD).1))).1.trans (k3 D hD).2.2.1,(k3 D hD).2.2.2⟩⟩
  refine⟨_,_,run_endLoop hlr hnb,?_⟩;have hq:=hn j _ _ _ _ _ hI4 h
  cases j with
  |none=>exact hq
  |some j =>
   cases j with
   |ret=>exact wpIn_ret hq
   |exit id=>exact wpIn_exit hq
end
end Go.Proofs.YtkpfigikffphdaaGreatDoor
namespace Go.Proofs.YtkpfigikffphdaaGreatDoor
open Go.RowKit
section
variable {en:K6} {ops:Array Oper}
def B3w (P:Program)(ops:Array Oper)(acts:List C7)(i j:Nat):Prop:=∀oi oj,ops[i]? =some oi->ops[j]? =some oj->(∃n,eR ops n j i=true)\/oi.apart ops oj=true/\dY oi.dst oj.dst (R9 P oi) (R9 P oj) (nV acts i) (nV acts j)=true
theorem B3g (hE:en.nat){acts:List C7}{Q:St->Prop}(hind:∀i j,i<j->j<ops.size->B3w en.P ops acts i j)(hafter:∀k o,ops[k]? =some o->∀e∈o.after,Region.binds .any e=true->e.on<k):∀(l:List Oper) (as':List C7) (k:Nat) (listed:Array Bool) (st st':St),(∀j,l[j]? =ops[k+j]?)->(∀j,as'[j]? =acts[k+j]?)->
  (∀j,j<k->listed.getD j true=true)->(∀j,k<=j->j<ops.size->listed.getD j true=false)->listed.size=ops.size->k<=ops.size->qV ops listed->jF en ops l as' st st'->Q st'->D7h en ops (nV acts) Q l.length listed st
 |[],[],k,listed,st,st',hl,_,hlist,_,_,_,_,h,hQ=>by
  simp only[jF]at h;subst h;refine⟨?_,hQ⟩
  have hk:ops[k]? =none:=by simpa using(hl 0).symm
  have hk:ops.size<=k:=by simpa using hk
  refine List.eq_nil_iff_forall_not_mem.2 fun j hj=>?_;obtain⟨h1,o,h2,_⟩:=mem_ready.1 hj;rw[hlist j (As (Bu.1 h2).1 hk)]at h1
  cases h1
 |o::l,act::as',k,listed,st,st',hl,ha,hlist,hnot,hsz,hkk,hcl,h,hQ=>by
  have h0:ops[k]? =some o:=by simpa using(hl 0).symm
  have ha0:nV acts k=act:=by
   have:=ha 0;simp only[Dn,Dg]at this;simp[nV,List.getD,<-this]
  obtain⟨st1,h1,h2⟩:=h;have hk:k<ops.size:=(Bu.1 h0).1
  have hr':k∈Region.ready .any ops listed:=by
   refine mem_ready.2 ⟨hnot k (Ak _) hk,o,h0,fun e he hb=>?_⟩;have hlt:=hafter k o h0 e he hb;have:=hlist e.on hlt
   have hs:e.on<listed.size:=by omega
   simp only[Array.getD_eq_getD_getElem?]at this ⊢;rw[Array.getElem?_eq_getElem hs]at this ⊢;exact this
  refine B89 hE h0 l.length listed st st1 hcl ?_ hr' (by rw[ha0];exact h1) ?_
  ·intro j oj hj hne hun hnoT
   have hlt:k<j:=by
    rcases Dx j k with h' |h'
    ·rw[hlist j h']at hun;cases hun
    ·omega
   rcases hind k j hlt (Bu.1 hj).1 o oj h0 hj with⟨n,hn⟩|h'
   ·rw[hnoT n]at hn;cases hn
   ·exact h'
  ·refine B3g hE hind hafter l as' (k+1) _ st1 st' (fun j=>by have:=hl (j+1);simpa [Nat.add_assoc,Nat.add_comm 1 j]using this) (fun j=>by have:=ha (j+1);simpa [Nat.add_assoc,Nat.add_comm 1 j]using this) (fun j hj=>?_) (fun j hj hj2=>?_) (by simpa using hsz) hk (sB hcl hr') h2 hQ
   ·by_cases hjk:k=j
    ·subst hjk
     by_cases hs:k<listed.size
     ·simp[hs]
     ·simp[Array.getElem?_eq_none (by simpa using hs:(listed.setIfInBounds k true).size<=k)]
    ·rw[getD_set_ne true hjk];exact hlist j (by omega)
   ·rw[getD_set_ne true (by omega)];exact hnot j (by omega) hj2
 |[],_::_,_,_,_,_,_,_,_,_,_,_,_,h,_=>h.elim
 |_::_,[],_,_,_,_,_,_,_,_,_,_,_,h,_=>h.elim
theorem A7v (ops:Array Oper):qV ops (Ej ops.size false):=by
 intro k ok hk hl;have:=(Bu.1 hk).1;simp[this]at hl
theorem A5t {α:Type}(n:Nat)(f:Nat->α):B94 n f=f n:=by cases n<;>rfl
theorem A2k {ms:List Nat}{j x:Nat}:∀(l:List Edge),(l.foldr (fun e acc=>if Region.binds .any e then((if e.on<j then ms.getD (j-1-e.on) 0 else 0) |||(1 <<< e.on)) |||acc else acc) 0).testBit x=true->
  ∃e∈l,Region.binds .any e=true/\(e.on=x\/e.on<j/\(ms.getD (j-1-e.on) 0).testBit x=true)
 |[],h=>by simp at h
 |e::l,h=>by
  rw[List.foldr_cons]at h;split at h
  ·rename_i hb;rw[Nat.testBit_or,Nat.testBit_or,Cc,Cc]at h;rcases h with(h|h)|h
   ·split at h
    ·rename_i hlt;exact⟨e,An,hb,.inr ⟨hlt,h⟩⟩
    ·simp at h
   ·rw[Nat.one_shiftLeft,Nat.testBit_two_pow]at h;exact⟨e,An,hb,.inl (by simpa using h)⟩
   ·obtain⟨e',h1,h2⟩:=A2k l h;exact⟨e',Ap _ h1,h2⟩
  ·obtain⟨e',h1,h2⟩:=A2k l h;exact⟨e',Ap _ h1,h2⟩
theorem A41 {x:Nat}:∀{l:List Nat},(mU l).testBit x=l.contains x
 |[]=>by simp[mU]
 |t::l=>by
  simp only[mU];rw[Nat.testBit_or,Nat.one_shiftLeft,Nat.testBit_two_pow,A41,List.contains_cons];congr 1
  by_cases h:t=x
  ·subst h;simp
  ·simp[h,Ne.symm h]
theorem C4o {x y:Oper}:A94 x y (mU (x.looksAt ops)) (mU (y.looksAt ops))=x.apart ops y:=by
 unfold A94 Oper.apart
 cases x.dst<;>cases y.dst<;>simp only[A41]
theorem vR {P:Program}{o:Oper}{a:C7}{m L:Nat}:∀(ds:List (Oper×C7×Nat)) (n:Nat),ds.length=n+1->A12 P o a m L n ds=true->∀i d,i<=n->ds[n-i]? =some d->
  m.testBit i=true\/A94 d.1 o d.2.2 L=true/\dY d.1.dst o.dst (R9 P d.1) (R9 P o) d.2.1 a=true
 |[],n,hn,h,i,d,hi,hd=>by simp at hd
 |(oi,ai,Li)::ds,n,hn,h,i,d,hi,hd=>by
  simp only[A12,Ae,Cc]at h
  by_cases hin:i=n
  ·subst hin;rw[Nat.sub_self]at hd;simp at hd;subst hd;exact h.1
  ·rw[show n-i=(n-1-i)+1 by omega,Bz]at hd;exact vR ds (n-1) (by simp at hn;omega) h.2 i d (by omega) hd
theorem A4m {P:Program}{acts:List C7}:∀(l:List Oper) (as':List C7) (j:Nat) (ms:List Nat) (ds:List (Oper×C7×Nat)),(∀x,l[x]? =ops[j+x]?)->(∀x,as'[x]? =acts[j+x]?)->
  ms.length=j->(∀i x,i<ms.length->(ms.getD (ms.length-1-i) 0).testBit x=true->∃n,eR ops n i x=true)->
  ds.length=j->(∀i o,i<j->ops[i]? =some o->ds[j-1-i]? =some (o,nV acts i,mU (o.looksAt ops)))->
  A6b P ops l as' j ms ds=true->(∀k o,j<=k->ops[k]? =some o->∀e∈o.after,Region.binds .any e=true->e.on<k)/\∀i k,i<k->j<=k->k<ops.size->B3w P ops acts i k
 |[],[],j,ms,ds,hl,_,hj,hm,_,_,h=>by
  have hk:ops[j]? =none:=by simpa using(hl 0).symm
  have hk:ops.size<=j:=by simpa using hk
  exact⟨fun k o h1 h2=>by have:=(Bu.1 h2).1;omega,fun i k h1 h2 h3=>by omega⟩
 |o::l,a::as',j,ms,ds,hl,ha,hj,hm,hdl,hds,h=>by
  have h0:ops[j]? =some o:=by simpa using(hl 0).symm
  have ha0:nV acts j=a:=by
   have:=ha 0;simp only[Dn,Dg]at this;simp[nV,List.getD,<-this]
  simp only[A6b]at h;rw[Ae,A5t,A5t,Ae]at h;obtain⟨h1,h2,h3⟩:=h
  have hmj:∀x,(B7i ms j o).testBit x=true->∃n,eR ops n j x=true:=fun x hb=>by
   obtain⟨e,he,hbd,hx⟩:=A2k _ hb
   have he':e∈o.after:=by simpa using he
   rcases hx with hx|⟨hlt,hx⟩
   ·refine⟨1,?_⟩;simp only[eR,h0];exact Array.any_eq_true'.2 ⟨e,he',by simp[hbd,hx]⟩
   ·obtain⟨n,hn⟩:=hm e.on x (by omega) (by rw[hj];exact hx);refine⟨n+1,?_⟩;simp only[eR,h0];exact Array.any_eq_true'.2 ⟨e,he',by simp[hbd,hn]⟩
  obtain⟨r1,r2⟩:=A4m l as' (j+1) (B7i ms j o::ms) ((o,a,mU (o.looksAt ops))::ds) (fun x=>by have:=hl (x+1);rw[Bz]at this;rw[this];congr 1;omega)
   (fun x=>by have:=ha (x+1);rw[Bz]at this;rw[this];congr 1;omega) (by simp[hj]) (fun i x hi hb=>by
    by_cases hij:i=j
    ·subst hij;rw[Ac,hj,show i+1-1-i=0 by omega,List.getD_cons_zero]at hb;exact hmj x hb
    ·have hi':i<ms.length:=by rw[Ac]at hi;omega
     refine hm i x hi' ?_;rw[Ac,show ms.length+1-1-i=(ms.length-1-i)+1 by omega,List.getD_cons_succ]at hb
     exact hb) (by simp[hdl]) (fun i oi hi ho=>by
    by_cases hij:i=j
    ·subst hij;rw[h0]at ho;injection ho with ho;subst ho;rw[show i+1-1-i=0 by omega,Dn,ha0]
    ·rw[show j+1-1-i=(j-1-i)+1 by omega,Bz]
     exact hds i oi (by omega) ho) h3
  refine⟨fun k ok hk ho e he hb=>?_,fun i k hik hk hks oi ok hoi E4=>?_⟩
  ·by_cases hkj:k=j
   ·subst hkj;rw[h0]at ho;injection ho with ho;subst ho;rw[Bg]at h1;have:=h1 e (by simpa using he);simpa [hb]using this
   ·exact r1 k ok (by omega) ho e he hb
  ·by_cases hkj:k=j
   ·subst hkj;rw[h0]at E4;injection E4 with E4;subst E4;have:=vR ds (k-1) (by omega) h2 i _ (by omega) (hds i oi hik hoi);rcases this with q|⟨q1,q2⟩
    ·exact .inl (hmj i q)
    ·simp only at q1 q2;rw[C4o]at q1;rw[<-ha0]at q2;exact .inr ⟨q1,q2⟩
   ·exact r2 i k hik (by omega) hks oi ok hoi E4
 |[],_::_,_,_,_,_,_,_,_,_,_,h=>by simp[A6b]at h
 |_::_,[],_,_,_,_,_,_,_,_,_,h=>by simp[A6b]at h
end
section
variable {en:K6} {NG:Nat} {W:World->Prop}
theorem aE.nat (hE:aE en NG W):en.nat:=⟨fun f fn h=>(hE.fns f fn h).nat,fun f p h=>(hE.hns f p h).nat,fun f p h=>(hE.ins f p h).nat,fun f p h=>(hE.nns f p h).nat,fun f p h=>(hE.cns f p h).nat,hE.ynat⟩
theorem B0n:∀{as' bs:List C7},done as' bs->∀i,nV as' i=nV bs i\/nV as' i=.skip
 |[],[],_,i=>.inl rfl
 |a::as',b::bs,h,0=>h.1
 |a::as',b::bs,h,i+1=>by
  have:=B0n h.2 i;simpa [nV]using this
 |[],_::_,h,_=>h.elim
 |_::_,[],h,_=>h.elim
theorem B8v {di dj:Option Tmp}{fi fj:Bool}{a a' b b':C7}(h:dY di dj fi fj a b=true)(ha:a'=a\/a'=.skip)(hb:b'=b\/b'=.skip):dY di dj fi fj a' b'=true:=by
 rcases ha with rfl|rfl
 ·rcases hb with rfl|rfl
  ·exact h
  ·cases a'<;>first|rfl|(simp[dY]at h)
 ·rcases hb with rfl|rfl
  ·cases b'<;>first|rfl|(cases a<;>simp[dY]at h)
  ·rfl
theorem B9i {P:Program}{ops:Array Oper}{as' bs:List C7}(hd:done as' bs){i j:Nat}(h:B3w P ops bs i j):B3w P ops as' i j:=by
 intro oi oj hi hj;rcases h oi oj hi hj with k|⟨k1,k2⟩
 ·exact .inl k
 ·exact .inr ⟨k1,B8v k2 (B0n hd i) (B0n hd j)⟩
theorem B9c {R:Type}(hE:aE en NG W){X:Cx}(hG:gO en X.M0)(hW:Amb en NG W X){id:Nat}{ops:Array Oper}{draw:Bool}{st:St}{k:St->Option R}{r:R}(h:dQ en ops draw st k=some r)
  {a:Act} {M:C4} {β κ:Nat->Option Nat} (hI:I0 NG X st a M β κ) {Q:Exit->Act->World->Prop} (hn:∀st' a' M' β' κ',I0 NG X st' a' M' β' κ'->k st'=some r->Q .normal a' M'.w) {ro:Option Nat}:(Code.region id ops draw).wpIn (FR ro) 0 en.P Q a M.w:=by
 unfold dQ at h;obtain⟨E4,h⟩:=A5 h
 have E4:∀o∈ops.toList,A5f en.P o=true:=by simpa only[Bg]using E4
 cases draw with
 |false =>
  simp only[Bp,if_false]at h;obtain⟨acts,_,st',h1,_,h2⟩:=eI hE.nat _ _ _ _ _ _ _ _ A0h h;exact wpIn_region_list (C3i hE hG hW ops.toList acts st st' h1 E4 a M β κ hI fun a' M' β' κ' hI'=>hn st' a' M' β' κ' hI' h2)
 |true =>
  simp only[if_true]at h;obtain⟨acts,acts2,st',h1,hd,h2⟩:=eI hE.nat _ _ _ _ _ _ _ _ A0h h;obtain⟨hind2,h2⟩:=A5 h2;simp only[Bf,List.reverse_reverse]at hind2 h2;obtain⟨haf,hin⟩:=A4m (acts:=acts2) ops.toList acts2 0 [] [] (by simp) (by simp) rfl (fun i x hi=>by simp at hi) rfl (fun i o hi=>by omega) hind2;have hind:∀i j,i<j->j<ops.size->B3w en.P ops acts i j:=fun i j hij hj=>B9i hd (hin i j hij (Bh _) hj);have hany:=B3g hE.nat (Q:=fun s=>s=st') hind (fun k o=>haf k o (Bh _)) ops.toList acts 0 (Ej ops.size false) st st' (by simp) (by simp) (fun j hj=>absurd hj (by omega)) (fun j _ hj=>by simp[hj]) (by simp) (Bh _) (A7v ops) h1 rfl;refine wpIn_region_any hE.mixed ?_;have hI1:=hI.grow (M':=⟨M.w.drew,M.U,M.y⟩) (L4.world (Below.refl _ _).drew);have:=C38 hE hG hW (ro:=ro) (Q:=Q) E4 (fun s a M β κ hs hI'=>by subst hs;exact hn _ a M β κ hI' h2) ops.toList.length _ st hany a ⟨M.w.drew,M.U,M.y⟩ β κ hI1;simpa using this
theorem E0z {X:Cx}(hG:gO en X.M0){st:St}{a:Act}{M:C4}{β κ:Nat->Option Nat}(hI:I0 NG X st a M β κ){c:Operand}{t:Bool}(h:(ev en st 0 c).1=.bool t):a.eval c=.bool t:=by
 have:=(hI.ev hG 0 c).1;rw[h]at this;exact this
theorem pL {R:Type}{kp:Option zX}{st:St}{k:St->Option R}{r:R}(h:C2 kp st k=some r){X:Cx}(hp:X.np=0\/B8d kp=false){a:Act}{M:C4}{β κ:Nat->Option Nat}(hI:I0 NG X st a M β κ) :
  ∃st' β' κ',I0 NG X st' a M β' κ'/\k st'=some r:=by
 unfold C2 at h;split at h
 ·exact⟨st,β,κ,hI,h⟩
 ·split at h
  ·exact⟨_,_,_,hI.normA,h⟩
  ·split at h
   ·rename_i hpin
    have hnp:X.np=0:=by
     rcases hp with hp|hp
     ·exact hp
     ·exact Bool.noConfusion (hp.symm.trans (show B8d (some _)=true from hpin))
    split at h
    ·rename_i st1 h1;obtain⟨β',κ',hI1⟩:=hI.pinK hnp h1;exact⟨_,_,_,hI1,h⟩
    ·cases h
   ·obtain⟨E4,h⟩:=A5 h;exact⟨_,_,_,hI.norm E4,h⟩
theorem A3j {R:Type}{X:Cx}{k:St->Option R}{r:R}{a:Act}:∀(l:List (Nat×Bool)) (st:St) (M:C4) (β κ:Nat->Option Nat),zI l st k=some r->I0 NG X st a M β κ->
  ∃st' M' β',M'.w=M.w/\I0 NG X st' a M' β' κ/\k st'=some r
 |[],st,M,β,κ,h,hI=>⟨st,M,β,rfl,hI,h⟩
 |(t,b)::ts,st,M,β,κ,h,hI=>by
  simp only[zI]at h;split at h
  ·rename_i id off sz m c hs;split at h
   ·rename_i xs ha;obtain⟨hid,h⟩:=A5 h;obtain⟨hle,h⟩:=B8 h;simp only[decide_eq_true_eq]at hle;obtain⟨M1,β1,e1,hI1⟩:=hI.frz hs ha hid hle;obtain⟨st',M',β',e2,hI2,h2⟩:=A3j ts _ M1 β1 κ h hI1;exact⟨st',M',β',e2.trans e1,hI2,h2⟩
   ·cases h
  ·exact A3j ts st M β κ h hI
theorem C32 {R:Type}{X:Cx}{l:Option (List (Nat×Bool))}{st:St}{k:St->Option R}{r:R}{a:Act}{M:C4}{β κ:Nat->Option Nat}(h:A4s l st k=some r)(hI:I0 NG X st a M β κ) :
  ∃st' M' β',M'.w=M.w/\I0 NG X st' a M' β' κ/\k st'=some r:=by
 cases l with
 |none=>exact⟨st,M,β,rfl,hI,h⟩
 |some l=>exact A3j l st M β κ h hI
theorem A1q {T:Type}{k:Nat->T}:∀{ids:List Nat} {id:Nat} {g:T},(ids.map fun i=>(i,k i)).lookup id=some g->g=k id
 |[],id,g,h=>by cases h
 |i::ids,id,g,h=>by
  simp only[Cb,Ct]at h;split at h
  ·rename_i e
   have e:id=i:=by simpa using e
   injection h with h;rw[<-h,e]
  ·exact A1q h
theorem Z8 {a b:Bool}(h:(a||b)=false):a=false/\b=false:=by cases a<;>cases b<;>simp_all
theorem wD {R:Type}{b:Bool}{x:Option R}{r:R}(h:(if b then none else x)=some r):b=false/\x=some r:=by
 cases b with
 |true=>simp at h
 |false=>exact⟨rfl,by simpa using h⟩
theorem V8 (hE:aE en NG W){hs:B4}{fuel:Nat}:∀(c:Code) {R:Type} {X:Cx} (hG:gO en X.M0) (hW:Amb en NG W X) {ro:Option Nat} (hro:rW X ro) {kr:St->Option R} {r:R} (cur:Nat) (st:St) (kn:St->Option R) (kx:List (Nat×(St->Option R))),H0 en hs fuel c kr cur st kn kx=some r->(X.np=0\/W1 hs c cur=false)->
  ∀(a:Act) (M:C4) (β κ:Nat->Option Nat),I0 NG X st a M β κ->∀(Q:Exit->Act->World->Prop),
  (∀st' a' M' β' κ',I0 NG X st' a' M' β' κ'->kn st'=some r->Q .normal a' M'.w)->
  (∀id k,kx.lookup id=some k->∀st' a' M' β' κ',I0 NG X st' a' M' β' κ'->k st'=some r->Q (.exit id) a' M'.w)->
  (∀st' a' M' β' κ',I0 NG X st' a' M' β' κ'->kr st'=some r->Q .ret a' M'.w)->c.wpIn (FR ro) 0 en.P Q a M.w
 |.skip,R,X,hG,hW,ro,hro,kr,r,cur,st,kn,kx,h,hp,a,M,β,κ,hI,Q,hn,hx,hr=>wpIn_skip (hn st a M β κ hI h)
 |.label l,R,X,hG,hW,ro,hro,kr,r,cur,st,kn,kx,h,hp,a,M,β,κ,hI,Q,hn,hx,hr=>wpIn_label (hn st a M β κ hI h)
 |.ret,R,X,hG,hW,ro,hro,kr,r,cur,st,kn,kx,h,hp,a,M,β,κ,hI,Q,hn,hx,hr=>by
  simp only[H0]at h;obtain⟨st',M',β',e1,hI',h'⟩:=C32 h hI;rw[<-e1];obtain⟨aH,β2,κ2,hI2,h2⟩:=pL h' (hp.imp (fun h=>h) fun h=>h) hI';exact wpIn_ret (hr aH a M' β2 κ2 hI2 h2)
 |.exit id,R,X,hG,hW,ro,hro,kr,r,cur,st,kn,kx,h,hp,a,M,β,κ,hI,Q,hn,hx,hr=>by
  simp only[H0]at h;split at h
  ·rename_i k hk;exact wpIn_exit (hx id k hk st a M β κ hI h)
  ·cases h
 |.region id ops draw,R,X,hG,hW,ro,hro,kr,r,cur,st,kn,kx,h,hp,a,M,β,κ,hI,Q,hn,hx,hr=>by
  simp only[H0]at h;obtain⟨st',M',β',e1,hI',h'⟩:=C32 h hI;rw[<-e1];exact B9c hE hG hW h' hI' hn
 |.seq x y,R,X,hG,hW,ro,hro,kr,r,cur,st,kn,kx,h,hp,a,M,β,κ,hI,Q,hn,hx,hr=>by
  simp only[H0]at h;refine wpIn_seq (V8 hE x hG hW hro cur st _ kx h (hp.imp (fun h=>h) fun h=>(Z8 h).1) a M β κ hI _ ?_ ?_ ?_)
  ·intro st' a' M' β' κ' hI' h';exact V8 hE y hG hW hro cur st' kn kx h' (hp.imp (fun h=>h) fun h=>(Z8 h).2) a' M' β' κ' hI' Q hn hx hr
  ·intro id k hk st' a' M' β' κ' hI' h';exact hx id k hk st' a' M' β' κ' hI' h'
  ·intro st' a' M' β' κ' hI' h';exact hr st' a' M' β' κ' hI' h'
 |.cond c x y,R,X,hG,hW,ro,hro,kr,r,cur,st,kn,kx,h,hp,a,M,β,κ,hI,Q,hn,hx,hr=>by
  simp only[H0]at h;split at h
  ·rename_i t ht;have hc:=E0z hG hI ht
   cases t with
   |true=>exact wpIn_cond_true hc (V8 hE x hG hW hro cur st kn kx h (hp.imp (fun h=>h) fun h=>(Z8 h).1) a M β κ hI Q hn hx hr)
   |false=>exact wpIn_cond_false hc (V8 hE y hG hW hro cur st kn kx h (hp.imp (fun h=>h) fun h=>(Z8 h).2) a M β κ hI Q hn hx hr)
  ·cases h
 |.block id x,R,X,hG,hW,ro,hro,kr,r,cur,st,kn,kx,h,hp,a,M,β,κ,hI,Q,hn,hx,hr=>by
  simp only[H0]at h;have HP:X.np=0\/B8d (hs.block.lookup id)=false:=hp.imp (fun h=>h) fun h=>(Z8 h).1;refine wpIn_block (V8 hE x hG hW hro id st _ _ h (hp.imp (fun h=>h) fun h=>(Z8 h).2) a M β κ hI _ ?_ ?_ ?_)
  ·intro st' a' M' β' κ' hI' h';obtain⟨aH,β2,κ2,hI2,h2⟩:=pL h' HP hI';exact hn aH a' M' β2 κ2 hI2 h2
  ·intro id' k hk st' a' M' β' κ' hI' h';rw[Ct]at hk
   by_cases e:id'=id
   ·subst e;simp only[BEq.rfl]at hk;injection hk with hk;subst hk;obtain⟨aH,β2,κ2,hI2,h2⟩:=pL h' HP hI';simp only[Exit.inBlock,if_true];exact hn aH a' M' β2 κ2 hI2 h2
   ·have:(id'==id)=false:=by simpa using e
    rw[this]at hk;simp only[Exit.inBlock,if_neg e];exact hx id' k hk st' a' M' β' κ' hI' h'
  ·intro st' a' M' β' κ' hI' h';exact hr st' a' M' β' κ' hI' h'
 |.loop x,R,X,hG,hW,ro,hro,kr,r,cur,st,kn,kx,h,hp,a,M,β,κ,hI,Q,hn,hx,hr=>by
  simp only[H0]at h;have HP:X.np=0\/B8d (hs.loop.lookup cur)=false:=hp.imp (fun h=>h) fun h=>(Z8 h).1;obtain⟨aH,β2,κ2,hI2,h2⟩:=pL h HP hI;clear h hI;refine wpIn_loop_rounds fuel ?_
  have key:∀(n:Nat) (st:St) (a:Act) (M:C4) (β κ:Nat->Option Nat),I0 NG X st a M β κ->iT (hs.loop.lookup cur) (fun st kn'=>H0 en hs fuel x kr cur st kn' kx) n st=some r->Code.roundsIn (FR ro) 0 en.P x Q n a M.w:=by
   intro n
   induction n with
   |zero=>intro st a M β κ hI h;simp[iT]at h
   |succ n ih =>
    intro st a M β κ hI h;simp only[iT]at h;rw[roundsIn_succ];refine V8 hE x hG hW hro cur st _ kx h (hp.imp (fun h=>h) fun h=>(Z8 h).2) a M β κ hI _ ?_ ?_ ?_
    ·intro st' a' M' β' κ' hI' h';obtain⟨st3,β3,κ3,hI3,h3⟩:=pL h' HP hI';exact ih st3 a' M' β3 κ3 hI3 h3
    ·intro id k hk st' a' M' β' κ' hI' h';exact hx id k hk st' a' M' β' κ' hI' h'
    ·intro st' a' M' β' κ' hI' h';exact hr st' a' M' β' κ' hI' h'
  exact key fuel aH a M β2 κ2 hI2 h2
 |.rangeFunc f np assign body,R,X,hG,hW,ro,hro,kr,r,cur,st,kn,kx,h,hp,a,M,β,κ,hI,Q,hn,hx,hr=>by
  simp only[H0]at h;obtain⟨hpn,h⟩:=wD h;refine C4b hE hG hW hro (C7o hE.nat) ?_ h hI ?_
  ·intro S X1 X2 l st1 k s hG1 hW1 hro1 hG2 hW2 hro2 hs a1 M1 β1 κ1 hI1 hbeg Q1 hQ1;refine V8 hE assign hG1 hW1 hro1 0 st1 _ [] hs (.inr (Z8 hpn).1) a1 M1 β1 κ1 hI1 _ ?_ ?_ ?_
   ·intro st' a' M' β' κ' hI' h';obtain⟨M2,hb1,hb2⟩:=hbeg st' a' M' β' κ' hI';refine⟨_,hb1,V8 hE body hG2 hW2 hro2 0 st' _ _ h' (.inr (Z8 hpn).2) a' M2 β' κ' hb2 Q1 ?_ ?_ ?_⟩
    ·intro st'' a'' M'' β'' κ'' hI'' h'';exact hQ1 none st'' a'' M'' β'' κ'' hI'' h''
    ·intro id g hg st'' a'' M'' β'' κ'' hI'' h'';rw[A1q hg]at h'';exact hQ1 (some (.exit id)) st'' a'' M'' β'' κ'' hI'' h''
    ·intro st'' a'' M'' β'' κ'' hI'' h'';exact hQ1 (some .ret) st'' a'' M'' β'' κ'' hI'' h''
   ·intro id g hg
    cases hg
   ·intro st' a' M' β' κ' _ h'
    cases h'
  ·intro j st' a' M' β' κ' hI' h';rcases j with _|(_|id)
   ·exact hn st' a' M' β' κ' hI' h'
   ·exact hr st' a' M' β' κ' hI' h'
   ·simp only at h';split at h'
    ·rename_i k hk;exact hx id k hk st' a' M' β' κ' hI' h'
    ·cases h'
 |.scope _,_,_,_,_,_,_,_,_,_,_,_,_,h,_,_,_,_,_,_,_,_,_,_=>by simp[H0]at h
 |.goto _,_,_,_,_,_,_,_,_,_,_,_,_,h,_,_,_,_,_,_,_,_,_,_=>by simp[H0]at h
 |.refuse _,_,_,_,_,_,_,_,_,_,_,_,_,h,_,_,_,_,_,_,_,_,_,_=>by simp[H0]at h
end
end Go.Proofs.YtkpfigikffphdaaGreatDoor
namespace Go.Proofs.YtkpfigikffphdaaGreatDoor
open Go.RowKit
section
variable {en:K6} {NG:Nat} {W:World->Prop}
def R5 (P:Program)(tmps:Array Value):ResultVar->Sem Value
 |.tmp t=>pure (tmps.getD t undef)
 |.cell a t=>do loadVar t (<-asAddr (tmps.getD a undef))
open Classical in
noncomputable def C4.frozen (M:C4) (β:Nat->Option Nat):C4:=⟨M.w,fun b=>if ∃id,β id=some b then(match M.w.heap[b]? with|some (.cells arr _ _)=>arr.size|_=>0)else M.U b,M.y⟩
theorem C4.frozen_other {M:C4}{β:Nat->Option Nat}{b:Nat}(h:∀id,β id≠some b):(M.frozen β).U b=M.U b:=by
 simp only[C4.frozen];rw[if_neg (fun⟨id,h'⟩=>h id h')]
theorem C4.frozen_box {M:C4}{β:Nat->Option Nat}{b id:Nat}{arr:Array Value}{e:TypeId}{fr:Nat×Nat}(h:β id=some b)(hh:M.w.heap[b]? =some (.cells arr e fr)):(M.frozen β).U b=arr.size:=by
 simp only[C4.frozen];rw[if_pos ⟨id,h⟩,hh]
theorem I0.le_frozen {X:Cx}{st:St}{a:Act}{M:C4}{β κ:Nat->Option Nat}(hI:I0 NG X st a M β κ):M.le (M.frozen β):=by
 refine⟨fun b o u h1 h2=>⟨h1,?_⟩,rfl,fun _ _ h=>h⟩
 by_cases h:∃id,β id=some b
 ·obtain⟨id,h⟩:=h;obtain⟨_,_,_,_,_,_,k4,_⟩:=hI.box id b h;rw[k4]at h2;omega
 ·rw[C4.frozen_other (fun id e=>h ⟨id,e⟩)];exact h2
theorem D5s {X:Cx}{st:St}{a:Act}{M:C4}{β κ:Nat->Option Nat}(hI:I0 NG X st a M β κ){x y:PV}{v:Value}(h:frz st x=some y)(hr:C1 M β x v):B7 (M.frozen β) y v:=by
 unfold frz at h;split at h
 ·rename_i hd;injection h with h;subst h;exact B7.mono hI.le_frozen _ _ (hr.data hd)
 ·split at h
  ·rename_i id off hx;split at h
   ·rename_i cs hbx;obtain⟨had,h⟩:=A5 h;simp only[Ae,Et]at had;injection h with h;subst h;simp only[C1]at hr;obtain⟨b,hb,rfl⟩:=hr;obtain⟨cs1,arr,e,k1,k2,k3,k4,k5⟩:=hI.box id b hb;rw[hbx]at k1;injection k1 with k1;injection k1 with k1;subst k1;have hrel:=J6.rel had.1 (k3.cells had.2);refine⟨b,off,arr.drop off,rfl,?_,?_⟩
    ·rw[List.map_drop];exact(hrel.drop off).mono' hI.le_frozen
    ·intro j u hu;rw[Ca]at hu;refine⟨?_,?_⟩
     ·show M.w.cell? _=_;exact k2.cell hu
     ·obtain⟨tl,k2'⟩:=k2;rw[C4.frozen_box hb k2'];have:=(Aj.1 hu).1;simp;omega
   ·cases h
  ·cases h
theorem B9q {X:Cx}{st:St}{a:Act}{M:C4}{β κ:Nat->Option Nat}(hI:I0 NG X st a M β κ){r:ResultVar}{x:PV}(h:vU en st r=some x):∃v,(R5 en.P a.tmps r).run en.P M.w=.ok v M.w/\B7 (M.frozen β) x v:=by
 cases r with
 |tmp t =>
  simp only[vU]at h;split at h
  ·rename_i y hy;obtain⟨v,h1,h2,_⟩:=hI.slot t y hy;exact⟨v,by simp[R5,h1],D5s hI h h2⟩
  ·cases h
 |cell p t =>
  simp only[vU]at h;split at h
  ·rename_i id off c hp;split at h
   ·rename_i cs hbx;obtain⟨E4,h⟩:=A5 h;simp only[Ae,Cc,beq_iff_eq]at E4;have hT:G5 en.P t:=⟨E4.1⟩;obtain⟨dd,hd⟩:=hT.un;have hti:=aR hd;obtain⟨v,h1,h2,_⟩:=hI.slot p _ hp;simp only[C1]at h2;obtain⟨b,hb,he⟩:=h2;obtain⟨cs1,arr,e,k1,k2,k3,k4,k5⟩:=hI.box id b hb;rw[hbx]at k1;injection k1 with k1;injection k1 with k1;subst k1
    have hv:a.tmps.getD p undef=.pointer (some ⟨b,off,none⟩):=by rw[<-he];simp[h1]
    have hcell:∀n j u,((arr.take (off+n)).drop off)[j]? =some u->M.w.cell? ⟨b,off+j,none⟩=some u:=by
     intro n j u hu;rw[Ca,De]at hu;split at hu
     ·exact k2.cell hu
     ·cases hu
    cases hag:S9 en.P t
    ·rw[hag]at h;simp only[Bp,if_false]at h;obtain⟨hab,h⟩:=A5 h;have k3:=k3.cells (by simpa using hab);obtain⟨y,hy,hfr⟩:=A6 h;obtain⟨u,g1,g2,g3,g4⟩:=k3.2 off y hy
     have hl:=W8 (P:=en.P) (w:=M.w) (t:=t) (b:=b) (off:=off) (vs:=[u]) hti hT.un (by rw[E4.2.resolve_left (by simp[hag])];rfl) (fun j u' hj=>by
      cases j with
      |zero=>simp at hj;subst hj;rw[Dg];exact k2.cell g1
      |succ j=>simp at hj) (fun _=>rfl)
     exact⟨u,by simp only[R5,hv];simp[asAddr,hl,hag],D5s hI hfr g3⟩
    ·rw[hag]at h;simp only[if_true]at h;obtain⟨hle,h⟩:=A5 h;simp only[Ae,decide_eq_true_eq,Et]at hle;have k3:=k3.cells hle.2;injection h with h;subst h
     have hbo:J6 M β κ ((cs.take (off+F9 en.P t)).drop off) ((arr.take (off+F9 en.P t)).drop off):=by
      have e1:=k3.1;refine⟨by simp;omega,fun j x hx=>?_⟩;rw[Ca,De]at hx ⊢;split at hx
      ·rename_i hlt;obtain⟨u,q1,q2⟩:=k3.2 _ x hx;exact⟨u,by rw[if_pos hlt];exact q1,q2⟩
      ·cases hx
     have hr:=J6.rel hle.1.2 hbo;have hl:=W8 (P:=en.P) (w:=M.w) hti hT.un (b:=b) (off:=off) (vs:=(arr.take (off+F9 en.P t)).drop off) (by have:=k3.1;have:=hle.1.1;simp;omega) (hcell _) (by simp[hag]);refine⟨.agg ((arr.take (off+F9 en.P t)).drop off).toArray,by simp only[R5,hv];simp[asAddr,hl,hag],?_⟩;simp only[B7];exact⟨_,rfl,hr.mono' hI.le_frozen⟩
   ·cases h
  ·cases h
theorem qS {X:Cx}{st:St}{a:Act}{M:C4}{β κ:Nat->Option Nat}(hI:I0 NG X st a M β κ):∀{rs:List ResultVar} {xs:List PV},iJ en st rs=some xs->∃vs,(rs.mapM (R5 en.P a.tmps)).run en.P M.w=.ok vs M.w/\K9 (M.frozen β) xs vs
 |[],xs,h=>by
  simp only[iJ,Ah]at h;subst h;exact⟨[],rfl,rfl⟩
 |r::rs,xs,h=>by
  simp only[iJ]at h;split at h
  ·rename_i x hx;obtain⟨ys,hy,rfl⟩:=Am.1 h;obtain⟨v,h1,h2⟩:=B9q hI hx;obtain⟨vs,h3,h4⟩:=qS hI hy;exact⟨v::vs,by simp[List.mapM_cons,h1,h3],v,vs,rfl,h2,h4⟩
  ·cases h
theorem oS {P:Program}{fn:Func}{tmps:Array Value}{w:World}{vs:List Value}(h:(fn.results.toList.mapM (R5 P tmps)).run P w=.ok vs w):(results fn tmps).run P w=.ok (if h:vs.toArray.size=1 then vs.toArray[0]else .tuple vs.toArray) w:=by
 have e:(results fn tmps)=(do let vs <-fn.results.mapM (R5 P tmps);pure (if h:vs.size=1 then vs[0]else .tuple vs):Sem Value):=by
  unfold results;congr 1
 rw[e,Array.mapM_eq_mapM_toList];simp only[Sem.run_bind,Sem.run_map,h,Result.andThen_ok,Sem.run_pure]
theorem E97 {own:Bool}{fn:Func}{X:Cx}{st:St}{a:Act}{M:C4}{β κ:Nat->Option Nat}(hI:I0 NG X st a M β κ){r:PV}(h:iA en own fn st=some r) :
  ∃v,(results fn a.tmps).run en.P M.w=.ok v M.w/\B7 (M.frozen β) r v/\(own=true->∃nl sz n cells,r=.sl nl sz n cells/\(yN v\/∃g,X.low g/\bO (M.frozen β) g sz v)):=by
 unfold iA at h;obtain⟨hcl,h⟩:=A5 h;split at h
 ·rename_i x hx;injection h with h;subst h;obtain⟨vs,h1,h2⟩:=qS hI hx;simp only[K9]at h2;obtain⟨u,us,rfl,h3,rfl⟩:=h2;have hrun:=oS h1;simp only[List.size_toArray,List.length_singleton,dite_true]at hrun;refine⟨u,by simpa using hrun,h3,fun ho=>?_⟩;subst ho;simp only[Bool.not_true,Bool.false_or]at hcl;generalize hrs:fn.results.toList=rs at hcl hx h1;unfold B7p at hcl;split at hcl
  ·rename_i t;split at hcl
   ·rename_i nl sz n cells c hc;obtain⟨v,k1,k2,k3⟩:=hI.slot t _ hc;simp only[iJ,vU,hc]at hx;rcases k3 with k3|⟨nl',sz',n',cells',he,k3⟩
    ·have k4:c=0:=k3;rw[k4]at hcl
     cases hcl
    ·simp only[frz,PV.data,if_true,Aq,Ah,Cl,and_true]at hx;injection he with e1 e2 e3 e4;subst e2
     have hvu:v=u:=by
      simp only[List.mapM_cons,List.mapM_nil,R5,Sem.run_bind,Sem.run_pure,Result.andThen_ok]at h1;injection h1 with h1 _;injection h1 with h1 _;rw[<-h1];simp[k1]
     subst hvu;refine⟨nl,sz,n,cells,hx.symm,?_⟩;rcases k3 with k3|⟨h2,g,hk,ho⟩
     ·exact .inl k3
     ·obtain⟨n',cap,cur,e,q1,q2,q3,q4,q5,q6⟩:=ho.ex;exact .inr ⟨g,hI.klow _ g hk,⟨n',cap,cur,e,q1,q2,q3,q4,q5,(C4.frozen_other (fun id hb=>hI.kbox _ g id g hk hb rfl)).trans q6⟩⟩
   ·cases hcl
  ·cases hcl
 ·rename_i xs hne hx;injection h with h;subst h;obtain⟨vs,h1,h2⟩:=qS hI hx;have hl:=h2.length
  have hne1:¬vs.toArray.size=1:=by
   intro e;simp at e
   match xs,hl with
   |[x],_=>exact hne x rfl
   |[],hl=>simp at hl;omega
   |_::_::_,hl=>simp at hl;omega
  have hrun:=oS h1;rw[dif_neg hne1]at hrun;refine⟨_,hrun,by simp only[B7];exact⟨vs,rfl,h2⟩,fun ho=>?_⟩;subst ho;simp only[Bool.not_true,Bool.false_or]at hcl;generalize hrs:fn.results.toList=rs at hcl hx;unfold B7p at hcl;split at hcl
  ·rename_i t;simp only[iJ]at hx;split at hx
   ·simp only[Aq,Ah]at hx;exact(hne _ hx.symm).elim
   ·cases hx
  ·cases hcl
 ·cases h
theorem I0.unmark {X:Cx}{st:St}{a:Act}{M:C4}{β κ:Nat->Option Nat}(hI:I0 NG X st a M β κ){ds:List Deferred}(hd:a.defers=ds)(hds:∀d l,X.ds0=d::l->∀ds',ds≠d::ds'){d:Deferred}{ds':List Deferred}(hd':ds=d::ds') :
  ∃D,d=eO D/\M.w.heap[D]? =some (.deferred (some []))/\I0 NG X st {a with defers:=ds'} ⟨M.w.putObj D (.deferred none),M.U,M.y⟩ β κ:=by
 obtain⟨f,f0,hJ,h01,hmk,hlow,hfβ,hfκ⟩:=hI.out.ex;obtain⟨Ds,⟨A,B,k0,k1⟩,k2,k3⟩:=hmk.ex;rw[hd,hd']at k1
 obtain⟨D,Ds',e0,e1,e2⟩:∃D Ds',Ds=D::Ds'/\d=eO D/\fB X.ds0 Ds' ds':=by
  cases A with
  |cons D A =>
   simp only[Cb,Bk,Cl]at k1;exact⟨D,A++B,k0,k1.1,A,B,rfl,k1.2⟩
  |nil =>
   simp only[Ei,Cd]at k0 k1;rcases hx:X.ds0 with _|⟨d0,l0⟩
   ·rw[hx]at k1
    cases B with
    |nil=>cases k1
    |cons D B =>
     simp only[Cb,Cd,Cl]at k1;exact⟨D,B,k0,k1.1,[],B,rfl,by rw[k1.2];rfl⟩
   ·rw[hx]at k1;simp only[Bk,Cl]at k1;exact(hds d0 l0 hx ds' (by rw[hd',k1.1])).elim
 subst e0;obtain⟨q1,q2,q3,q4⟩:=k3 D (by simp);have hm:H8 M ⟨M.w.putObj D (.deferred none),M.U,M.y⟩ (fun c=>c=D):=xL q3 rfl;have hB:=InvB.lend (o':=st.out) hI hm (fun b hb=>⟨by rw[hb];exact(hlow D q1).2,fun c hc=>hfκ c b hc (by rw[hb];exact q1)⟩) (fun _ _ h=>h) (bx':=st.bx) (fun id b hb=>.inl ⟨hb,fun e=>hfβ id b hb (by rw[e];exact q1),rfl⟩) hI.alive hI.binj;have hnD:=(Dm.1 k2).1;refine⟨D,e1,q3,⟨⟨hB.mv,hB.ng,hB.fpng,hB.len,hB.slot,hB.box,hB.alive,hB.binj,hB.kinj,hB.kbox,hB.klow,hB.khigh⟩,hI.out.lent,hI.out.room,f,f0,X.stab hJ (fun b hb=>hm.block b (hlow b (h01 b hb)).1 (fun e=>q2 (by rw[<-e];exact hb))) hm.le hm.size,h01,⟨Ds',e2,(Dm.1 k2).2,fun D' hD'=>?_⟩,fun b hb=>⟨As (hlow b hb).1 hm.size,(hlow b hb).2⟩,hfβ,hfκ⟩⟩;obtain⟨r1,r2,r3,r4⟩:=k3 D' (by simp[hD']);exact⟨r1,r2,(hm.block D' (N6 r3) (fun e=>hnD (by rw[<-e];exact hD'))).1.trans r3,r4⟩
theorem jP {P:Program}{fn:Func}{R:Ending->World->Prop}{X:Cx}(hds0:X.ds0=[]){st:St}{β κ:Nat->Option Nat}:∀(ds:List Deferred) (a:Act) (M:C4),a.defers=ds->I0 NG X st a M β κ->
  (∀M',I0 NG X st {a with defers:=[]} M' β κ->∃v,(results fn a.tmps).run P M'.w=.ok v M'.w/\R (.returned v) M'.w)->LeavesInM (FR none) 0 P fn a.tmps R ds .returning M.w
 |[],a,M,hd,hI,h=>by
  have e:({a with defers:=[]}:Act)=a:=by rw[<-hd]
  exact h M (by rw[e];exact hI)
 |d::ds,a,M,hd,hI,h=>by
  obtain⟨D,e,q,hI'⟩:=hI.unmark hd (fun d0 l h=>by rw[hds0]at h;cases h) rfl;refine⟨by simp,.inl ⟨D,_,by rw[e];rfl,run_takeDeferred q,?_⟩⟩;exact jP hds0 ds {a with defers:=ds} ⟨M.w.putObj D (.deferred none),M.U,M.y⟩ rfl hI' h
theorem xK {P:Program}{f:FuncId}{fn:Func}{c:Code}{args:Array Value}{w:World}{R:Ending->World->Prop}(hf:P.funcs[f]? =some fn)(hb:fn.body=some c)
  (h:c.wpIn (FR none) 0 P (bodyPostM (FR none) 0 P fn R) {tmps:=args++Ej (fn.ntmps-args.size) undef,defers:=[]} w):Calls P f args w R :=
 callsIn_wide.1 (show CallsIn Fence.wide 0 P f args w R from callsIn_of_wp_marks (F:=FR none) hf hb trivial h)
theorem yX {M:C4}{β κ:Nat->Option Nat}{n:Nat}{xs:List PV}{vs:List Value}(hr:B9 M β xs vs):∀(t:Nat) (x:TV),(xs.map (fun x=>(x,0))++Bv (n-xs.length) ((.tuple [],0):TV))[t]? =some x->∃v,(vs.toArray++Ej (n-vs.toArray.size) undef)[t]? =some v/\C1 M β x.1 v/\N1 M κ x.1 x.2 v:=by
 intro t x hx;have hl:=hr.length
 by_cases h:t<xs.length
 ·rw[Bd (by simpa using h),Az]at hx;rcases ht:xs[t]? with _|y
  ·rw[ht]at hx;simp at hx
  ·rw[ht]at hx;simp only[Aq,Ah]at hx;subst hx;obtain⟨u,h1,h2⟩:=hr.get ht;refine⟨u,?_,h2,.inl rfl⟩;rw[Array.getElem?_append_left (by simp;omega)];simpa using h1
 ·rw[Bj (by simpa using h),List.getElem?_replicate]at hx;obtain⟨h2,hx⟩:=A5 hx;injection hx with hx;subst hx;refine⟨undef,?_,B5o,.inl rfl⟩;rw[Array.getElem?_append_right (by simp;omega),Array.getElem?_replicate,if_pos (by simp at h2 ⊢;omega)]
theorem C56 {M:C4}{n:Nat}{xs:List PV}{vs:List Value}(hng:NG<=M.w.heap.size)(hr:K9 M xs vs):I0 NG (Cx.lone M (fun _=>False)) (st0 n xs) {tmps:=vs.toArray++Ej (n-vs.toArray.size) undef,defers:=[]} M (fun _=>none) (fun _=>none) where
 mv:=H8.refl _ _
 ng:=hng
 fpng:=fun _ h=>h.elim
 len:=by simp[st0,hr.length]
 slot:=by
  intro t x hx;simp only[st0]at hx;exact yX (B9.of_relT hr) t x hx
 box:=by intro id b h;cases h
 alive:=by
  intro id cs h;simp only[st0,List.getElem?_replicate]at h;obtain⟨_,h⟩:=A5 h
  cases h
 binj:=by intro _ _ _ h;cases h
 kinj:=by intro _ _ _ h;cases h
 kbox:=by intro _ _ _ _ h;cases h
 klow:=by intro _ _ h;cases h
 khigh:=by intro _ _ h;cases h
 out:=⟨(fun _ _ h=>by cases h),(fun h=>absurd h (by simp[Cx.lone])),fun _=>False,fun _=>False,fun _ h=>h,fun _ h=>h,⟨[],fB.nil,Fk,(fun _ h=>by cases h)⟩,(fun _ h=>h.elim),(fun _ _ _ h=>h),(fun _ _ _ h=>h)⟩
theorem gU (hE:aE en NG W){X:Cx}(hW:W X.M0.w)(hy:en.Y=none):Amb en NG W X:=⟨hW,fun k y h=>by rw[hy]at h;cases h⟩
theorem rW.none {X:Cx}:rW X none:=fun _ h=>by cases h
theorem B7h (hE:aE en NG W)(hy:en.Y=none){f:FuncId}{fn:Func}(hf:en.P.funcs[f]? =some fn){h:B4}{fuel:Nat}{own:Bool}{M:C4}{xs:List PV}{vs:List Value}{r:PV}(hW:W M.w)(hng:NG<=M.w.heap.size)(hG:gO en M)(hr:K9 M xs vs)
  (hrun:C6 en h fuel own fn xs=some r):Calls en.P f vs.toArray M.w fun e w'=>∃v,e=.returned v/\∃U',L4 M ⟨w',U',M.y⟩ none/\B7 ⟨w',U',M.y⟩ r v/\(own=true->∃nl sz n cells,r=.sl nl sz n cells/\(yN v\/∃g,M.w.heap.size<=g/\bO ⟨w',U',M.y⟩ g sz v)):=by
 unfold C6 at hrun;split at hrun
 ·rename_i c hc
  have fin:∀st' a' M' β' κ',I0 NG (Cx.lone M (fun _=>False)) st' a' M' β' κ'->iA en own fn st'=some r->LeavesInM (FR none) 0 en.P fn a'.tmps (fun e w'=>∃v,e=.returned v/\∃U',L4 M ⟨w',U',M.y⟩ none/\B7 ⟨w',U',M.y⟩ r v/\(own=true->∃nl sz n cells,r=.sl nl sz n cells/\(yN v\/∃g,M.w.heap.size<=g/\bO ⟨w',U',M.y⟩ g sz v))) a'.defers .returning M'.w:=by
   intro st' a' M' β' κ' hI' h';refine jP rfl a'.defers a' M' rfl hI' fun M2 hI2=>?_;obtain⟨v,h1,h2,h3⟩:=E97 hI2 h';have hyy:M2.y=M.y:=hI2.mv.le.y
   have hmem:M2.frozen β'=⟨M2.w,(M2.frozen β').U,M.y⟩:=by
    show C4.mk M2.w _ M2.y=_;rw[hyy];rfl
   have hβ:∀id b,β' id=some b->M.w.heap.size<=b:=fun id b hb=>by
    obtain⟨_,_,_,_,_,_,_,hl⟩:=hI2.box id b hb;rcases hl with hl|hl
    ·exact hl
    ·exact hl.elim
   refine⟨v,h1,v,rfl,(M2.frozen β').U,?_,by rw[<-hmem];exact h2,fun ho=>?_⟩
   ·rw[<-hmem];have hm:=hI2.mv.none (fun _ h=>h);exact⟨hm.os,hm.tape,hm.output,hm.size,fun b hb _=>⟨(hm.block b hb (by simp)).1,(C4.frozen_other (fun id hb'=>by have:=hβ id b hb';have:b<M.w.heap.size:=hb;omega)).trans (hm.block b hb (by simp)).2⟩,C4.le_trans hm.le hI2.le_frozen⟩
   ·obtain⟨nl,sz,n,cells,e,q⟩:=h3 ho;refine⟨nl,sz,n,cells,e,q.imp id ?_⟩
    rintro⟨g,hg,ho⟩
    refine⟨g,?_,by rw[<-hmem];exact ho⟩;rcases hg with hg|hg
    ·exact hg
    ·exact hg.elim
  refine xK hf hc (V8 hE c (X:=Cx.lone M (fun _=>False)) hG (gU hE hW hy) rW.none 0 _ _ _ hrun (.inl rfl) _ M _ _ (C56 hng hr) _ ?_ ?_ ?_)
  ·intro st' a' M' β' κ' hI' h';exact fin st' a' M' β' κ' hI' h'
  ·intro id k hk;simp at hk
  ·intro st' a' M' β' κ' hI' h';exact fin st' a' M' β' κ' hI' h'
 ·cases hrun
theorem dP {P:Program}{f:FuncId}{fn:Func}(hf:P.funcs[f]? =some fn)(hb:fn.body.isSome=true)(hname:fn.name≠ "runtime.NumGoroutine")(vs:Array Value)(w:World):(callFunc f vs).run P w=.ok (.enter f vs) w:=by
 have hb':¬fn.body=none:=by intro e;rw[e]at hb;cases hb
 simp[callFunc,hf];rw[if_neg hname,if_neg hb']
theorem C8k.of_run {en':K6}(hE:aE en NG W)(hy:en.Y=none)(hP:en.P=en'.P)(hG:en.G=en'.G){f:FuncId}{fn:Func}(hf:en.P.funcs[f]? =some fn)(hb:fn.body.isSome=true)(hname:fn.name≠ "runtime.NumGoroutine"){p:D5}(hn:p.nat){h:B4}
  (hrun:∀xs r,p.F xs (R:=PV) some=some r->∃fuel,C6 en h fuel p.own fn xs=some r):C8k en' NG W f p where
 nat:=hn
 call:=by
  intro M xs vs r hW hng hg hr hF;obtain⟨fuel,hrun⟩:=hrun xs r hF
  have hg':gO en M:=by
   intro g cs hgc;rw[hG]at hgc;exact hg g cs hgc
  rw[<-hP];exact .inr ⟨dP hf hb hname _ _,B7h hE hy hf hW hng hg' hr hrun⟩
end
end Go.Proofs.YtkpfigikffphdaaGreatDoor
namespace Go.Proofs.YtkpfigikffphdaaGreatDoor
open Go.RowKit
section
variable {en:K6} {NG:Nat} {W:World->Prop}
theorem B2s {X:Cx}{st:St}{a:Act}{M:C4}{β κ:Nat->Option Nat}(hI:I0 NG X st a M β κ){r:ResultVar}{x:PV}(h:qQ en st r=some x):∃v,(R5 en.P a.tmps r).run en.P M.w=.ok v M.w/\C1 M β x v:=by
 cases r with
 |tmp t =>
  simp only[qQ]at h;split at h
  ·rename_i y hy;injection h with h;subst h;obtain⟨v,h1,h2,_⟩:=hI.slot t y hy;exact⟨v,by simp[R5,h1],h2⟩
  ·cases h
 |cell p t =>
  simp only[qQ]at h;split at h
  ·rename_i id off c hp;split at h
   ·rename_i cs hbx;obtain⟨E4,h⟩:=A5 h;simp only[Ae,Cc,beq_iff_eq]at E4;have hT:G5 en.P t:=⟨E4.1⟩;obtain⟨dd,hd⟩:=hT.un;have hti:=aR hd;obtain⟨v,h1,h2,_⟩:=hI.slot p _ hp;simp only[C1]at h2;obtain⟨b,hb,he⟩:=h2;obtain⟨cs1,arr,e,k1,k2,k3,k4,k5⟩:=hI.box id b hb;rw[hbx]at k1;injection k1 with k1;injection k1 with k1;subst k1
    have hv:a.tmps.getD p undef=.pointer (some ⟨b,off,none⟩):=by rw[<-he];simp[h1]
    have hcell:∀n j u,((arr.take (off+n)).drop off)[j]? =some u->M.w.cell? ⟨b,off+j,none⟩=some u:=by
     intro n j u hu;rw[Ca,De]at hu;split at hu
     ·exact k2.cell hu
     ·cases hu
    cases hag:S9 en.P t
    ·rw[hag]at h;simp only[Bp,if_false]at h;obtain⟨hab,h⟩:=A5 h;have k3:=k3.cells (by simpa using hab);obtain⟨y,hy,rfl⟩:=Am.1 h;obtain⟨u,g1,g2,g3,g4⟩:=k3.2 off y hy
     have hl:=W8 (P:=en.P) (w:=M.w) (t:=t) (b:=b) (off:=off) (vs:=[u]) hti hT.un (by rw[E4.2.resolve_left (by simp[hag])];rfl) (fun j u' hj=>by
      cases j with
      |zero=>simp at hj;subst hj;rw[Dg];exact k2.cell g1
      |succ j=>simp at hj) (fun _=>rfl)
     exact⟨u,by simp only[R5,hv];simp[asAddr,hl,hag],g3⟩
    ·rw[hag]at h;simp only[if_true]at h;obtain⟨hle,h⟩:=A5 h;simp only[Ae,decide_eq_true_eq,Et]at hle;have k3:=k3.cells hle.2;injection h with h;subst h
     have hbo:J6 M β κ ((cs.take (off+F9 en.P t)).drop off) ((arr.take (off+F9 en.P t)).drop off):=by
      have e1:=k3.1;refine⟨by simp;omega,fun j x hx=>?_⟩;rw[Ca,De]at hx ⊢;split at hx
      ·rename_i hlt;obtain⟨u,q1,q2⟩:=k3.2 _ x hx;exact⟨u,by rw[if_pos hlt];exact q1,q2⟩
      ·cases hx
     have hl:=W8 (P:=en.P) (w:=M.w) hti hT.un (b:=b) (off:=off) (vs:=(arr.take (off+F9 en.P t)).drop off) (by have:=k3.1;have:=hle.1;simp;omega) (hcell _) (by simp[hag]);refine⟨.agg ((arr.take (off+F9 en.P t)).drop off).toArray,by simp only[R5,hv];simp[asAddr,hl,hag],?_⟩;exact B02 hbo.one hbo.rels
   ·cases h
  ·cases h
theorem uR {X:Cx}{st:St}{a:Act}{M:C4}{β κ:Nat->Option Nat}(hI:I0 NG X st a M β κ):∀{rs:List ResultVar} {xs:List PV},F7 (qQ en st) rs=some xs->∃vs,(rs.mapM (R5 en.P a.tmps)).run en.P M.w=.ok vs M.w/\B9 M β xs vs
 |[],xs,h=>by
  simp only[F7,Ah]at h;subst h;exact⟨[],rfl,by simp only[B9]⟩
 |r::rs,xs,h=>by
  simp only[F7]at h;split at h
  ·rename_i x hx;split at h
   ·rename_i ys hy;injection h with h;subst h;obtain⟨v,h1,h2⟩:=B2s hI hx;obtain⟨vs,h3,h4⟩:=uR hI hy;exact⟨v::vs,by simp[List.mapM_cons,h1,h3],by simp only[B9];exact⟨v,vs,rfl,h2,h4⟩⟩
   ·cases h
  ·cases h
theorem B8z {M:C4}{β:Nat->Option Nat}{xs:List PV}{vs:List Value}(h:B9 M β xs vs):C1 M β (A2l xs) (if h:vs.toArray.size=1 then vs.toArray[0]else .tuple vs.toArray):=by
 have hl:=h.length
 match xs,vs,hl with
 |[x],[v],_ =>
  simp only[B9]at h;obtain⟨u,us,e,h1,_⟩:=h;injection e with e1 e2;subst e1;simpa [A2l]using h1
 |[],[],_=>exact C1.of_data (by simp[A2l,B7,K9])
 |x::y::xs,v::u::vs,_ =>
  have hne:¬(v::u::vs).toArray.size=1:=by simp
  rw[dif_neg hne];show C1 M β (if(x::y::xs).all PV.data then .tuple (x::y::xs)else .tupp (x::y::xs)) _;split
  ·rename_i hd;exact C1.of_data (by simp only[B7];exact⟨_,rfl,h.data hd⟩)
  ·simp only[C1];exact⟨_,rfl,h⟩
theorem C1t {fn:Func}{nl:Nat}{X:Cx}(hnl:X.np=nl){st:St}{a:Act}{M:C4}{β κ:Nat->Option Nat}(hI:I0 NG X st a M β κ){T:Type}{kk:List (List PV)->kC->PV->Option T}{r:T}(h:bZ en nl fn st kk=some r)(hlbT:∀j b,X.lb j=some b->j<nl) :
  ∃bs' x v β',kk bs' st.out x=some r/\(results fn a.tmps).run en.P M.w=.ok v M.w/\kJ M β' NG bs'/\nl<=bs'.length/\(∀j b,X.lb j=some b->β' j=some b)/\(∀j b,β' j=some b->(j<nl/\X.lb j=some b)\/X.M0.w.heap.size<=b)/\C1 M β' x v/\(∀j b,β' j=some b->∃id,β id=some b):=by
 unfold bZ at h;split at h
 case h_2=>cases h
 rename_i xs hxs;split at h
 case h_2=>cases h
 rename_i ids hids;obtain⟨hc,h⟩:=A5 h;simp only[Ae,beq_iff_eq]at hc;split at h
 case h_2=>cases h
 rename_i bs' ys hbs hys;obtain⟨vs,h1,h2⟩:=uR hI hxs;have hnd:=W2 hc.1
 have hat:∀j,j<nl->ids[j]? =some (st.ρ.length+j):=fun j hj=>by
  have e:=congrArg (fun l=>l[j]?) hc.2;simp only[aV hj,De,if_pos hj]at e;exact e
 have hgot:∀j b,X.lb j=some b->G0 β ids j=some b:=fun j b hb=>by
  have hj:=hlbT j b hb;obtain⟨cs,hcs⟩:=nL hbs _ (Bi (hat j hj));obtain⟨b2,hb2⟩:=hI.alive _ _ hcs;rcases hI.out.lent _ b2 hb2 with⟨j',e1,e2,e3⟩|⟨_,e2⟩
  ·have:j'=j:=by omega
   subst this;rw[hb]at e3;injection e3 with e3;subst e3;simp[G0,hat _ hj,hb2]
  ·exact(e2 j (by rw[hnl];exact hj) rfl).elim
 refine⟨bs',A2l ys,_,G0 β ids,h,oS h1,A4f hI.toInvB hnd hbs rfl rfl,?_,hgot,?_,B8z (O2 (V3 fH 4) hys h2),?_⟩
 ·rw[eC hbs];rcases Ed nl with h0|h0
  ·omega
  ·have:=(Aj.1 (hat (nl-1) (by omega))).1;omega
 ·intro j b hb;obtain⟨id,q1,q2⟩:=D2 hb;rcases hI.out.lent id b q2 with⟨j',e1,e2,e3⟩|⟨e1,_⟩
  ·left;rw[hnl]at e1;have:=bL hnd q1 (by rw[e2];exact hat j' e1);subst this;exact⟨e1,e3⟩
  ·exact .inr e1
 ·intro j b hb;obtain⟨id,_,q2⟩:=D2 hb;exact⟨id,q2⟩
theorem C68 {n nl:Nat}{lb:Nat->Option Nat}:∀j i,A9t n nl j=some i->∀b,lb j=some b->(if n<=i/\i<n+nl then lb (i-n)else none)=some b:=by
 intro j i h b hb;unfold A9t at h;obtain⟨h1,h⟩:=A5 h;injection h with h;subst h;rw[if_pos (by omega),show n+j-n=j by omega];exact hb
theorem tN {X:Cx}{bs:List (List PV)}{o:kC}{n:Nat}{xs:List PV}{vs:List Value}{st:St}(hst:C6t n bs o xs=some st)(hds0:X.ds0=[])(hnp:X.np=bs.length)(hng:NG<=X.M0.w.heap.size)(hB:kJ X.M0 X.lb NG bs)(hr:B9 X.M0 X.lb xs vs){f0:Nat->Prop}(hJ:X.J o X.M0 f0)
  (hf0:∀c,f0 c->c<X.M0.w.heap.size/\NG<=c/\∀j,X.lb j≠some c) (hfp:∀c,X.fp c↔f0 c\/∃j,X.lb j=some c) :
  ∃β0,I0 NG X st {tmps:=vs.toArray++Ej (n-vs.toArray.size) undef,defers:=[]} X.M0 β0 (fun _=>none)/\st.out=o:=by
 unfold C6t at hst;split at hst
 case h_2=>cases hst
 rename_i bs2 ys hbs2 hys;have hyl:ys.length=xs.length:=E6 hys;injection hst with hst;rw[hyl]at hst;subst hst;generalize hm:max xs.length n=m at *
 let β0:Nat->Option Nat:=fun i=>if m<=i/\i<m+bs.length then X.lb (i-m)else none
 have hβ0:∀i b,β0 i=some b->∃j,j<bs.length/\i=m+j/\X.lb j=some b:=fun i b h=>by
  obtain⟨h1,h⟩:=A5 h;exact⟨i-m,by omega,by omega,h⟩
 have hσ:=C68 (n:=m) (nl:=bs.length) (lb:=X.lb);have hr2:B9 X.M0 β0 ys vs:=O2 (V3 hσ 4) hys hr
 have hρ:(ys.map (fun x=>(x,0))++Bv (n-xs.length) ((.tuple [],0):TV)).length=m:=by
  simp only[List.length_append,By,List.length_replicate,hyl];omega
 have hvl:vs.length=xs.length:=hr.length.symm
 have hbx:∀i,(Bv m none++bs2.map (fun cs=>some (cs.map fun x=>((x,0):TV))))[m+i]? =(bs2[i]?).map fun cs=>some (cs.map fun x=>((x,0):TV)):=fun i=>by
  rw[Bj (by simp)];simp
 refine⟨β0,⟨?_,?_⟩,rfl⟩
 ·exact
  {mv :=H8.refl _ _
   ng:=hng
   fpng:=fun c hc=>by
    rcases(hfp c).1 hc with hc|⟨j,hj⟩
    ·exact(hf0 c hc).2.1
    ·have hlt:=hB.lt j c hj;obtain⟨c',_,_,q1,_,_,q2,_⟩:=hB.box j bs[j] (Ag hlt);rw[hj]at q1;injection q1 with q1;rw[q1];exact q2
   len:=by
    simp only[hρ];simp;omega
   slot:=by
    intro t x hx;have:=yX (n:=n) (κ:=fun _=>none) hr2 t x (by rw[hyl];exact hx);exact this
   box:=by
    intro id b hb;obtain⟨j,h1,rfl,h3⟩:=hβ0 id b hb;obtain⟨c',arr,e,q1,q2,q3,q4,q5⟩:=hB.box j bs[j] (Ag h1);rw[h3]at q1;injection q1 with q1;subst q1;obtain⟨cs2,p1,p2⟩:=J8 hbs2 j _ (Ag h1);refine⟨_,arr,e,by simp only[hbx,p1,Aq],q2,Y8.of_bs (A7y hσ q5 p2),q3,.inr ((hfp _).2 (.inr ⟨j,h3⟩))⟩
   alive :=by
    intro id cs hc;rcases Dx id m with hlt|hge
    ·rw[Bd (by simpa using hlt)]at hc;simp[hlt]at hc
    ·obtain⟨i,rfl⟩:∃i,id=m+i:=⟨id-m,by omega⟩;simp only[hbx]at hc;rcases hi:bs2[i]? with _|cs2
     ·rw[hi]at hc;cases hc
     ·have hlt:i<bs.length:=by rw[<-E6 hbs2];exact(Aj.1 hi).1
      obtain⟨c',_,_,q1,_⟩:=hB.box i bs[i] (Ag hlt);refine⟨c',?_⟩;show(if m<=m+i/\m+i<m+bs.length then X.lb (m+i-m)else none)=some c';rw[if_pos (by omega),show m+i-m=i by omega];exact q1
   binj:=by
    intro i j b h1 h2;obtain⟨i',a1,rfl,a3⟩:=hβ0 i b h1;obtain⟨j',b1,rfl,b3⟩:=hβ0 j b h2;rw[hB.inj i' j' b a3 b3]
   kinj:=by intro _ _ _ h;cases h
   kbox:=by intro _ _ _ _ h;cases h
   klow:=by intro _ _ h;cases h
   khigh:=by intro _ _ h;cases h}
 ·refine⟨fun id b hb=>?_,fun _=>?_,f0,f0,hJ,(fun _ h=>h),⟨[],by rw[hds0];exact fB.nil,Fk,(fun _ h=>by cases h)⟩,fun c hc=>⟨(hf0 c hc).1,.inr ((hfp c).2 (.inl hc))⟩,fun id b hb hc=>?_,(fun _ _ h=>by cases h)⟩
  ·obtain⟨j,h1,rfl,h3⟩:=hβ0 id b hb;exact .inl ⟨j,by rw[hnp];exact h1,by simp only[hρ],h3⟩
  ·simp only[hρ];simp[hnp,E6 hbs2]
  ·obtain⟨j,h1,rfl,h3⟩:=hβ0 id b hb;exact(hf0 b hc).2.2 j h3
theorem B0p.of_run {en':K6}(hE:aE en NG W)(hy:en.Y=none)(hP:en.P=en'.P)(hG:en.G=en'.G){f:FuncId}{fn:Func}(hf:en.P.funcs[f]? =some fn)(hb:fn.body.isSome=true)(hname:fn.name≠ "runtime.NumGoroutine"){p:H7}(hn:p.nat){h:B4}
  (hrun:∀bs xs r,p.F bs xs (R:=List (List PV)×PV) (fun b v=>some (b,v))=some r->∃fuel,C5 en h fuel fn bs xs (fun b v=>some (b,v))=some r):B0p en' NG W f p where
 nat:=hn
 call:=by
  intro M β bs xs vs bs' r hW hng hg hB hr hF;obtain⟨fuel,hrun⟩:=hrun bs xs (bs',r) hF
  have hg':gO en M:=by
   intro g cs hgc;rw[hG]at hgc;exact hg g cs hgc
  rw[<-hP];refine .inr ⟨dP hf hb hname _ _,?_⟩;unfold C5 at hrun;split at hrun
  case h_2=>cases hrun
  rename_i c st hc hst;obtain⟨hpn,hrun⟩:=wD hrun
  let X:Cx:=⟨M,fun b=>∃j,β j=some b,bs.length,bs.length,β,Ak _,fun _ _ f=>∀b,¬f b,fun h _ _ _=>h,[]⟩
  obtain⟨β0,hI,_⟩:=tN (X:=X) (f0:=fun _=>False) hst rfl rfl hng hB hr (fun _ h=>h) (fun _ h=>h.elim) (fun c=>⟨.inr,fun h=>h.elim (fun h=>h.elim) (fun h=>h)⟩)
  have fin:∀st' a' M' β' κ',I0 NG X st' a' M' β' κ'->bZ en bs.length fn st' (fun bs _ v=>some (bs,v))=some (bs',r)->LeavesInM (FR none) 0 en.P fn a'.tmps (fun e w'=>∃v,e=.returned v/\∃U' β',H8 M ⟨w',U',M.y⟩ (fun b=>∃j,β j=some b)/\kJ ⟨w',U',M.y⟩ β' NG bs'/\bs.length<=bs'.length/\(∀j b,β j=some b->β' j=some b)/\(∀j b,β' j=some b->β j=some b\/M.w.heap.size<=b)/\C1 ⟨w',U',M.y⟩ β' r v) a'.defers .returning M'.w:=by
   intro st' a' M' β' κ' hI' h';refine jP rfl a'.defers a' M' rfl hI' fun M2 hI2=>?_;obtain⟨bs2,x,v,β2,h1,h2,h3,h4,h5,h6,h7,_⟩:=C1t (nl:=bs.length) rfl hI2 h' (fun j b hb=>hB.lt j b hb);simp only[Ah,Dz]at h1;obtain⟨rfl,rfl⟩:=h1;have hyy:M2.y=M.y:=hI2.mv.le.y
   have hmem:M2=⟨M2.w,M2.U,M.y⟩:=by rw[<-hyy]
   refine⟨v,h2,v,rfl,M2.U,β2,?_,?_,h4,h5,fun j b hb=>(h6 j b hb).imp (fun h=>h.2) id,?_⟩
   ·rw[<-hmem];exact hI2.mv
   ·rw[<-hmem];exact h3
   ·rw[<-hmem];exact h7
  refine xK hf hc (V8 hE c (X:=X) hg' (gU hE hW hy) rW.none 0 _ _ _ hrun (.inr hpn) _ M _ _ hI _ ?_ ?_ ?_)
  ·intro st' a' M' β' κ' hI' h';exact fin st' a' M' β' κ' hI' h'
  ·intro id k hk;simp at hk
  ·intro st' a' M' β' κ' hI' h';exact fin st' a' M' β' κ' hI' h'
end
end Go.Proofs.YtkpfigikffphdaaGreatDoor
namespace Go.Proofs.YtkpfigikffphdaaGreatDoor
open Go.RowKit
def B0f:Code->Option (Array Oper×List Oper×Operand)
 |.region _ ops false =>
  match ops.toList.reverse with
  |o::pre =>
   match o.op with
   |.defer c=>match c.callee with
    |.value x=>if c.args.isEmpty&&o.guard.isNone&&o.dst.isNone then some (ops,pre.reverse,x)else none
    |_=>none
   |_=>none
  |_=>none
 |_=>none
theorem A8g {c:Code}{ops:Array Oper}{pre:List Oper}{x:Operand}(h:B0f c=some (ops,pre,x)) :
  ∃id o cl,c=.region id ops false/\ops.toList=pre++[o]/\o.op=.defer cl/\cl.callee=.value x/\cl.args=#[]/\o.guard=none/\o.dst=none:=by
 unfold B0f at h;split at h
 ·rename_i id ops';split at h
  ·rename_i o l hl;split at h
   ·rename_i cl ho;split at h
    ·rename_i y hc;obtain⟨hb,h⟩:=A5 h;simp only[Ae,Et]at hb;simp only[Ah,Dz]at h;obtain⟨rfl,rfl,rfl⟩:=h;refine⟨id,o,cl,rfl,?_,ho,hc,by simpa using hb.1.1,hb.1.2,hb.2⟩;have:=congrArg List.reverse hl;simpa using this
    ·cases h
   ·cases h
  ·cases h
 ·cases h
def wB (bx:List (Option (List TV))):PV->Bool
 |.ptr id _=>(cF bx id).isSome
 |_=>false
def zR {R:Type}(p:H7)(n:Nat)(caps:List PV)(st:St)(k:St->Option R):Option R :=
 if st.ρ.length=n&&caps.all (wB st.bx)then
  aX st.bx none p caps fun act=>match B0 act none st with
   |some st'=>k st'
   |none=>none
 else none
def X6 (en:K6) (D:FuncId->Option H7) (h:B4) (fuel:Nat):Code->{R:Type}->(St->Option R)->St->Option R
 |.seq a b,_,kr,st =>
  match B0f a with
  |some (ops,pre,x)=>
   if W1 h b 0 then none else
   if pre.all (A5f en.P)then
    W9 en ops pre [] st [] [] [] fun st _ =>
     match(ev en st 0 x).1 with
     |.clo fid caps =>
      match(if fid < 1000000 then D fid else none)with
      |some p=>B1r (A4d st.ρ.length st.bx) st fun bx =>
       match F7 (Q2 (A7h st.ρ.length (A4d st.ρ.length st.bx)) false 4) caps with
       |some caps=>H0 en h fuel b (fun st'=>zR p st.ρ.length caps st' kr) 0 ⟨mR st.ρ.length (A4d st.ρ.length st.bx) st.ρ,fL st.ρ.length bx,st.out⟩ (fun st'=>zR p st.ρ.length caps st' kr) []
       |none=>none
      |none=>none
     |_=>none
   else none
  |none=>if W1 h a 0 then none else H0 en h fuel a kr 0 st (fun st=>X6 en D h fuel b kr st) []
 |_,_,_,_=>none
def A1i {R:Type}(en:K6)(D:FuncId->Option H7)(h:B4)(fuel:Nat)(fn:Func)(bs:List (List PV))(args:List PV)(kk:List (List PV)->PV->Option R):Option R :=
 match fn.body,C6t fn.ntmps bs .nil args with
 |some c,some st=>X6 en D h fuel c (fun st=>bZ en bs.length fn st fun bs _ v=>kk bs v) st
 |_,_=>none
theorem kK {P:Program}{F:Fence}{n:Nat}{fn:Func}{tmps:Array Value}{R:Ending->World->Prop}:∀(ds:List Deferred) (w:World) (fr:Frame) (cs:List Frame),fr.mode=.returning->fr.defers=ds->fr.tmps=tmps->P.funcs[fr.fn]? =some fn->fr.kind=.deferred->F.fn fr.fn->F.room (cs.length+1+n)->
  LeavesInM F n P fn tmps R ds .returning w->(∀d∈ds,∃r,d.target=.collected r)->∃e w' fr',R e w'/\ComesIn (Machine.fenced P F) P (lone fr cs w) (lone fr' cs w') e/\fr'.kind=.deferred/\fr'.fn=fr.fn/\fr'.going P w' e
 |[],w,fr,cs,hm,hd,ht,hf,hk,hb,hroom,h,_=>by
  obtain⟨v,hr,hR⟩:=h;exact⟨.returned v,w,fr,hR,StepsIn.refl _,hk,rfl,hm,hd,fn,hf,ht ▸ hr⟩
 |d::ds,w,fr,cs,hm,hd,ht,hf,hk,hb,hroom,h,hds=>by
  obtain⟨r0,hr0⟩:=hds d (by simp);obtain⟨hrun,h⟩:=h;rcases h with⟨r,w',htar,htake,hrest⟩|⟨_,fv,cap,f,args,htar,_⟩
  ·have h1:=step_collected (cs:=cs) (by rw[hm];exact hrun) hd htar htake;have i1:(lone fr cs w).fenced P F:=fenced_out hb hroom (by rw[hm];exact hrun) hd (fun g hg=>by rw[htar]at hg;simp[Target.leads]at hg);obtain⟨e',w'',fr',hR',hs',hk',hfn',hl'⟩:=kK ds w' {fr with defers:=[]++ds} cs hm rfl ht hf hk hb hroom hrest (fun d' hd'=>hds d' (by simp[hd']));exact⟨e',w'',fr',hR',ComesIn.of_steps (.one i1 h1) hs',hk',hfn',hl'⟩
  ·rw[hr0]at htar
   cases htar
theorem qF {P:Program}{F:Fence}{n:Nat}{f:FuncId}{fn:Func}{c:Code}{args:Array Value}{w:World}{R:Ending->World->Prop}(hf:P.funcs[f]? =some fn)(hb:fn.body=some c)(hF:F.fn f)
  (h:c.wpIn F n P (fun e a w=>match e with
   |.normal|.ret=>LeavesInM F n P fn a.tmps R a.defers .returning w/\∀d∈a.defers,∃r,d.target=.collected r
   |_=>False) {tmps:=args++Ej (fn.ntmps-args.size) undef,defers:=[]} w) (hro:F.round=none:=by rfl) :
  CallsDIn F n P f args .returning w fun e u' w'=>u'=.returning/\R e w':=by
 refine⟨hF,fun c₀ cs hu hr=>?_⟩
 let b:Frame:={(default:Frame)with fn:=f,kind:=.deferred,roundOf:=none}
 have henter:Frame.enter P f args .deferred =
   b.atR {tmps:=args++Ej (fn.ntmps-args.size) undef,defers:=[]} [.code c]:=by
  simp[Frame.enter,Frame.atR,hf,hb,b]
 have hc:({c₀ with mode:=.returning}:Frame)=c₀:=by rw[<-hu]
 obtain⟨e,a',w',hq,harr⟩:=h b [] (c₀::cs) hro.symm hF hr;rw[<-henter]at harr
 cases e with
 |normal =>
  obtain⟨e',w'',fr',hR,hs,hk,hfn,hl⟩:=kK a'.defers w' {b.atR a' []with mode:=.returning} (c₀::cs) rfl rfl rfl hf rfl hF hr hq.1 hq.2;exact⟨e',.returning,w'',fr',⟨rfl,hR⟩,(by rw[hc];exact ComesIn.of_steps (StepsIn.trans harr (.one (fenced_calm (fr:=b.atR a' []) hF hr rfl) (stepR_end rfl))) hs),hk,hfn,hl⟩
 |ret =>
  obtain⟨todo,hs₀⟩:=harr.1 rfl;obtain⟨e',w'',fr',hR,hs,hk,hfn,hl⟩:=kK a'.defers w' {b.atR a' todo with mode:=.returning} (c₀::cs) rfl rfl rfl hf rfl hF hr hq.1 hq.2;exact⟨e',.returning,w'',fr',⟨rfl,hR⟩,(by rw[hc];exact ComesIn.of_steps hs₀ hs),hk,hfn,hl⟩
 |panic chain=>exact hq.elim
 |exit id=>exact hq.elim
 |goto l=>exact hq.elim
 |outgrown=>exact hq.elim
section
variable {en:K6} {NG:Nat} {W:World->Prop}
structure B84 (en:K6)(NG:Nat)(W:World->Prop)(f:FuncId)(p:H7):Prop where
 nat:p.nat
 call:∀(M:C4) (β:Nat->Option Nat) (bs:List (List PV)) (xs:List PV) (vs:List Value) (bs':List (List PV)) (r:PV),W M.w->NG<=M.w.heap.size->gO en M->kJ M β NG bs->B9 M β xs vs->p.F bs xs (R:=List (List PV)×PV) (fun b v=>some (b,v))=some (bs',r)->
  (callFunc f vs.toArray).run en.P M.w=.ok (.enter f vs.toArray) M.w/\CallsDIn (FR none) 0 en.P f vs.toArray .returning M.w fun e u' w'=>u'=.returning/\∃v,e=.returned v/\∃U' β',H8 M ⟨w',U',M.y⟩ (fun b=>∃j,β j=some b)/\kJ ⟨w',U',M.y⟩ β' NG bs'/\bs.length<=bs'.length/\(∀j b,β j=some b->β' j=some b)/\(∀j b,β' j=some b->β j=some b\/M.w.heap.size<=b)/\C1 ⟨w',U',M.y⟩ β' r v
theorem I0.marks {X:Cx}{st:St}{a:Act}{M:C4}{β κ:Nat->Option Nat}(hI:I0 NG X st a M β κ)(h0:X.ds0=[]):∀d∈a.defers,∃r,d.target=.collected r:=by
 obtain⟨f,f0,hJ,h01,hmk,hlow,hfβ,hfκ⟩:=hI.out.ex;obtain⟨Ds,⟨A,B,k0,k1⟩,k2,k3⟩:=hmk.ex;intro d hd;rw[k1,h0,Cd,<-List.map_append]at hd;obtain⟨D,_,rfl⟩:=List.mem_map.1 hd;exact⟨D,rfl⟩
theorem B95 {fn:Func}{M:C4}{β:Nat->Option Nat}{bs bs':List (List PV)}{r:PV}(hB:kJ M β NG bs){X:Cx}(hX:X=⟨M,fun b=>∃j,β j=some b,bs.length,bs.length,β,Ak _,fun _ _ f=>∀b,¬f b,fun h _ _ _=>h,[]⟩){st':St}{a':Act}{M':C4}{β' κ':Nat->Option Nat}(hI':I0 NG X st' a' M' β' κ')
  (h':bZ en bs.length fn st' (fun bs _ v=>some (bs,v))=some (bs',r)) :
  LeavesInM (FR none) 0 en.P fn a'.tmps (fun e w'=>∃v,e=.returned v/\∃U' β',H8 M ⟨w',U',M.y⟩ (fun b=>∃j,β j=some b)/\kJ ⟨w',U',M.y⟩ β' NG bs'/\bs.length<=bs'.length/\(∀j b,β j=some b->β' j=some b)/\(∀j b,β' j=some b->β j=some b\/M.w.heap.size<=b)/\C1 ⟨w',U',M.y⟩ β' r v) a'.defers .returning M'.w:=by
 subst hX;refine jP rfl a'.defers a' M' rfl hI' fun M2 hI2=>?_;obtain⟨bs2,x,v,β2,h1,h2,h3,h4,h5,h6,h7,_⟩:=C1t (nl:=bs.length) rfl hI2 h' (fun j b hb=>hB.lt j b hb);simp only[Ah,Dz]at h1;obtain⟨rfl,rfl⟩:=h1;have hyy:M2.y=M.y:=hI2.mv.le.y
 have hmem:M2=⟨M2.w,M2.U,M.y⟩:=by rw[<-hyy]
 refine⟨v,h2,v,rfl,M2.U,β2,?_,?_,h4,h5,fun j b hb=>(h6 j b hb).imp (fun h=>h.2) id,?_⟩
 ·rw[<-hmem];exact hI2.mv
 ·rw[<-hmem];exact h3
 ·rw[<-hmem];exact h7
theorem B84.of_run {en':K6}(hE:aE en NG W)(hy:en.Y=none)(hP:en.P=en'.P)(hG:en.G=en'.G){f:FuncId}{fn:Func}(hf:en.P.funcs[f]? =some fn)(hb:fn.body.isSome=true)(hname:fn.name≠ "runtime.NumGoroutine"){p:H7}(hn:p.nat){h:B4}
  (hrun:∀bs xs r,p.F bs xs (R:=List (List PV)×PV) (fun b v=>some (b,v))=some r->∃fuel,C5 en h fuel fn bs xs (fun b v=>some (b,v))=some r):B84 en' NG W f p where
 nat:=hn
 call:=by
  intro M β bs xs vs bs' r hW hng hg hB hr hF;obtain⟨fuel,hrun⟩:=hrun bs xs (bs',r) hF
  have hg':gO en M:=by
   intro g cs hgc;rw[hG]at hgc;exact hg g cs hgc
  rw[<-hP];refine⟨dP hf hb hname _ _,?_⟩;unfold C5 at hrun;split at hrun
  case h_2=>cases hrun
  rename_i c st hc hst;obtain⟨hpn,hrun⟩:=wD hrun
  let X:Cx:=⟨M,fun b=>∃j,β j=some b,bs.length,bs.length,β,Ak _,fun _ _ f=>∀b,¬f b,fun h _ _ _=>h,[]⟩
  obtain⟨β0,hI,_⟩:=tN (X:=X) (f0:=fun _=>False) hst rfl rfl hng hB hr (fun _ h=>h) (fun _ h=>h.elim) (fun c=>⟨.inr,fun h=>h.elim (fun h=>h.elim) (fun h=>h)⟩);refine qF hf hc trivial (V8 hE c (X:=X) hg' (gU hE hW hy) rW.none 0 _ _ _ hrun (.inr hpn) _ M _ _ hI _ ?_ ?_ ?_)
  ·intro st' a' M' β' κ' hI' h';exact⟨B95 hB rfl hI' h',hI'.marks rfl⟩
  ·intro id k hk;simp at hk
  ·intro st' a' M' β' κ' hI' h';exact⟨B95 hB rfl hI' h',hI'.marks rfl⟩
theorem B4l (hE:aE en NG W){X:Cx}(hG:gO en X.M0)(hW:Amb en NG W X){ops:Array Oper}{ro:Option Nat}{Q:Exit->Act->World->Prop}{tail:List Oper}:∀(rest:List Oper) (acts:List C7) (st st':St),jF en ops rest acts st st'->(∀o∈rest,A5f en.P o=true)->
  ∀(a:Act) (M:C4) (β κ:Nat->Option Nat),I0 NG X st a M β κ->(∀a' M' β' κ',I0 NG X st' a' M' β' κ'->wpListIn (FR ro) 0 en.P ops Q tail a' M'.w)->wpListIn (FR ro) 0 en.P ops Q (rest++tail) a M.w
 |[],[],st,st',h,_,a,M,β,κ,hI,hn=>by
  simp only[jF]at h;subst h;exact hn a M β κ hI
 |o::rest,act::acts,st,st',h,E4,a,M,β,κ,hI,hn=>by
  obtain⟨st1,h1,h2⟩:=h;rw[Bk];unfold wpListIn;exact A2v hE hI hG hW (E4 o (by simp)) h1 fun a' M' β' κ' hI'=>B4l hE hG hW rest acts st1 st' h2 (fun o ho=>E4 o (by simp[ho])) a' M' β' κ' hI' hn
 |[],_::_,_,_,h,_,_,_,_,_,_,_=>h.elim
 |_::_,[],_,_,h,_,_,_,_,_,_,_=>h.elim
theorem I0.undefer {X:Cx}{n:Nat}{al:List Nat}{β0:Nat->Option Nat}{st:St}{a:Act}{M:C4}{β κ:Nat->Option Nat}{d:Deferred}{ds:List Deferred}(hnl:X.nl<=al.length)
  (hI:I0 NG ⟨X.M0,X.fp,X.nl,al.length,fun j=>cS n al β0 (n+j),hnl,X.J,X.stab,[d]⟩ st a M β κ) (hds0:X.ds0=[]) (hd:a.defers=d::ds) (hdm:∀D,eO D≠d) (hal:al.Nodup) (hal0:∀j,j<X.np->al[j]? =some (n+j)) (hnp:X.np<=al.length) (hρ:st.ρ.length=n)
  (hlent:∀id b,β0 id=some b->(∃j,j<X.np/\id=n+j/\X.lb j=some b)\/(X.M0.w.heap.size<=b/\∀j,j<X.np->id≠n+j)):I0 NG X st {a with defers:=ds} M β κ:=by
 obtain⟨⟨h1,h2,h3,h4,h5,h6,h7,h8,h9,h10,h11,h12⟩,ho⟩:=hI;refine⟨⟨h1,h2,h3,h4,h5,h6,h7,h8,h9,h10,h11,h12⟩,?_⟩;obtain⟨f,f0,g1,g2,g3,g4,g5,g6⟩:=ho.ex;obtain⟨Ds,⟨A,B,k0,k1⟩,k2,k3⟩:=g3.ex;refine⟨fun id b hb=>?_,fun h0=>?_,f,f0,g1,g2,⟨Ds,?_,k2,k3⟩,g4,g5,g6⟩
 ·rw[hρ];rcases ho.lent id b hb with⟨j,e1,e2,e3⟩|⟨e1,e2⟩
  ·simp only at e1 e3;rw[hρ]at e2;have e3:cS n al β0 (n+j)=some b:=e3;rw[qJ (Ag e1)]at e3;rcases hlent _ b e3 with⟨j',q1,q2,q3⟩|⟨q1,q2⟩
   ·have:=bL hal (Ag e1) (by rw[q2];exact hal0 j' q1);subst this;exact .inl ⟨j,q1,e2,q3⟩
   ·refine .inr ⟨q1,fun j' hj' e=>?_⟩
    have:j=j':=by omega
    subst this;have:=hal0 j hj';rw[Ag e1]at this;injection this with this;exact q2 j hj' this
  ·refine .inr ⟨e1,fun j hj=>?_⟩;have:=e2 j (As hj hnp);rw[hρ]at this;exact this
 ·have:=ho.room (As h0 hnp);simp only at this;omega
 ·rw[hd]at k1
  cases A with
  |cons D A =>
   simp only[Cb,Bk,Cl]at k1;exact(hdm D k1.1.symm).elim
  |nil =>
   simp only[Ei,Cd,Bk,Cl,true_and]at k1 k0;exact⟨[],B,k0,by rw[hds0];exact k1⟩
theorem C83 {R:Type}{p:H7}(hp:p.nat){n:Nat}{caps:List PV}{st:St}{k:St->Option R}{r:R}(h:zR p n caps st k=some r):st.ρ.length=n/\(∀x∈caps,wB st.bx x=true)/\∃act st',aX st.bx none p caps some=some act/\B0 act none st=some st'/\k st'=some r:=by
 unfold zR at h;obtain⟨hc,h⟩:=A5 h;simp only[Ae,decide_eq_true_eq,Bg]at hc;rw[iQ hp]at h;obtain⟨act,h1,h⟩:=A6 h;split at h
 ·rename_i st' h2;exact⟨hc.1,hc.2,act,st',h1,h2,h⟩
 ·cases h
theorem A4x {bx:List (Option (List TV))}{x:PV}(h:wB bx x=true):∃id off cs,x=.ptr id off/\bx[id]? =some (some cs):=by
 cases x<;>simp only[wB,reduceCtorEq]at h;rename_i id off;rcases hc:cF bx id with _|cs
 ·rw[hc]at h;cases h
 ·obtain⟨ts,h1,_⟩:=bF hc;exact⟨id,off,ts,rfl,h1⟩
theorem A1w {M M':C4}{β β':Nat->Option Nat}:∀{caps:List PV} {vs:List Value},(∀x∈caps,∃id off,x=.ptr id off/\∀b,β id=some b->β' id=some b)->B9 M β caps vs->B9 M' β' caps vs
 |[],vs,_,h=>by simp only[B9]at h ⊢;exact h
 |x::xs,vs,hx,h=>by
  simp only[B9]at h ⊢;obtain⟨u,us,rfl,h1,h2⟩:=h;refine⟨u,us,rfl,?_,A1w (fun y hy=>hx y (by simp[hy])) h2⟩;obtain⟨id,off,rfl,hb⟩:=hx x (by simp);simp only[C1]at h1 ⊢;obtain⟨b,k1,k2⟩:=h1;exact⟨b,hb b k1,k2⟩
theorem B4z (hE:aE en NG W)(hy:en.Y=none){X2:Cx}{fn:Func}{R:Ending->World->Prop}{fid:FuncId}{p:H7}(hD:B84 en NG W fid p)(hG:gO en X2.M0)(hW:W X2.M0.w){caps:List PV}{vs:List Value}{d:Deferred}(hd0:d={target:=.fn (.func fid) vs.toArray,args:=#[]})(hds:X2.ds0=[d])
  {st:St} {st':St} {act:C7} (h:aX st.bx none p caps some=some act) (hst:B0 act none st=some st'):∀(ds:List Deferred) (a:Act) (M:C4) (β κ:Nat->Option Nat),a.defers=ds->I0 NG X2 st a M β κ->(∀M β κ a,I0 NG X2 st a M β κ->B9 M β caps vs)->
  (∀a' M' β' κ' ds',I0 NG X2 st' a' M' β' κ'->a'.defers=d::ds'->a'.tmps=a.tmps->LeavesInM (FR none) 0 en.P fn a.tmps R ds' .returning M'.w)->LeavesInM (FR none) 0 en.P fn a.tmps R ds .returning M.w
 |[],a,M,β,κ,hd,hI,_,_=>by
  obtain⟨f,f0,hJ,h01,hmk,hlow,hfβ,hfκ⟩:=hI.out.ex;obtain⟨Ds,⟨A,B,k0,k1⟩,k2,k3⟩:=hmk.ex;rw[hd,hds]at k1
  cases A<;>simp at k1
 |d1::ds,a,M,β,κ,hd,hI,hcaps,hfin=>by
  by_cases hd1:d1=d
  ·subst hd1;unfold aX at h;split at h
   ·rename_i ids hids;obtain⟨hdist,h⟩:=A5 h;split at h
    ·rename_i bs0 xs hbs0 hxs;split at h
     ·rename_i bs hbs;rw[hD.nat]at h;obtain⟨⟨bs',r⟩,hr,h⟩:=A6 h;have hargs:=O2 (V3 (fH (β:=β)) 4) hxs (hcaps M β κ a hI);have hnd:=W2 hdist;have hB:=A16 hI hnd hbs0 hbs;have hA:Amb en NG W X2:=gU hE hW hy;obtain⟨hent,hcall⟩:=hD.call M _ _ _ _ bs' r (hI.world hE hA) (Aw hI.ng hI.size) (hG.mono hI.le0) hB hargs hr;refine⟨by simp,.inr ⟨fun h=>by simp[FR,Fence.wide]at h,.func fid,vs.toArray,fid,vs.toArray,by rw[hd0],?_,fun _ _=>trivial,hcall.mono ?_⟩⟩
      ·rw[hd0];simpa [invoke]using hent
      ·rintro e u' w' ⟨rfl,v,rfl,U',β',g1,g2,g3,g4,g5,g6⟩
       have hlen:bs.length=ids.length:=by rw[E6 hbs,E6 hbs0]
       obtain⟨β2,hI'⟩:=hI.hback hnd (fun id hid=>by
        obtain⟨j,hj⟩:=Cm hid;obtain⟨cs,_,h2⟩:=J8 hbs0 j id hj;obtain⟨ts,h3,_⟩:=bF h2
        exact⟨ts,h3⟩) g1 g2 (by omega) g4 g5 g6 h hst
       have hput:a.put none v=a:=rfl;rw[hput]at hI';simp only[settle];exact hfin a ⟨w',U',M.y⟩ β2 κ ds hI' hd rfl
     ·cases h
    ·cases h
   ·cases h
  ·obtain⟨D,e,q,hI'⟩:=hI.unmark hd (fun d0 l h0 ds' h1=>by
    rw[hds]at h0;injection h0 with h0 _;injection h1 with h1 _
    exact hd1 (by rw[h1,h0])) rfl
   refine⟨by simp,.inl ⟨D,_,by rw[e];rfl,run_takeDeferred q,?_⟩⟩;exact B4z hE hy hD hG hW hd0 hds h hst ds {a with defers:=ds} ⟨M.w.putObj D (.deferred none),M.U,M.y⟩ β κ rfl hI' hcaps hfin
theorem A7e (hE:aE en NG W)(hy:en.Y=none){D:FuncId->Option H7}(hD:∀f p,D f=some p->B84 en NG W f p){hs:B4}{fuel:Nat}{fn:Func}{RR:Ending->World->Prop}:∀(c:Code) {R:Type} {X:Cx} (hds0:X.ds0=[]) (hG:gO en X.M0) (hW:W X.M0.w) {kr:St->Option R} {r:R} (st:St),X6 en D hs fuel c kr st=some r->
  ∀(a:Act) (M:C4) (β κ:Nat->Option Nat),I0 NG X st a M β κ->(∀st' a' M' β' κ',I0 NG X st' a' M' β' κ'->kr st'=some r->LeavesInM (FR none) 0 en.P fn a'.tmps RR a'.defers .returning M'.w)->c.wpIn (FR none) 0 en.P (bodyPostM (FR none) 0 en.P fn RR) a M.w
 |.seq x y,R,X,hds0,hG,hW,kr,r,st,h,a,M,β,κ,hI,fin=>by
  have hA:Amb en NG W X:=gU hE hW hy;simp only[X6]at h;split at h
  ·rename_i ops pre xo hdo;obtain⟨id,o,cl,rfl,hops,ho,hcl,hca,hgd,hdst⟩:=A8g hdo;obtain⟨hpn,h⟩:=wD h;obtain⟨E4,h⟩:=A5 h
   have E4:∀o∈pre,A5f en.P o=true:=by simpa only[Bg]using E4
   obtain⟨acts,_,st1,h1,_,h2⟩:=eI hE.nat _ _ _ _ _ _ _ _ A0h h;refine wpIn_seq (wpIn_region_list ?_);rw[hops];refine B4l hE hG hA pre acts _ st1 h1 E4 a M β κ hI fun a1 M1 β1 κ1 hI1=>?_;split at h2
   case h_2=>cases h2
   rename_i fid caps hx;split at h2
   case h_2=>cases h2
   rename_i p hp
   have hlt:fid<1000000:=by
    by_cases hlt:fid<1000000
    ·exact hlt
    ·rw[if_neg hlt]at hp;cases hp
   rw[if_pos hlt]at hp;obtain⟨bx,hal,hnd,hren,h2⟩:=A2e h2;split at h2
   case h_2=>cases h2
   rename_i caps1 hcaps;have hx':=(hI1.ev hG 0 xo).1;rw[hx]at hx';simp only[C1]at hx';obtain⟨vs,he,hvs⟩:=hx';rw[pD,if_pos hlt]at he;unfold wpListIn
   have hw:Region.wanted o (yielded ops a1.tmps)=true:=by simp[Region.wanted,hgd]
   rw[if_pos hw]
   have hrun:(Oper.semAt none a1.eval o).run en.P M1.w=.ok (.defer {target:=.fn (.func fid) vs.toArray,args:=#[]}) M1.w:=by
    rw[Oper.semAt_none];simp[execOp,ho,resolve,hcl,hca,Deferred.ofValue,he]
   refine⟨fun _ _=>trivial,?_⟩;have hro:(FR none).round=none:=rfl;rw[hro,hrun,Oper.uponIn_defer,hdst];show y.wpIn _ _ _ _ _ _;generalize hnn:st1.ρ.length=n at *;generalize hall:A4d n st1.bx=al at *
   have hal0:∀i,i<X.np->al[i]? =some (n+i):=fun i hi=>by
    have:=hI1.out.room (by omega);rw[hnn]at this;rw[<-hall];unfold A4d;rw[Bd (by rw[aQ];omega)];exact aV (by omega)
   have hnp:X.np<=al.length:=by
    rcases Ed X.np with h0|h0
    ·omega
    ·have:=(Aj.1 (hal0 (X.np-1) (by omega))).1;omega
   have hpI:=hI1.pin hal hnd (by rw[hnn];exact hren) (fun i hi=>by rw[hnn];exact hal0 i hi);rw[hnn]at hpI;have hlen:=dU hren;have hcaps1:B9 M1 (cS n al β1) caps1 vs:=O2 (V3 A29 4) hcaps hvs;generalize hd0:({target:=.fn (.func fid) vs.toArray,args:=#[]}:Deferred)=d
   have hdm:∀D,eO D≠d:=fun D e=>by rw[<-hd0]at e;simp[eO]at e
   let X2:Cx:=⟨X.M0,X.fp,X.nl,al.length,fun j=>cS n al β1 (n+j),Aw X.nlp hnp,X.J,X.stab,[d]⟩
   have hρl:(mR n al st1.ρ).length=n:=by simp only[mR,By];exact hnn
   have hI2:I0 NG X2 ⟨mR n al st1.ρ,fL n bx,st1.out⟩ {a1 with defers:=d::a1.defers} M1 (cS n al β1) (sL n al st1.bx κ1):=by
    obtain⟨⟨q1,q2,q3,q4,q5,q6,q7,q8,q9,q10,q11,q12⟩,qo⟩:=hpI;refine⟨⟨q1,q2,q3,q4,q5,q6,q7,q8,q9,q10,q11,q12⟩,?_⟩;obtain⟨f,f0,g1,g2,g3,g4,g5,g6⟩:=qo.ex;obtain⟨Ds,⟨A,B,k0,k1⟩,k2,k3⟩:=g3.ex;refine⟨fun id b hb=>?_,fun _=>?_,f,f0,g1,g2,⟨Ds,⟨[],Ds,rfl,?_⟩,k2,k3⟩,g4,g5,g6⟩
    ·obtain⟨i,id',rfl,e1,_⟩:=J0 hb;exact .inl ⟨i,(Aj.1 e1).1,by simp only[hρl],hb⟩
    ·simp only[hρl,uP,hlen];exact Ak _
    ·rw[hds0]at k1;simp only[Ei,Cd,Bk];show d::a1.defers=d::Ds.map eO;rw[k1,k0];simp
   have hend:∀st' a' M' β' κ',I0 NG X2 st' a' M' β' κ'->zR p n caps1 st' kr=some r->LeavesInM (FR none) 0 en.P fn a'.tmps RR a'.defers .returning M'.w:=by
    intro st' a' M' β' κ' hI' h';obtain⟨p1,p2,act,aH,p3,p4,p5⟩:=C83 (hD fid p hp).nat h';refine B4z hE hy (X2:=X2) (hD fid p hp) hG hW hd0.symm rfl p3 p4 a'.defers a' M' β' κ' rfl hI' (fun M3 β3 κ3 a3 hI3=>?_) (fun a3 M3 β3 κ3 ds' hI3 hd3 ht3=>?_)
    ·refine A1w (fun x hx=>?_) hcaps1;obtain⟨id,off,cs,rfl,hcs⟩:=A4x (p2 x hx);refine⟨id,off,rfl,fun b hb=>?_⟩;obtain⟨b',hb'⟩:=hI3.alive id cs hcs;obtain⟨i,id',rfl,e1,_⟩:=J0 hb;rcases hI3.out.lent _ b' hb' with⟨j,e2,e3,e4⟩|⟨_,e2⟩
     ·rw[p1]at e3
      have:i=j:=by omega
      subst this;have e4:cS n al β1 (n+i)=some b':=e4;rw[hb]at e4;injection e4 with e4;rw[e4];exact hb'
     ·exact(e2 i (Aj.1 e1).1 (by rw[p1])).elim
    ·have hρ2:aH.ρ.length=n:=by rw[hI3.len,ht3,<-hI'.len];exact p1
     have hI4:=I0.undefer (Aw X.nlp hnp) hI3 hds0 hd3 hdm hal hal0 hnp hρ2 (fun id b hb=>by have:=hI1.out.lent id b hb;rw[hnn]at this;exact this);have:=fin aH _ M3 β3 κ3 hI4 p5;rw[<-ht3];exact this
   exact V8 hE y (X:=X2) hG (gU hE hW hy) rW.none 0 _ _ [] h2 (.inr hpn) _ M1 _ _ hI2 _ hend (by intro id k hk;simp at hk) hend
  ·obtain⟨hpn,h⟩:=wD h;refine wpIn_seq (V8 hE x hG hA rW.none 0 st _ [] h (.inr hpn) a M β κ hI _ ?_ ?_ ?_)
   ·intro st' a' M' β' κ' hI' h';exact A7e hE hy hD y hds0 hG hW st' h' a' M' β' κ' hI' fin
   ·intro id k hk;simp at hk
   ·intro st' a' M' β' κ' hI' h';exact fin st' a' M' β' κ' hI' h'
 |.skip,_,_,_,_,_,_,_,_,h,_,_,_,_,_,_=>by simp[X6]at h
 |.region _ _ _,_,_,_,_,_,_,_,_,h,_,_,_,_,_,_=>by simp[X6]at h
 |.cond _ _ _,_,_,_,_,_,_,_,_,h,_,_,_,_,_,_=>by simp[X6]at h
 |.block _ _,_,_,_,_,_,_,_,_,h,_,_,_,_,_,_=>by simp[X6]at h
 |.loop _,_,_,_,_,_,_,_,_,h,_,_,_,_,_,_=>by simp[X6]at h
 |.rangeFunc _ _ _ _,_,_,_,_,_,_,_,_,h,_,_,_,_,_,_=>by simp[X6]at h
 |.exit _,_,_,_,_,_,_,_,_,h,_,_,_,_,_,_=>by simp[X6]at h
 |.scope _,_,_,_,_,_,_,_,_,h,_,_,_,_,_,_=>by simp[X6]at h
 |.label _,_,_,_,_,_,_,_,_,h,_,_,_,_,_,_=>by simp[X6]at h
 |.goto _,_,_,_,_,_,_,_,_,h,_,_,_,_,_,_=>by simp[X6]at h
 |.ret,_,_,_,_,_,_,_,_,h,_,_,_,_,_,_=>by simp[X6]at h
 |.refuse _,_,_,_,_,_,_,_,_,h,_,_,_,_,_,_=>by simp[X6]at h
theorem B0p.of_runD {en':K6}(hE:aE en NG W)(hy:en.Y=none)(hP:en.P=en'.P)(hG:en.G=en'.G){D:FuncId->Option H7}(hD:∀f p,D f=some p->B84 en NG W f p){f:FuncId}{fn:Func}(hf:en.P.funcs[f]? =some fn)(hb:fn.body.isSome=true)(hname:fn.name≠ "runtime.NumGoroutine"){p:H7}(hn:p.nat){h:B4}
  (hrun:∀bs xs r,p.F bs xs (R:=List (List PV)×PV) (fun b v=>some (b,v))=some r->∃fuel,A1i en D h fuel fn bs xs (fun b v=>some (b,v))=some r):B0p en' NG W f p where
 nat:=hn
 call:=by
  intro M β bs xs vs bs' r hW hng hg hB hr hF;obtain⟨fuel,hrun⟩:=hrun bs xs (bs',r) hF
  have hg':gO en M:=by
   intro g cs hgc;rw[hG]at hgc;exact hg g cs hgc
  rw[<-hP];refine .inr ⟨dP hf hb hname _ _,?_⟩;unfold A1i at hrun;split at hrun
  case h_2=>cases hrun
  rename_i c st hc hst
  let X:Cx:=⟨M,fun b=>∃j,β j=some b,bs.length,bs.length,β,Ak _,fun _ _ f=>∀b,¬f b,fun h _ _ _=>h,[]⟩
  obtain⟨β0,hI,_⟩:=tN (X:=X) (f0:=fun _=>False) hst rfl rfl hng hB hr (fun _ h=>h) (fun _ h=>h.elim) (fun c=>⟨.inr,fun h=>h.elim (fun h=>h.elim) (fun h=>h)⟩);exact xK hf hc (A7e hE hy hD c (X:=X) rfl hg' hW st hrun _ M _ _ hI fun st' a' M' β' κ' hI' h'=>B95 hB rfl hI' h')
end
end Go.Proofs.YtkpfigikffphdaaGreatDoor
end
section
namespace Go.Proofs.YtkpfigikffphdaaGreatDoor
open Go.RowKit
noncomputable def F8 (l:List (FuncId×D5))(lh:List (FuncId×H7))(li:List (FuncId×IFn)):K6:=⟨Tryz.prog,fun f=>l.lookup f,fun _=>none,fun f=>lh.lookup f,fun f=>li.lookup f,fun _=>none,fun _=>none,none,fun _=>false⟩
noncomputable def en (l:List (FuncId×D5)):K6:=⟨Tryz.prog,fun f=>l.lookup f,fun _=>none,fun _=>none,fun _=>none,fun _=>none,fun _=>none,none,fun _=>false⟩
def Y0 (NG:Nat)(W:World->Prop):Prop:=∀w w',(∀b,b<NG->w'.heap[b]? =w.heap[b]?)->W w->W w'
def P9 (NG:Nat)(W:World->Prop)(f:FuncId)(p:H7):Prop:=B0p (en []) NG W f p
def IOK (NG:Nat)(W:World->Prop)(f:FuncId)(p:IFn):Prop:=F66 (en []) NG W f p
def I9 (NG:Nat)(W:World->Prop)(l:List (FuncId×H7)):Prop:=∀p∈l,P9 NG W p.1 p.2
def A7t (NG:Nat)(W:World->Prop)(l:List (FuncId×IFn)):Prop:=∀p∈l,IOK NG W p.1 p.2
theorem A7 {NG:Nat}{W:World->Prop}:I9 NG W []:=fun _ h=>by cases h
theorem A3 {NG:Nat}{W:World->Prop}{f:FuncId}{p:H7}{l:List (FuncId×H7)}(h:P9 NG W f p)(k:I9 NG W l):I9 NG W ((f,p)::l):=fun q hq=>by
 rcases Be.1 hq with rfl|hq
 ·exact h
 ·exact k q hq
theorem B3 {NG:Nat}{W:World->Prop}:A7t NG W []:=fun _ h=>by cases h
def D8 (NG:Nat)(W:World->Prop)(f:FuncId)(p:D5):Prop:=C8k (en []) NG W f p
def E0 (NG:Nat)(W:World->Prop)(l:List (FuncId×D5)):Prop:=∀p∈l,D8 NG W p.1 p.2
theorem A2 {NG:Nat}{W:World->Prop}:E0 NG W []:=fun _ h=>by cases h
theorem A0 {NG:Nat}{W:World->Prop}{f:FuncId}{p:D5}{l:List (FuncId×D5)}(h:D8 NG W f p)(k:E0 NG W l):E0 NG W ((f,p)::l):=fun q hq=>by
 rcases Be.1 hq with rfl|hq
 ·exact h
 ·exact k q hq
theorem mixed:Tryz.prog.follows .mixedOrders=true:=by kernel_rfl
theorem A2u {NG:Nat}{W:World->Prop}(hW:Y0 NG W){l:List (FuncId×D5)}(h:E0 NG W l):aE (en l) NG W where
 fns:=fun f fn hf=>let k:=h (f,fn) (U8 hf);⟨k.nat,k.call⟩
 hns:=fun f p h=>by cases h
 ins:=fun f p h=>by cases h
 nns:=fun f p h=>by cases h
 cns:=fun f p h=>by cases h
 ynat:=fun k y h=>by cases h
 mixed:=mixed
 world:=hW
theorem jZ {NG:Nat}{W:World->Prop}(hW:Y0 NG W){l:List (FuncId×D5)}(h:E0 NG W l){lh:List (FuncId×H7)}(hh:I9 NG W lh){li:List (FuncId×IFn)}(hi:A7t NG W li):aE (F8 l lh li) NG W where
 fns:=fun f fn hf=>let k:=h (f,fn) (U8 hf);⟨k.nat,k.call⟩
 hns:=fun f fn hf=>let k:=hh (f,fn) (U8 hf);⟨k.nat,k.call⟩
 ins:=fun f fn hf=>let k:=hi (f,fn) (U8 hf);⟨k.nat,k.call⟩
 nns:=fun f p h=>by cases h
 cns:=fun f p h=>by cases h
 ynat:=fun k y h=>by cases h
 mixed:=mixed
 world:=hW
theorem oI {NG:Nat}{W:World->Prop}(hW:Y0 NG W){l:List (FuncId×D5)}(hl:E0 NG W l){f:FuncId}{fn:Func}(hf:Tryz.prog.funcs[f]? =some fn)(hb:fn.body.isSome=true)(hname:fn.name≠ "runtime.NumGoroutine"){p:D5}(hn:p.nat){h:B4}
  (hrun:∀xs r,p.F xs (R:=PV) some=some r->∃fuel,C6 (en l) h fuel p.own fn xs=some r):D8 NG W f p :=
 C8k.of_run (en:=en l) (en':=en []) (A2u hW hl) rfl rfl rfl hf hb hname hn hrun
theorem bG {NG:Nat}{W:World->Prop}(hW:Y0 NG W){l:List (FuncId×D5)}(hl:E0 NG W l){lh:List (FuncId×H7)}(hh:I9 NG W lh){li:List (FuncId×IFn)}(hi:A7t NG W li){f:FuncId}{fn:Func}(hf:Tryz.prog.funcs[f]? =some fn)(hb:fn.body.isSome=true)(hname:fn.name≠ "runtime.NumGoroutine"){p:D5}(hn:p.nat){h:B4}
  (hrun:∀xs r,p.F xs (R:=PV) some=some r->∃fuel,C6 (F8 l lh li) h fuel p.own fn xs=some r):D8 NG W f p :=
 C8k.of_run (en:=F8 l lh li) (en':=en []) (jZ hW hl hh hi) rfl rfl rfl hf hb hname hn hrun
theorem E4 {NG:Nat}{W:World->Prop}(hW:Y0 NG W){l:List (FuncId×D5)}(hl:E0 NG W l){lh:List (FuncId×H7)}(hh:I9 NG W lh){li:List (FuncId×IFn)}(hi:A7t NG W li){f:FuncId}{fn:Func}(hf:Tryz.prog.funcs[f]? =some fn)(hb:fn.body.isSome=true)(hname:fn.name≠ "runtime.NumGoroutine"){p:H7}(hn:p.nat){h:B4}
  (hrun:∀bs xs r,p.F bs xs (R:=List (List PV)×PV) (fun b v=>some (b,v))=some r->∃fuel,C5 (F8 l lh li) h fuel fn bs xs (fun b v=>some (b,v))=some r):P9 NG W f p :=
 B0p.of_run (en:=F8 l lh li) (en':=en []) (jZ hW hl hh hi) rfl rfl rfl hf hb hname hn hrun
def DOK (NG:Nat)(W:World->Prop)(f:FuncId)(p:H7):Prop:=B84 (en []) NG W f p
def D7z (NG:Nat)(W:World->Prop)(l:List (FuncId×H7)):Prop:=∀p∈l,DOK NG W p.1 p.2
theorem D6u {NG:Nat}{W:World->Prop}:D7z NG W []:=fun _ h=>by cases h
theorem C88 {NG:Nat}{W:World->Prop}{f:FuncId}{p:H7}{l:List (FuncId×H7)}(h:DOK NG W f p)(k:D7z NG W l):D7z NG W ((f,p)::l):=fun q hq=>by
 rcases Be.1 hq with rfl|hq
 ·exact h
 ·exact k q hq
theorem dok {NG:Nat}{W:World->Prop}(hW:Y0 NG W){l:List (FuncId×D5)}(hl:E0 NG W l){lh:List (FuncId×H7)}(hh:I9 NG W lh){li:List (FuncId×IFn)}(hi:A7t NG W li){f:FuncId}{fn:Func}(hf:Tryz.prog.funcs[f]? =some fn)(hb:fn.body.isSome=true)(hname:fn.name≠ "runtime.NumGoroutine"){p:H7}(hn:p.nat){h:B4}
  (hrun:∀bs xs r,p.F bs xs (R:=List (List PV)×PV) (fun b v=>some (b,v))=some r->∃fuel,C5 (F8 l lh li) h fuel fn bs xs (fun b v=>some (b,v))=some r):DOK NG W f p :=
 B84.of_run (en:=F8 l lh li) (en':=en []) (jZ hW hl hh hi) rfl rfl rfl hf hb hname hn hrun
theorem F9s {NG:Nat}{W:World->Prop}(hW:Y0 NG W){l:List (FuncId×D5)}(hl:E0 NG W l){lh:List (FuncId×H7)}(hh:I9 NG W lh){li:List (FuncId×IFn)}(hi:A7t NG W li){ld:List (FuncId×H7)}(hd:D7z NG W ld){f:FuncId}{fn:Func}(hf:Tryz.prog.funcs[f]? =some fn)(hb:fn.body.isSome=true)(hname:fn.name≠ "runtime.NumGoroutine"){p:H7}(hn:p.nat){h:B4}
  (hrun:∀bs xs r,p.F bs xs (R:=List (List PV)×PV) (fun b v=>some (b,v))=some r->∃fuel,A1i (F8 l lh li) (fun f=>ld.lookup f) h fuel fn bs xs (fun b v=>some (b,v))=some r):P9 NG W f p :=
 B0p.of_runD (en:=F8 l lh li) (en':=en []) (jZ hW hl hh hi) rfl rfl rfl (D:=fun f=>ld.lookup f) (fun f p hf=>let k:=hd (f,p) (U8 hf);⟨k.nat,k.call⟩) hf hb hname hn hrun
theorem E2x {NG:Nat}{W:World->Prop}{f:FuncId}{p:D5}(hn:p.nat)(ho:p.own=false)
  (hrun:∀(xs:List PV) (r:PV) (M:C4) (vs:List Value),p.F xs (R:=PV) some=some r->K9 M xs vs->∃v,(callFunc f vs.toArray).run Tryz.prog M.w=.ok (.value v) M.w/\B7 M r v):D8 NG W f p where
 nat:=hn
 call:=by
  intro M xs vs r hW hng hg hr hF;obtain⟨v,h1,h2⟩:=hrun xs r M vs hF hr;exact .inl ⟨v,M.w,h1,M.U,L4.refl M,h2,fun h=>by rw[ho]at h;cases h⟩
theorem W7 {NG:Nat}{W:World->Prop}{f:FuncId}{fn:Func}(hf:Tryz.prog.funcs[f]? =some fn)(hb:fn.body.isSome=true)(hname:fn.name≠ "runtime.NumGoroutine"){p:D5}(hn:p.nat)(ho:p.own=false)
  (hrun:∀(xs:List PV) (r:PV) (M:C4) (vs:List Value),W M.w->p.F xs (R:=PV) some=some r->K9 M xs vs->Calls Tryz.prog f vs.toArray M.w fun e w'=>∃v,e=.returned v/\Below M.w.heap.size M.w w'/\∀U',L4 M ⟨w',U',M.y⟩ none->B7 ⟨w',U',M.y⟩ r v):D8 NG W f p where
 nat:=hn
 call:=by
  intro M xs vs r hW hng hg hr hF
  have hb':¬fn.body=none:=by intro e;rw[e]at hb;cases hb
  refine .inr ⟨?_,(hrun xs r M vs hW hF hr).mono ?_⟩
  ·show(callFunc f vs.toArray).run Tryz.prog M.w=_;simp[callFunc,hf];rw[if_neg hname,if_neg hb']
  ·rintro e w' ⟨v,rfl,h1,h2⟩
   exact⟨v,rfl,M.U,L4.world h1,h2 _ (L4.world h1),fun h=>by rw[ho]at h;cases h⟩
theorem A23 {M:C4}{x:PV}{vs:List Value}(h:K9 M [x] vs):∃v,vs=[v]/\B7 M x v:=by
 simp only[K9]at h;obtain⟨u,us,rfl,h1,rfl⟩:=h;exact⟨u,rfl,h1⟩
theorem A7a {M:C4}{x y:PV}{vs:List Value}(h:K9 M [x,y] vs):∃v u,vs=[v,u]/\B7 M x v/\B7 M y u:=by
 simp only[K9]at h;obtain⟨u,us,rfl,h1,u2,us2,rfl,h2,rfl⟩:=h;exact⟨u,u2,rfl,h1,h2⟩
theorem F4p {M:C4}{x y z:PV}{vs:List Value}(h:K9 M [x,y,z] vs):∃v u t,vs=[v,u,t]/\B7 M x v/\B7 M y u/\B7 M z t:=by
 simp only[K9]at h;obtain⟨u,us,rfl,h1,u2,us2,rfl,h2,u3,us3,rfl,h3,rfl⟩:=h;exact⟨u,u2,u3,rfl,h1,h2,h3⟩
end Go.Proofs.YtkpfigikffphdaaGreatDoor
namespace Go.Proofs.YtkpfigikffphdaaGreatDoor
open Go.RowKit
def D1r {R:Type}(en:K6)(h:B4)(fuel:Nat)(own:Bool)(fn:Func)(args:List PV)(k:PV->Option R):Option R :=
 match fn.body with
 |some c=>H0 en h fuel c (fun st=>(iA en own fn st).bind k) 0 (st0 fn.ntmps args) (fun st=>(iA en own fn st).bind k) []
 |none=>none
theorem D6b {R:Type}{en:K6}(hE:en.nat){h:B4}{fuel:Nat}{own:Bool}{fn:Func}{args:List PV}{k:PV->Option R}:D1r en h fuel own fn args k=(C6 en h fuel own fn args).bind k:=by
 unfold D1r C6
 cases fn.body with
 |none=>rfl
 |some c=>exact T5 hE c _ 0 _ _ []
theorem B9o {α β:Type}(o:Option α)(k:α->Option β):o.bind k=(o.bind some).bind k:=by cases o<;>rfl
def C17 (en:K6)(h:B4)(fuel:Nat)(fn:Func)(own:Bool):D5:=⟨fun xs k=>D1r en h fuel own fn xs k,own⟩
theorem A9p {R:Type}{en:K6}(hE:en.nat){h:B4}{fuel:Nat}{own:Bool}{fn:Func}(xs:List PV)(k:PV->Option R):(C17 en h fuel fn own).F xs k=(C6 en h fuel own fn xs).bind k:=D6b hE
theorem C8j {en:K6}(hE:en.nat){h:B4}{fuel:Nat}{own:Bool}{fn:Func}:(C17 en h fuel fn own).nat:=by
 intro R xs k;rw[A9p hE,A9p hE];exact(B9o _ k)
theorem C4a {en:K6}(hE:en.nat){h:B4}{fuel:Nat}{own:Bool}{fn:Func}(xs:List PV)(r:PV)(hr:(C17 en h fuel fn own).F xs (R:=PV) some=some r):C6 en h fuel own fn xs=some r:=by
 rw[A9p hE]at hr;obtain⟨a,h1,h2⟩:=A6 hr;injection h2 with h2;subst h2;exact h1
noncomputable def E8 (l:List (FuncId×D5))(h:B4)(fuel:Nat)(fn:Func)(own:Bool:=false):D5:=C17 (en l) h fuel fn own
theorem C0 {NG:Nat}{W:World->Prop}(hW:Y0 NG W){l:List (FuncId×D5)}(hl:E0 NG W l){h:B4}{fuel:Nat}{own:Bool}{f:FuncId}{fn:Func}(hf:Tryz.prog.funcs[f]? =some fn)(hb:fn.body.isSome=true)(hname:fn.name≠ "runtime.NumGoroutine"):D8 NG W f (E8 l h fuel fn own) :=
 oI hW hl (h:=h) hf hb hname (C8j (A2u hW hl).nat) (fun xs r hr=>⟨fuel,C4a (A2u hW hl).nat xs r hr⟩)
theorem A7k {R S:Type}{en:K6}{nl:Nat}{fn:Func}{st:St}{kk:List (List PV)->kC->PV->Option R}{k:R->Option S}:bZ en nl fn st (fun b o v=>(kk b o v).bind k)=(bZ en nl fn st kk).bind k:=by
 unfold bZ;split
 ·split
  ·split
   ·split<;>rfl
   ·rfl
  ·rfl
 ·rfl
theorem C8m {R S:Type}{en:K6}(hE:en.nat){h:B4}{fuel:Nat}{fn:Func}{bs:List (List PV)}{args:List PV}{kk:List (List PV)->PV->Option R}{k:R->Option S}:C5 en h fuel fn bs args (fun b v=>(kk b v).bind k)=(C5 en h fuel fn bs args kk).bind k:=by
 unfold C5;split
 ·rename_i c st _ _;split
  ·rfl
  rw[<-T5 hE c];congr 1<;>(funext st';exact A7k)
 ·rfl
def D4e (en:K6)(h:B4)(fuel:Nat)(fn:Func):H7:=⟨fun bs xs kk=>C5 en h fuel fn bs xs kk⟩
theorem A1o {en:K6}(hE:en.nat){h:B4}{fuel:Nat}{fn:Func}:(D4e en h fuel fn).nat:=by
 intro R bs xs k;exact C8m hE (kk:=fun b v=>some (b,v)) (k:=fun r=>k r.1 r.2)
noncomputable def sE (l:List (FuncId×D5))(lh:List (FuncId×H7))(li:List (FuncId×IFn))(h:B4)(fuel:Nat)(fn:Func):H7:=D4e (F8 l lh li) h fuel fn
theorem hH {NG:Nat}{W:World->Prop}(hW:Y0 NG W){l:List (FuncId×D5)}(hl:E0 NG W l){lh:List (FuncId×H7)}(hh:I9 NG W lh){li:List (FuncId×IFn)}(hi:A7t NG W li){h:B4}{fuel:Nat}{f:FuncId}{fn:Func}(hf:Tryz.prog.funcs[f]? =some fn)(hb:fn.body.isSome=true)(hname:fn.name≠ "runtime.NumGoroutine"):P9 NG W f (sE l lh li h fuel fn) :=
 E4 hW hl hh hi (h:=h) hf hb hname (A1o (jZ hW hl hh hi).nat) (fun bs xs r hr=>⟨fuel,hr⟩)
theorem C7h {R S:Type}{p:H7}(hp:p.nat){n:Nat}{caps:List PV}{st:St}{k0:St->Option R}{k:R->Option S}:zR p n caps st (fun st=>(k0 st).bind k)=(zR p n caps st k0).bind k:=by
 unfold zR;split
 ·rw[iQ hp,iQ hp (R:=R),Ad];congr 1;funext act;split<;>rfl
 ·rfl
theorem A3p {en:K6}(hE:en.nat){D:FuncId->Option H7}(hD:∀f p,D f=some p->p.nat){h:B4}{fuel:Nat}:∀(c:Code) {R S:Type} {k:R->Option S} (kr:St->Option R) (st:St),X6 en D h fuel c (fun st=>(kr st).bind k) st=(X6 en D h fuel c kr st).bind k
 |.seq a b,R,S,k,kr,st=>by
  simp only[X6];split
  ·split
   ·rfl
   ·split
    ·rw[<-cR hE];congr 1;funext st _;split
     ·split
      ·rename_i fid caps _ _ p hp
       have hp:D fid=some p:=by
        split at hp
        ·exact hp
        ·cases hp
       rw[<-A4j];congr 1;funext bx;split
       ·rw[<-T5 hE];congr 1<;>(funext st';exact C7h (hD _ _ hp))
       ·rfl
      ·rfl
     ·rfl
    ·rfl
  ·split
   ·rfl
   ·rw[<-T5 hE];congr 1;funext st';exact A3p hE hD b kr st'
 |.skip,_,_,_,_,_=>rfl
 |.region _ _ _,_,_,_,_,_=>rfl
 |.cond _ _ _,_,_,_,_,_=>rfl
 |.block _ _,_,_,_,_,_=>rfl
 |.loop _,_,_,_,_,_=>rfl
 |.rangeFunc _ _ _ _,_,_,_,_,_=>rfl
 |.exit _,_,_,_,_,_=>rfl
 |.scope _,_,_,_,_,_=>rfl
 |.label _,_,_,_,_,_=>rfl
 |.goto _,_,_,_,_,_=>rfl
 |.ret,_,_,_,_,_=>rfl
 |.refuse _,_,_,_,_,_=>rfl
theorem C5z {R S:Type}{en:K6}(hE:en.nat){D:FuncId->Option H7}(hD:∀f p,D f=some p->p.nat){h:B4}{fuel:Nat}{fn:Func}{bs:List (List PV)}{args:List PV}{kk:List (List PV)->PV->Option R}{k:R->Option S}:A1i en D h fuel fn bs args (fun b v=>(kk b v).bind k)=(A1i en D h fuel fn bs args kk).bind k:=by
 unfold A1i;split
 ·rw[<-A3p hE hD];congr 1;funext st';exact A7k
 ·rfl
def D4g (en:K6)(D:FuncId->Option H7)(h:B4)(fuel:Nat)(fn:Func):H7:=⟨fun bs xs kk=>A1i en D h fuel fn bs xs kk⟩
theorem B96 {en:K6}(hE:en.nat){D:FuncId->Option H7}(hD:∀f p,D f=some p->p.nat){h:B4}{fuel:Nat}{fn:Func}:(D4g en D h fuel fn).nat:=by
 intro R bs xs k;exact C5z hE hD (kk:=fun b v=>some (b,v)) (k:=fun r=>k r.1 r.2)
noncomputable def E7k (l:List (FuncId×D5))(lh:List (FuncId×H7))(li:List (FuncId×IFn))(ld:List (FuncId×H7))(h:B4)(fuel:Nat)(fn:Func):H7:=D4g (F8 l lh li) (fun f=>ld.lookup f) h fuel fn
theorem D8f {NG:Nat}{W:World->Prop}(hW:Y0 NG W){l:List (FuncId×D5)}(hl:E0 NG W l){lh:List (FuncId×H7)}(hh:I9 NG W lh){li:List (FuncId×IFn)}(hi:A7t NG W li){ld:List (FuncId×H7)}(hd:D7z NG W ld){h:B4}{fuel:Nat}{f:FuncId}{fn:Func}(hf:Tryz.prog.funcs[f]? =some fn)(hb:fn.body.isSome=true)(hname:fn.name≠ "runtime.NumGoroutine"):P9 NG W f (E7k l lh li ld h fuel fn) :=
 F9s hW hl hh hi hd (h:=h) hf hb hname (B96 (jZ hW hl hh hi).nat (fun f p hf=>(hd (f,p) (U8 hf)).nat)) (fun bs xs r hr=>⟨fuel,hr⟩)
theorem C7q {NG:Nat}{W:World->Prop}(hW:Y0 NG W){l:List (FuncId×D5)}(hl:E0 NG W l){lh:List (FuncId×H7)}(hh:I9 NG W lh){li:List (FuncId×IFn)}(hi:A7t NG W li){h:B4}{fuel:Nat}{f:FuncId}{fn:Func}(hf:Tryz.prog.funcs[f]? =some fn)(hb:fn.body.isSome=true)(hname:fn.name≠ "runtime.NumGoroutine"):DOK NG W f (sE l lh li h fuel fn) :=
 dok hW hl hh hi (h:=h) hf hb hname (A1o (jZ hW hl hh hi).nat) (fun bs xs r hr=>⟨fuel,hr⟩)
end Go.Proofs.YtkpfigikffphdaaGreatDoor
namespace Go.Proofs.YtkpfigikffphdaaGreatDoor
open Go.RowKit
def P1 (e:K6)(h:B4)(fuel:Nat)(own:Bool)(fn:Func)(path:List Nat)(st:St)(k:St->Option PV):Option PV :=
 W5 e h fuel (iA e own fn) path (fn.body.getD .skip) 0 (iA e own fn) [] (fun _=>none) st k
def N3 (e:K6)(h:B4)(fuel:Nat)(own:Bool)(fn:Func)(path:List Nat)(cur:Nat)(n:Nat)(st:St):Option PV :=
 iT (h.loop.lookup cur) (P1 e h fuel own fn path) n st
theorem B6 {e:K6}{h:B4}{fuel:Nat}{own:Bool}{fn:Func}{path:List Nat}{cur n:Nat}{st:St} :
 N3 e h fuel own fn path cur (n+1) st=P1 e h fuel own fn path st (fun st'=>C2 (h.loop.lookup cur) st' (N3 e h fuel own fn path cur n)):=rfl
theorem F58 (x:Int):IntKind.u64.wrap x=x%18446744073709551616:=by
 simp only[IntKind.wrap];rfl
theorem B2 {x:Int}(h0:-9223372036854775808<=x)(h1:x<=9223372036854775807):IntKind.i64.wrap x=x:=by rw[IntKind.wrap_i64];omega
theorem A4 {α:Type}{b:Bool}{x y:α}(h:b=true):(bif b then x else y)=x:=by rw[h];rfl
theorem B1 {α:Type}{b:Bool}{x y:α}(h:b=false):(bif b then x else y)=y:=by rw[h];rfl
end Go.Proofs.YtkpfigikffphdaaGreatDoor
namespace Go.Proofs.YtkpfigikffphdaaGreatDoor
open Go.RowKit
def H6 {R:Type}(en:K6)(h:B4)(fuel:Nat)(kr:St->Option R)(nm:List Nat->Nat->St->Option R):Code->List Nat->Nat->St->(St->Option R)->List (Nat×(St->Option R))->Option R
 |.skip,_,_,st,kn,_=>kn st
 |.region id ops draw,_,_,st,kn,_=>A4s ((h.block.lookup (1000000+id)).map (·.slots)) st fun st=>dQ en ops draw st kn
 |.seq a b,p,cur,st,kn,kx=>H6 en h fuel kr nm a (0::p) cur st (fun st'=>H6 en h fuel kr nm b (1::p) cur st' kn kx) kx
 |.cond c a b,p,cur,st,kn,kx =>
  match(ev en st 0 c).1 with
  |.bool t=>bif t then H6 en h fuel kr nm a (0::p) cur st kn kx else H6 en h fuel kr nm b (1::p) cur st kn kx
  |_=>none
 |.block id a,p,_,st,kn,kx=>H6 en h fuel kr nm a (0::p) id st (fun st'=>C2 (h.block.lookup id) st' kn) ((id,fun st'=>C2 (h.block.lookup id) st' kn)::kx)
 |.loop a,p,cur,st,kn,kx=>C2 (h.loop.lookup cur) st fun st'=>nm p.reverse cur st'
 |.exit id,_,_,st,_,kx =>
  match kx.lookup id with
  |some k=>k st
  |none=>none
 |.ret,_,_,st,_,_=>A4s ((h.block.lookup 3000000).map (·.slots)) st fun st=>C2 (h.block.lookup 4000000) st kr
 |.label _,_,_,st,kn,_=>kn st
 |.rangeFunc f np assign body,_,cur,st,kn,kx=>H0 en h fuel (.rangeFunc f np assign body) kr cur st kn kx
 |_,_,_,_,_,_=>none
theorem Z6 {R:Type}{en:K6}{h:B4}{fuel:Nat}{kr:St->Option R}{root:Code}{k0:St->Option R}{kl:St->Option R}:∀(c:Code) (p:List Nat) (cur:Nat) (st:St) (kn:St->Option R) (kx:List (Nat×(St->Option R))),
  (∀q,W5 en h fuel kr (p.reverse++q) root 0 k0 [] kl=W5 en h fuel kr q c cur kn kx kl)->
  H6 en h fuel kr (fun p cur st=>iT (h.loop.lookup cur) (W5 en h fuel kr p root 0 k0 [] kl) fuel st) c p cur st kn kx=H0 en h fuel c kr cur st kn kx
 |.skip,p,cur,st,kn,kx,hp=>rfl
 |.region id ops draw,p,cur,st,kn,kx,hp=>rfl
 |.seq a b,p,cur,st,kn,kx,hp=>by
  simp only[H6,H0]
  have hb:(fun st'=>H6 en h fuel kr (fun p cur st=>iT (h.loop.lookup cur) (W5 en h fuel kr p root 0 k0 [] kl) fuel st) b (1::p) cur st' kn kx)=fun st'=>H0 en h fuel b kr cur st' kn kx:=by
   funext st';refine Z6 b (1::p) cur st' kn kx fun q=>?_;rw[Br,Al];exact hp (1::q)
  rw[hb];refine Z6 a (0::p) cur st _ kx fun q=>?_;rw[Br,Al];exact hp (0::q)
 |.cond c a b,p,cur,st,kn,kx,hp=>by
  simp only[H6,H0]
  have ha:=Z6 a (0::p) cur st kn kx fun q=>by
   rw[Br,Al];exact hp (0::q)
  have hb:=Z6 b (1::p) cur st kn kx fun q=>by
   rw[Br,Al];exact hp (1::q)
  rw[ha,hb]
  cases(ev en st 0 c).1<;>rfl
 |.block id a,p,cur,st,kn,kx,hp=>by
  simp only[H6,H0];refine Z6 a (0::p) id st _ _ fun q=>?_;rw[Br,Al];exact hp (0::q)
 |.loop a,p,cur,st,kn,kx,hp=>by
  simp only[H6,H0];have:=hp [];rw[Bf]at this;rw[this];rfl
 |.exit id,p,cur,st,kn,kx,hp=>rfl
 |.ret,p,cur,st,kn,kx,hp=>rfl
 |.label _,p,cur,st,kn,kx,hp=>rfl
 |.rangeFunc _ _ _ _,_,_,_,_,_,_=>rfl
 |.scope _,_,_,_,_,_,_=>rfl
 |.goto _,_,_,_,_,_,_=>rfl
 |.refuse _,_,_,_,_,_,_=>rfl
def E6q (e:K6)(h:B4)(fuel:Nat)(own:Bool)(fn:Func)(args:List PV):Option PV :=
 match fn.body with
 |some c=>H6 e h fuel (iA e own fn) (fun p cur st=>N3 e h fuel own fn p cur fuel st) c [] 0 (st0 fn.ntmps args) (iA e own fn) []
 |none=>none
theorem L9 {e:K6}{h:B4}{fuel:Nat}{own:Bool}{fn:Func}{args:List PV}:C6 e h fuel own fn args=E6q e h fuel own fn args:=by
 unfold C6 E6q
 cases hb:fn.body with
 |none=>rfl
 |some c =>
  refine(Z6 (kl:=fun _=>none) (k0:=iA e own fn) (root:=c) c [] 0 _ _ [] fun q=>rfl).symm.trans ?_;unfold N3 P1;rw[hb];rfl
def N7 {R:Type}(en:K6)(h:B4)(fuel:Nat)(kr:St->Option R)(nmK:(St->Option R)->List Nat->Nat->St->Option R)(KL:St->Option R):List Nat->Code->List Nat->Nat->(St->Option R)->List (Nat×(St->Option R))->(List Nat->Nat->St->Option R)->Bool->St->(St->Option R)->Option R
 |0::p,.seq a b,acc,cur,kn,kx,nm,inn=>N7 en h fuel kr nmK KL p a (0::acc) cur (fun st'=>H6 en h fuel kr nm b (1::acc) cur st' kn kx) kx nm inn
 |_::p,.seq _ b,acc,cur,kn,kx,nm,inn=>N7 en h fuel kr nmK KL p b (1::acc) cur kn kx nm inn
 |0::p,.cond _ a _,acc,cur,kn,kx,nm,inn=>N7 en h fuel kr nmK KL p a (0::acc) cur kn kx nm inn
 |_::p,.cond _ _ b,acc,cur,kn,kx,nm,inn=>N7 en h fuel kr nmK KL p b (1::acc) cur kn kx nm inn
 |_::p,.block id a,acc,_,kn,kx,nm,inn=>N7 en h fuel kr nmK KL p a (0::acc) id (fun st'=>C2 (h.block.lookup id) st' kn) ((id,fun st'=>C2 (h.block.lookup id) st' kn)::kx) nm inn
 |_::p,.loop a,acc,cur,_,kx,nm,inn=>if inn then fun _ _=>none else N7 en h fuel kr nmK KL p a (0::acc) cur KL kx (nmK KL) true
 |[],.loop a,acc,cur,_,kx,nm,inn=>fun st k=>if inn then H0 en h fuel a kr cur st k kx else H6 en h fuel kr (nmK k) a (0::acc) cur st k kx
 |_,_,_,_,_,_,_,_=>fun _ _=>none
section
variable {R:Type} {en:K6} {h:B4} {fuel:Nat} {kr:St->Option R} {root:Code} {k0:St->Option R}
def C6m (en:K6)(h:B4)(fuel:Nat)(kr:St->Option R)(root:Code)(k0:St->Option R)(kl:St->Option R)(p:List Nat)(cur:Nat)(st:St):Option R:=iT (h.loop.lookup cur) (W5 en h fuel kr p root 0 k0 [] kl) fuel st
def D6:Bool->List Nat->Code->Bool
 |inn,0::p,.seq a _=>D6 inn p a
 |inn,(_+1)::p,.seq _ b=>D6 inn p b
 |inn,0::p,.cond _ a _=>D6 inn p a
 |inn,(_+1)::p,.cond _ _ b=>D6 inn p b
 |inn,_::p,.block _ a=>D6 inn p a
 |false,_::p,.loop a=>D6 true p a
 |_,[],.loop _=>true
 |_,_,_=>false
theorem eH {KL:St->Option R}:∀(path:List Nat) (c:Code) (acc:List Nat) (cur:Nat) (kn:St->Option R) (kx:List (Nat×(St->Option R))) (st:St) (k:St->Option R) (E4:D6 true path c=true),
  (∀q,W5 en h fuel kr (acc.reverse++q) root 0 k0 [] KL=W5 en h fuel kr q c cur kn kx KL)->
  N7 en h fuel kr (C6m en h fuel kr root k0) KL path c acc cur kn kx (C6m en h fuel kr root k0 KL) true st k=W5 en h fuel kr path c cur kn kx KL st k
 |0::p,.seq a b,acc,cur,kn,kx,st,k,E4,hp=>by
  have hb:(fun st'=>H6 en h fuel kr (C6m en h fuel kr root k0 KL) b (1::acc) cur st' kn kx)=fun st'=>H0 en h fuel b kr cur st' kn kx:=by
   funext st';refine Z6 (kl:=KL) (k0:=k0) (root:=root) b (1::acc) cur st' kn kx fun q=>?_;rw[Br,Al];exact hp (1::q)
  simp only[N7];rw[hb];exact eH p a (0::acc) cur _ kx st k (by simpa only[D6]using E4) (fun q=>by rw[Br,Al];exact hp (0::q))
 |(m+1)::p,.seq a b,acc,cur,kn,kx,st,k,E4,hp=>by
  simp only[N7];exact eH p b (1::acc) cur _ kx st k (by simpa only[D6]using E4) (fun q=>by rw[Br,Al];exact hp (1::q))
 |0::p,.cond c a b,acc,cur,kn,kx,st,k,E4,hp=>by
  simp only[N7];exact eH p a (0::acc) cur _ kx st k (by simpa only[D6]using E4) (fun q=>by rw[Br,Al];exact hp (0::q))
 |(m+1)::p,.cond c a b,acc,cur,kn,kx,st,k,E4,hp=>by
  simp only[N7];exact eH p b (1::acc) cur _ kx st k (by simpa only[D6]using E4) (fun q=>by rw[Br,Al];exact hp (1::q))
 |m::p,.block id a,acc,cur,kn,kx,st,k,E4,hp=>by
  simp only[N7];have:=eH p a (0::acc) id _ _ st k (by simpa only[D6]using E4) (fun q=>by rw[Br,Al];exact hp (0::q))
  cases m<;>exact this
 |m::p,.loop a,acc,cur,kn,kx,st,k,E4,hp=>by
  simp[D6]at E4
 |[],.loop a,acc,cur,kn,kx,st,k,E4,hp=>by
  simp only[N7,if_true];rfl
 |_::_,.skip,_,_,_,_,_,_,E4,_=>by simp[D6]at E4
 |_::_,.region _ _ _,_,_,_,_,_,_,E4,_=>by simp[D6]at E4
 |_::_,.ret,_,_,_,_,_,_,E4,_=>by simp[D6]at E4
 |_::_,.exit _,_,_,_,_,_,_,E4,_=>by simp[D6]at E4
 |_::_,.label _,_,_,_,_,_,_,E4,_=>by simp[D6]at E4
 |_::_,.rangeFunc _ _ _ _,_,_,_,_,_,_,E4,_=>by simp[D6]at E4
 |_::_,.scope _,_,_,_,_,_,_,E4,_=>by simp[D6]at E4
 |_::_,.goto _,_,_,_,_,_,_,E4,_=>by simp[D6]at E4
 |_::_,.refuse _,_,_,_,_,_,_,E4,_=>by simp[D6]at E4
 |[],.skip,_,_,_,_,_,_,E4,_=>by simp[D6]at E4
 |[],.region _ _ _,_,_,_,_,_,_,E4,_=>by simp[D6]at E4
 |[],.ret,_,_,_,_,_,_,E4,_=>by simp[D6]at E4
 |[],.exit _,_,_,_,_,_,_,E4,_=>by simp[D6]at E4
 |[],.label _,_,_,_,_,_,_,E4,_=>by simp[D6]at E4
 |[],.seq _ _,_,_,_,_,_,_,E4,_=>by simp[D6]at E4
 |[],.cond _ _ _,_,_,_,_,_,_,E4,_=>by simp[D6]at E4
 |[],.block _ _,_,_,_,_,_,_,E4,_=>by simp[D6]at E4
 |[],.rangeFunc _ _ _ _,_,_,_,_,_,_,E4,_=>by simp[D6]at E4
 |[],.scope _,_,_,_,_,_,_,E4,_=>by simp[D6]at E4
 |[],.goto _,_,_,_,_,_,_,E4,_=>by simp[D6]at E4
 |[],.refuse _,_,_,_,_,_,_,E4,_=>by simp[D6]at E4
theorem cW {KL:St->Option R}:∀(path:List Nat) (c:Code) (acc:List Nat) (cur:Nat) (kn:St->Option R) (kx:List (Nat×(St->Option R))) (st:St) (k:St->Option R) (E4:D6 false path c=true),
  (∀kl q,W5 en h fuel kr (acc.reverse++q) root 0 k0 [] kl=W5 en h fuel kr q c cur kn kx kl)->
  N7 en h fuel kr (C6m en h fuel kr root k0) KL path c acc cur kn kx (C6m en h fuel kr root k0 (fun _=>none)) false st k=W5 en h fuel kr path c cur kn kx KL st k
 |0::p,.seq a b,acc,cur,kn,kx,st,k,E4,hp=>by
  have hb:(fun st'=>H6 en h fuel kr (C6m en h fuel kr root k0 (fun _=>none)) b (1::acc) cur st' kn kx)=fun st'=>H0 en h fuel b kr cur st' kn kx:=by
   funext st';refine Z6 (kl:=fun _=>none) (k0:=k0) (root:=root) b (1::acc) cur st' kn kx fun q=>?_;rw[Br,Al];exact hp _ (1::q)
  simp only[N7];rw[hb];exact cW p a (0::acc) cur _ kx st k (by simpa only[D6]using E4) (fun kl q=>by rw[Br,Al];exact hp kl (0::q))
 |(m+1)::p,.seq a b,acc,cur,kn,kx,st,k,E4,hp=>by
  simp only[N7];exact cW p b (1::acc) cur _ kx st k (by simpa only[D6]using E4) (fun kl q=>by rw[Br,Al];exact hp kl (1::q))
 |0::p,.cond c a b,acc,cur,kn,kx,st,k,E4,hp=>by
  simp only[N7];exact cW p a (0::acc) cur _ kx st k (by simpa only[D6]using E4) (fun kl q=>by rw[Br,Al];exact hp kl (0::q))
 |(m+1)::p,.cond c a b,acc,cur,kn,kx,st,k,E4,hp=>by
  simp only[N7];exact cW p b (1::acc) cur _ kx st k (by simpa only[D6]using E4) (fun kl q=>by rw[Br,Al];exact hp kl (1::q))
 |m::p,.block id a,acc,cur,kn,kx,st,k,E4,hp=>by
  simp only[N7];have:=cW (KL:=KL) p a (0::acc) id _ _ st k (by simpa only[D6]using E4) (fun kl q=>by rw[Br,Al];exact hp kl (0::q))
  cases m<;>exact this
 |m::p,.loop a,acc,cur,kn,kx,st,k,E4,hp=>by
  simp only[N7,Bp,if_false];have:=eH p a (0::acc) cur _ _ st k (by simpa only[D6]using E4) (fun q=>by rw[Br,Al];exact hp KL (0::q))
  cases m<;>exact this
 |[],.loop a,acc,cur,kn,kx,st,k,E4,hp=>by
  simp only[N7,Bp,if_false];have:=Z6 (en:=en) (h:=h) (fuel:=fuel) (kr:=kr) (kl:=k) (k0:=k0) (root:=root) a (0::acc) cur st k kx (fun q=>by rw[Br,Al];exact hp k (0::q));exact this
 |_::_,.skip,_,_,_,_,_,_,E4,_=>by simp[D6]at E4
 |_::_,.region _ _ _,_,_,_,_,_,_,E4,_=>by simp[D6]at E4
 |_::_,.ret,_,_,_,_,_,_,E4,_=>by simp[D6]at E4
 |_::_,.exit _,_,_,_,_,_,_,E4,_=>by simp[D6]at E4
 |_::_,.label _,_,_,_,_,_,_,E4,_=>by simp[D6]at E4
 |_::_,.rangeFunc _ _ _ _,_,_,_,_,_,_,E4,_=>by simp[D6]at E4
 |_::_,.scope _,_,_,_,_,_,_,E4,_=>by simp[D6]at E4
 |_::_,.goto _,_,_,_,_,_,_,E4,_=>by simp[D6]at E4
 |_::_,.refuse _,_,_,_,_,_,_,E4,_=>by simp[D6]at E4
 |[],.skip,_,_,_,_,_,_,E4,_=>by simp[D6]at E4
 |[],.region _ _ _,_,_,_,_,_,_,E4,_=>by simp[D6]at E4
 |[],.ret,_,_,_,_,_,_,E4,_=>by simp[D6]at E4
 |[],.exit _,_,_,_,_,_,_,E4,_=>by simp[D6]at E4
 |[],.label _,_,_,_,_,_,_,E4,_=>by simp[D6]at E4
 |[],.seq _ _,_,_,_,_,_,_,E4,_=>by simp[D6]at E4
 |[],.cond _ _ _,_,_,_,_,_,_,E4,_=>by simp[D6]at E4
 |[],.block _ _,_,_,_,_,_,_,E4,_=>by simp[D6]at E4
 |[],.rangeFunc _ _ _ _,_,_,_,_,_,_,E4,_=>by simp[D6]at E4
 |[],.scope _,_,_,_,_,_,_,E4,_=>by simp[D6]at E4
 |[],.goto _,_,_,_,_,_,_,E4,_=>by simp[D6]at E4
 |[],.refuse _,_,_,_,_,_,_,E4,_=>by simp[D6]at E4
end
def gE (e:K6)(h:B4)(fuel:Nat)(own:Bool)(fn:Func)(path:List Nat)(KL:St->Option PV)(st:St)(k:St->Option PV):Option PV :=
 W5 e h fuel (iA e own fn) path (fn.body.getD .skip) 0 (iA e own fn) [] KL st k
def A26 (e:K6)(h:B4)(fuel:Nat)(own:Bool)(fn:Func)(KL:St->Option PV)(path:List Nat)(cur:Nat)(n:Nat)(st:St):Option PV :=
 iT (h.loop.lookup cur) (gE e h fuel own fn path KL) n st
theorem R8 {e:K6}{h:B4}{fuel:Nat}{own:Bool}{fn:Func}{path:List Nat}{cur n:Nat}{KL:St->Option PV}{st:St} :
 A26 e h fuel own fn KL path cur (n+1) st=gE e h fuel own fn path KL st (fun st'=>C2 (h.loop.lookup cur) st' (A26 e h fuel own fn KL path cur n)):=rfl
def E7g (e:K6)(h:B4)(fuel:Nat)(own:Bool)(fn:Func)(path:List Nat)(KL:St->Option PV)(st:St)(k:St->Option PV):Option PV :=
 N7 e h fuel (iA e own fn) (fun kl p cur st=>A26 e h fuel own fn kl p cur fuel st) KL path (fn.body.getD .skip) [] 0 (iA e own fn) [] (fun p cur st=>N3 e h fuel own fn p cur fuel st) false st k
theorem vV {e:K6}{h:B4}{fuel:Nat}{own:Bool}{fn:Func}{path:List Nat}{KL:St->Option PV}{st:St}{k:St->Option PV}(E4:D6 false path (fn.body.getD .skip)=true):gE e h fuel own fn path KL st k=E7g e h fuel own fn path KL st k :=
 (cW (k0:=iA e own fn) (root:=fn.body.getD .skip) path _ [] 0 _ [] st k E4 (fun kl q=>rfl)).symm
theorem mB {e:K6}{h:B4}{fuel:Nat}{own:Bool}{fn:Func}{path:List Nat}{st:St}{k:St->Option PV}(E4:D6 false path (fn.body.getD .skip)=true):P1 e h fuel own fn path st k=E7g e h fuel own fn path (fun _=>none) st k:=vV E4
section
variable {R:Type}
def gJ (e:K6)(h:B4)(fuel:Nat)(kr:St->Option R)(fn:Func)(path:List Nat)(KL:St->Option R)(st:St)(k:St->Option R):Option R :=
 W5 e h fuel kr path (fn.body.getD .skip) 0 kr [] KL st k
def kZ (e:K6)(h:B4)(fuel:Nat)(kr:St->Option R)(fn:Func)(KL:St->Option R)(path:List Nat)(cur:Nat)(n:Nat)(st:St):Option R :=
 iT (h.loop.lookup cur) (gJ e h fuel kr fn path KL) n st
theorem R6 {e:K6}{h:B4}{fuel:Nat}{kr:St->Option R}{fn:Func}{path:List Nat}{cur n:Nat}{KL:St->Option R}{st:St} :
 kZ e h fuel kr fn KL path cur (n+1) st=gJ e h fuel kr fn path KL st (fun st'=>C2 (h.loop.lookup cur) st' (kZ e h fuel kr fn KL path cur n)):=rfl
theorem C42 {e:K6}{h:B4}{fuel:Nat}{kr:St->Option R}{fn:Func}{c:Code}(hb:fn.body=some c){st:St}:H0 e h fuel c kr 0 st kr []=H6 e h fuel kr (fun p cur st=>kZ e h fuel kr fn (fun _=>none) p cur fuel st) c [] 0 st kr []:=by
 refine(Z6 (kl:=fun _=>none) (k0:=kr) (root:=c) c [] 0 _ _ [] fun q=>rfl).symm.trans ?_;unfold kZ gJ;rw[hb];rfl
def D81 (e:K6)(h:B4)(fuel:Nat)(fn:Func)(bs:List (List PV))(args:List PV)(kk:List (List PV)->PV->Option R):Option R :=
 match fn.body,C6t fn.ntmps bs .nil args with
 |some c,some st=>if W1 h c 0 then none else H6 e h fuel (fun st=>bZ e bs.length fn st fun bs _ v=>kk bs v) (fun p cur st=>kZ e h fuel (fun st=>bZ e bs.length fn st fun bs _ v=>kk bs v) fn (fun _=>none) p cur fuel st) c [] 0 st (fun st=>bZ e bs.length fn st fun bs _ v=>kk bs v) []
 |_,_=>none
theorem V7 {e:K6}{h:B4}{fuel:Nat}{fn:Func}{bs:List (List PV)}{args:List PV}{kk:List (List PV)->PV->Option R}:C5 e h fuel fn bs args kk=D81 e h fuel fn bs args kk:=by
 unfold C5 D81
 cases hb:fn.body with
 |none=>rfl
 |some c =>
  cases hs:C6t fn.ntmps bs .nil args with
  |none=>rfl
  |some st =>
   simp only;split
   ·rfl
   ·exact C42 hb
end
end Go.Proofs.YtkpfigikffphdaaGreatDoor
end
