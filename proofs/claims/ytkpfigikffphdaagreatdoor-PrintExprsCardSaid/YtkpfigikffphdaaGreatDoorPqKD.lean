/-
  Lemmas, part K4: what the claim needs of the texts of wip/tpl.
-/
import Derived.Lib.AppendZerosOnto
import Derived.Lib.SliceRun
import Derived.Shelf.RegionOpenPlain
import Derived.Test.YtkpfigikffphdaaGreatDoorCards
import Derived.Test.YtkpfigikffphdaaGreatDoorTie
import Derived.ProofKit
import Derived.OpenShut
import Derived.Deep.DeepHandedRow
import Derived.Lib.LaidU8
import Derived.Lib.LaidTab
import Derived.Stop.LaidErr
import Derived.ChangeMaps5
import Derived.Shelf.Vars
import Derived.Deep.DeepLaidRun
import Derived.ChangeArms
import Derived.Deep.Slices
import Derived.Test.YtkpfigikffphdaaGreatDoorPqKC
set_option linter.unusedVariables false
set_option linter.unusedSimpArgs false
open Array renaming getElem?_eq_some_iff→Bu
open Bool renaming and_eq_true→Ae,not_false→Ar,not_true→Au,and_eq_true_iff→Bc,or_eq_true→Cc,and_false→Ch
open Eq renaming trans→Cw
open Int renaming toNat_natCast→At
open List renaming length_cons→Ac,length_append→Af,getElem?_eq_getElem→Ag,length_nil→Ai,getElem?_eq_some_iff→Aj,append_assoc→Al,mem_cons_self→An,mem_cons_of_mem→Ap,length_drop→Ax,drop_of_length_le→Bb,getElem?_append_left→Bd,mem_cons→Be,append_nil→Bf,all_eq_true→Bg,mem_of_getElem?→Bi,getElem?_append_right→Bj,cons_append→Bk,length→Bn,flatMap_cons→Bo,length_map→By,nil_append→Cd,length_take→Cf,take_succ_eq_append_getElem→Ce,length_eq_zero_iff→Cg,tail_suffix→Ck,take_of_length_le→Cy,not_mem_nil→Cz,takeWhile_cons→Da,length_pos_iff→Dt,map_append→Dv,flatMap_append→Ex,flatMap_nil→Fe
open Nat renaming le_refl→Ak,lt_of_lt_of_le→As,le_trans→Aw,zero_le→Bh,zero_add→Bm,add_mul→Di,lt_succ_self→Dy,not_lt_zero→Fs
open Option renaming bind_some→Aa,bind_eq_some_iff→Ab,bind_assoc→Ad
open Option.some renaming inj→Cr
section
set_option maxRecDepth 100000
namespace Go.Proofs.YtkpfigikffphdaaGreatDoor
open Go.RowKit
section
variable {e:Int} {nl:Option Bool} {o:Int} {fF:List UInt8->Option (Option Bool × Nat × List PV)}
theorem dV {α β:Type}{r:Option (α×β)}:(r.bind fun q=>some (q.1,q.2))=r:=by cases r<;>rfl
theorem E88 (h0:0<=o)(h1:o<20)(T:List TR):(PG e nl o T).open 1=PG e nl (o+1) T:=by
 unfold PS.open PG;rw[B2 (by simp only;omega) (by simp only;omega)]
theorem B8o (h0:0<=o)(h1:o<20)(T:List TR):(PG e nl (o+1) T).shut 1=PG e nl o T:=by
 unfold PS.shut PG;rw[show o+1-1=o by omega,B2 (by omega) (by omega)]
theorem A8f (h0:0<=o)(h1:o<20)(a:Int):(PB e (o+1) a).shut 1=PB e o a:=by
 unfold PS.shut PB;rw[show o+1-1=o by omega,B2 (by omega) (by omega)]
def E1n (fF:List UInt8->Option (Option Bool×Nat×List PV))(e o:Int)(low:Option GF)(D:Nat):Prop:=match low with
 |none=>20<=o
 |some G=>0<=o/\o<20/\∀d,D<=d->cU e (o+1) (nX fF d).expr G.expr/\cU e (o+1) (nX fF d).neg G.neg/\cU e (o+1) (nX fF d).fact G.fact
theorem yL (he:0<=e){low:Option GF}{D:Nat}(hl:E1n fF e o low D){T:List TR}(hT:dK T){z:XR}{body:PS->(XR->PS->Option (XR×PS))->Option (XR×PS)}{gb:GF->J3 XR}
  (hb:∀G,low=some G->0<=o->o<20->E3 e nl o T (gb G) (body (PG e nl (o+1) T) fun x s=>some (x,s.shut 1))) :
  E3 e nl o T (sJ e low T gb) (mH jH (PG e nl o T) body (fun s=>some (z,s)) fun x s=>some (x,s)):=by
 cases low with
 |none =>
  unfold mH;rw[A4 (decide_eq_true (show(20:Int)<=(PG e nl o T).o from hl)),zC];exact⟨hT.nxt0 he,z,rfl⟩
 |some G =>
  obtain⟨h0,h1,-⟩:=hl;unfold mH;rw[B1 (decide_eq_false (show ¬(20:Int)<=(PG e nl o T).o from by show ¬(20:Int)<=o;omega)),E88 h0 h1];exact hb G rfl h0 h1
theorem oQ (he:0<=e){low:Option GF}{D:Nat}(hl:E1n fF e o low D){T:List TR}(hT:dK T){z:XR}{body:PS->(XR->PS->Option (XR×PS))->Option (XR×PS)}{gb:GF->List TR->J3 XR}{pb:PS->Option (XR×PS)}
  (hbody:∀s kk,body s kk=(pb s).bind fun q=>kk q.1 q.2) (hb:∀G,low=some G->0<=o->o<20->E3 e nl (o+1) T.tail (gb G T.tail) (pb (PG e nl (o+1) T.tail))) :
  E3 e nl o T (Y3 e low T gb) (dJ bP jH I6 O5 (PG e nl o T) body (fun s=>some (z,s)) fun x s=>some (x,s)):=by
 unfold dJ Y3;rw[mZ (l:=[[40]]) rfl rfl,Aa]
 cases h:A8 3 [[40]] T with
 |false =>
  simp only[Ar,cond_true,cond_false,zC,Aa];exact⟨hT.nxt0 he,z,rfl⟩
 |true =>
  simp only[Au,cond_true,cond_false];refine yL he hl hT fun G hG h0 h1=>?_;obtain⟨t,ht,-⟩:=cD (e:=e) (nl:=nl) (o:=o+1) h;rw[ht,Aa,hbody];refine E3.suf (E3.bind (hb G hG h0 h1) (fun x R hs=>?_) (fun x a ha=>?_)) (Ck T)
  ·rw[dL];refine E3.bind (sX he [41] (hT.tail.suf hs)) (fun _ R1 h2=>?_) (fun _ a ha=>?_)
   ·dsimp only;rw[B8o h0 h1];exact E3.ret x
   ·dsimp only;rw[A8f h0 h1];exact V0.ret x
  ·rw[dL,sY ha];show V0 e o a (some (x,(PB e (o+1) a).shut 1));rw[A8f h0 h1];exact V0.ret x
theorem D5i (n:Nat)(T:List TR):isP (PG e nl o T) (B3z n) (rV n).length (rV n)=some (A8 (opK n) (opW n) T,PG e nl o T):=by
 match n with
 |0=>exact A3r (l:=[[79,82]]) rfl rfl T
 |1=>exact A3r (l:=[[65,78,68]]) rfl rfl T
 |2=>exact A3r (l:=[[43],[45]]) rfl rfl T
 |k+3=>exact A3r (l:=[[42],[47],[37]]) rfl rfl T
theorem B9s {part:PS->Option (XR×PS)}{n:Nat}{a:Int}{x:XR}:∀{m:Nat},0<m->V0 e o a (A81 part n m x (PB e o a))
 |m+1,_=>by
  rw[A81,E83,Aa];exact V0.ret x
theorem D5x {part:PS->Option (XR×PS)}{gp:List TR->J3 XR}{n:Nat}(hp:cU e o part gp):∀(N m:Nat) (T:List TR) (x:XR),T.length<=N->T.length<m->dK T->E3 e nl o T (J4 e n gp N x T) (A81 part n m x (PG e nl o T))
 |N,0,T,x,_,h,_=>absurd h (Fs _)
 |0,m+1,T,x,h,_,_=>by
  have:T=[]:=Cg.1 (by omega);subst this;rw[A81,D5i,Aa];exact E3.ret x
 |N+1,m+1,T,x,h1,h2,hT=>by
  rw[A81,D5i,Aa,J4]
  cases h:A8 (opK n) (opW n) T with
  |false=>exact E3.ret x
  |true =>
   obtain⟨t,ht,ha,hw⟩:=cD (e:=e) (nl:=nl) (o:=o) h;simp only[cond_true];rw[ht,Aa];obtain⟨u,R0,rfl⟩:=pO h;simp only[List.tail_cons,Ac]at h1 h2 hT ⊢;refine E3.suf (E3.bind (hp.good nl R0 hT.tail) (fun y R hs=>?_) (fun y a ha=>?_)) (List.suffix_cons u R0)
   ·rw[ha,hw];exact D5x hp N m R _ (by have:=hs.length_le;omega) (by have:=hs.length_le;omega) (hT.tail.suf hs)
   ·exact B9s (by omega)
theorem mP {P:PF}{gp:List TR->J3 XR}{n:Nat}(hn:n<4)(hp:cU e o (A3o P n) gp):cU e o (fun s=>oR P s (n:Int)) (A1p e n gp) where
 good:=fun nl T hT=>by
  show E3 e nl o T _ (oR P (PG e nl o T) (n:Int));unfold oR;rw[if_pos (by omega),At];exact E3.bind (hp.good nl T hT) (fun x R hs=>D5x hp _ _ R x (hT.suf hs).len (by have:=hs.length_le;show R.length<T.length+2;omega) (hT.suf hs)) (fun x a ha=>B9s (by omega))
 badd:=fun a ha=>by
  show V0 e o a (oR P (PB e o a) (n:Int));unfold oR;rw[if_pos (by omega),At];exact V0.bind (hp.badd a ha) fun x=>B9s (by omega)
variable (he:0<=e) (hAS:aZ fF zJ) (hNU:aZ fF O7) {low:Option GF} {D:Nat} (hl:E1n fF e o low D)
include he hAS hNU hl
theorem C6j {d:Nat}(hd:D<=d){T:List TR}(hT:dK T){a:Int}{ws:List (List UInt8)}(h:A8 a ws T=true):E3 e nl o T (A5q e low T) ((aT fF (nX fF d)).cast (PG e nl o T)):=by
 have _:=hNU;obtain⟨t,ht,ha,hw⟩:=cD (e:=e) (nl:=nl) (o:=o) h;show E3 e nl o T _ ((I6 (PG e nl o T)).bind _);rw[ht,Aa];refine E3.suf (oQ (pb:=fun s=>((nX fF d).expr s).bind fun x=>(sI fF x.2 zJ).bind fun s=>(tO s).bind fun y=>some (gG t.a y.1.1 y.1.2 x.1,y.2)) he hl hT.tail (fun s kk=>by simp only[Ad,Aa]) fun G hG h0 h1=>?_) (Ck T);subst hG;obtain⟨-,-,hl⟩:=hl;refine E3.bind ((hl d hd).1.good nl _ hT.tail.tail) (fun x R hs=>?_) (fun x a ha=>?_)
 ·have hR:=hT.tail.tail.suf hs;rw[dL];refine E3.bind (C8y he hAS hR) (fun _ R1 h1=>?_) (fun _ a ha=>?_)
  ·refine E3.bind ((uE he).good nl R1 (hR.suf h1)) (fun y R2 h2=>?_) (fun y a ha=>?_)
   ·rw[ha];exact E3.ret _
   ·exact V0.ret _
  ·exact V0.bind ((uE he).badd a ha) fun y=>V0.ret _
 ·rw[dL,F2f hAS ha];simp only[Option.map_some,Aa];exact V0.bind ((uE he).badd a ha) fun y=>V0.ret _
theorem C7r {d:Nat}(hd:D<=d){T:List TR}(hT:dK T){a:Int}{ws:List (List UInt8)}(h:A8 a ws T=true):E3 e nl o T (zG e low T) ((aT fF (nX fF d)).call (PG e nl o T)):=by
 have _:=hNU;have _:=hAS;obtain⟨t,ht,ha,hw⟩:=cD (e:=e) (nl:=nl) (o:=o) h;show E3 e nl o T _ ((I6 (PG e nl o T)).bind _);rw[ht,Aa];refine E3.suf (oQ (pb:=fun s=>bif t.t==L0 then(bP s 1 [.str [42]]).bind fun r=>(bif r.1 then(I6 r.2).bind fun q=>some (call0 t.a t.t,q.2)else((nX fF d).expr r.2).bind fun x=>some (S2 t.a t.t x.1,x.2))else((nX fF d).expr s).bind fun x=>some (S2 t.a t.t x.1,x.2)) he hl hT.tail (fun s kk=>by simp only[B5,Ad,Aa]) fun G hG h0 h1=>?_) (Ck T);subst hG;obtain⟨-,-,hl⟩:=hl
 have hE:E3 e nl (o+1) T.tail.tail ((G.expr T.tail.tail).bind fun x R=>.ok (S2 (bB e T) (yP T) x) R) (((nX fF d).expr (PG e nl (o+1) T.tail.tail)).bind fun x=>some (S2 t.a t.t x.1,x.2)):=by
  refine E3.bind ((hl d hd).1.good nl _ hT.tail.tail) (fun x R hs=>?_) (fun x a ha=>V0.ret _);rw[ha,hw];exact E3.ret _
 rw[mZ (l:=[[42]]) rfl rfl,Aa,hw];rw[hw]at hE
 cases yP T==L0 with
 |false=>exact hE
 |true =>
  simp only[cond_true]
  cases h5:A8 3 [[42]] T.tail.tail with
  |false=>exact hE
  |true =>
   obtain⟨u,hu,-⟩:=cD (e:=e) (nl:=nl) (o:=o+1) h5;simp only[cond_true];rw[hu,Aa,ha];exact⟨Ck _,rfl⟩
theorem A72 {d:Nat}(hd:D+2<=d):cU e o (nX fF d).atom (gF e low) where
 good :=fun nl T hT=>by
  obtain⟨d,rfl⟩:∃d',d=d'+1+1:=⟨d-2,by omega⟩;show E3 e nl o T _ ((atP (PG e nl o T)).bind _);rw[E6d,Aa,mZ (l:=[[40]]) rfl rfl,Aa];unfold gF
  cases h1:A8 3 [[40]] T with
  |true =>
   simp only[cond_true];refine oQ (pb:=(nX fF (d+1)).expr) he hl hT (fun s kk=>rfl) fun G hG h0 h1=>?_;subst hG;exact(hl.2.2 (d+1) (by omega)).1.good nl _ hT.tail
  |false =>
   simp only[cond_false];rw[B14,Aa]
   cases h2:A8 1 [aU] T with
   |true =>
    simp only[cond_true];have:=C6j (nl:=nl) he hAS hNU hl (d:=d) (by omega) hT h2;show E3 e nl o T _ (((aT fF (nX fF d)).cast (PG e nl o T)).bind fun q=>some (q.1,q.2));rw[dV];exact this
   |false =>
    simp only[cond_false];rw[A3r (l:=J1) rfl rfl,Aa]
    cases h3:A8 1 J1 T with
    |true =>
     simp only[cond_true];have:=C7r (nl:=nl) he hAS hNU hl (d:=d) (by omega) hT h3;show E3 e nl o T _ (((aT fF (nX fF d)).call (PG e nl o T)).bind fun q=>some (q.1,q.2));rw[dV];exact this
    |false =>
     simp only[cond_false];rw[C63,Aa]
     cases h4:oN T with
     |some v =>
      simp only[(C3d h4).1,cond_true];exact⟨Ck T,rfl⟩
     |none =>
      simp only[cond_false];refine E3.bind ((xV he).good nl T hT) (fun n R hs=>?_) (fun n a ha=>?_)
      ·have hR:=hT.suf hs;rw[mZ (l:=[[46]]) rfl rfl,Aa]
       cases h5:A8 3 [[46]] R with
       |false=>exact E3.ret _
       |true =>
        obtain⟨u,hu,-⟩:=cD (e:=e) (nl:=nl) (o:=o) h5;simp only[cond_true];rw[hu,Aa];exact E3.suf (E3.bind ((xV he).good nl R.tail hR.tail) (fun m R h=>E3.ret _) (fun m a ha=>V0.ret _)) (Ck R)
      ·rw[nC];exact V0.ret _
 badd:=fun a ha=>by
  obtain⟨d,rfl⟩:∃d',d=d'+1:=⟨d-1,by omega⟩;rw[nX];unfold aT;dsimp only;rw[E7h,Aa,nC,Aa,cond_false,A8p,Aa,cond_false,E83,Aa,cond_false,C67,Aa,cond_false]
  exact V0.bind ((xV he).badd a ha) fun n=>by rw[nC];exact V0.ret _
theorem A5k {d:Nat}(hd:D+3<=d):cU e o (nX fF d).fact (G3 e low) where
 good:=fun nl T hT=>by
  obtain⟨d,rfl⟩:∃d',d=d'+1:=⟨d-1,by omega⟩;show E3 e nl o T _ ((bP (PG e nl o T) 1 [.str [45]]).bind _);rw[mZ (l:=[[45]]) rfl rfl,Aa];unfold G3
  cases h:A8 3 [[45]] T with
  |false =>
   simp only[Ar,cond_true,cond_false];have:=(A72 he hAS hNU hl (d:=d) (by omega)).good nl T hT;rw[dV];exact this
  |true =>
   simp only[Au,cond_true,cond_false];refine yL he hl hT fun G hG h0 h1=>?_;subst hG;obtain⟨t,ht,ha,-⟩:=cD (e:=e) (nl:=nl) (o:=o+1) h;rw[ht,Aa];refine E3.suf (E3.bind ((hl.2.2 d (by omega)).2.2.good nl _ hT.tail) (fun x R hs=>?_) (fun x a ha=>?_)) (Ck T)
   ·dsimp only;rw[B8o h0 h1,ha];exact E3.ret _
   ·dsimp only;rw[A8f h0 h1];exact V0.ret _
 badd:=fun a ha=>by
  obtain⟨d,rfl⟩:∃d',d=d'+1:=⟨d-1,by omega⟩;rw[nX];unfold aT;dsimp only;rw[nC,Aa];exact V0.bind ((A72 he hAS hNU hl (d:=d) (by omega)).badd a ha) fun x=>V0.ret x
theorem C9q {d:Nat}(hd:D+4<=d):cU e o (fun s=>(nX fF d).chain s 3) (uX e low):=by
 obtain⟨d,rfl⟩:∃d',d=d'+1:=⟨d-1,by omega⟩;exact mP (n:=3) (by omega) (A5k he hAS hNU hl (d:=d) (by omega))
theorem D7s {d:Nat}(hd:D+5<=d):cU e o (fun s=>(nX fF d).chain s 2) (tW e low):=by
 obtain⟨d,rfl⟩:∃d',d=d'+1:=⟨d-1,by omega⟩;exact mP (n:=2) (by omega) (C9q he hAS hNU hl (d:=d) (by omega))
theorem B3f {d:Nat}(hd:D+6<=d):cU e o (nX fF d).sum (tW e low):=by
 obtain⟨d,rfl⟩:∃d',d=d'+1:=⟨d-1,by omega⟩;have:=D7s he hAS hNU hl (d:=d) (by omega)
 have hf:(nX fF (d+1)).sum=fun s=>(nX fF d).chain s 2:=by
  funext s;show(((nX fF d).chain s 2).bind fun x=>some (x.1,x.2))=_;rw[dV]
 rw[hf];exact this
theorem B3a {d:Nat}(hd:D+7<=d):cU e o (nX fF d).comp (nR e low) where
 good :=fun nl T hT=>by
  obtain⟨d,rfl⟩:∃d',d=d'+1:=⟨d-1,by omega⟩;have hs:=B3f he hAS hNU hl (d:=d) (by omega);show E3 e nl o T _ (((nX fF d).sum (PG e nl o T)).bind _);refine E3.bind (hs.good nl T hT) (fun x R h=>?_) (fun x a ha=>?_)
  ·have hR:=hT.suf h;rw[mZ (l:=bN) rfl rfl,Aa];unfold fR
   cases h1:A8 3 bN R with
   |true =>
    obtain⟨t,ht,ha,hw⟩:=cD (e:=e) (nl:=nl) (o:=o) h1;simp only[cond_true];rw[ht,Aa];refine E3.suf (E3.bind (hs.good nl R.tail hR.tail) (fun y R1 h=>?_) (fun y a ha=>V0.ret _)) (Ck R);rw[ha,hw];exact E3.ret _
   |false =>
    simp only[cond_false];rw[B14,Aa]
    cases h2:A8 1 [wX] R with
    |false=>exact E3.ret x
    |true =>
     obtain⟨t,ht,ha,hw⟩:=cD (e:=e) (nl:=nl) (o:=o) h2;simp only[Au,cond_false,cond_true];rw[ht,Aa,C1b,Aa,dL]
     have hS:(bif A8 1 [G4] R.tail then R.tail.tail else R.tail)<:+ R:=by
      cases A8 1 [G4] R.tail with
      |false=>exact Ck R
      |true=>exact(Ck R.tail).trans (Ck R)
     refine E3.suf (E3.bind (C8y he hNU (hR.suf hS)) (fun _ R1 h=>?_) (fun _ a ha=>V0.ret _)) hS;rw[ha];exact E3.ret _
  ·rw[nC,Aa,cond_false,A8p];exact V0.ret x
 badd:=fun a ha=>by
  obtain⟨d,rfl⟩:∃d',d=d'+1:=⟨d-1,by omega⟩;show V0 (α:=XR) e o a (((nX fF d).sum (PB e o a)).bind _)
  exact V0.bind ((B3f he hAS hNU hl (d:=d) (by omega)).badd a ha) fun x=>by rw[nC,Aa,cond_false,A8p];exact V0.ret x
theorem B1m {d:Nat}(hd:D+8<=d):cU e o (nX fF d).neg (bS e low) where
 good:=fun nl T hT=>by
  obtain⟨d,rfl⟩:∃d',d=d'+1:=⟨d-1,by omega⟩;show E3 e nl o T _ ((A5e (PG e nl o T) G4).bind _);rw[B14,Aa];unfold bS
  cases h:A8 1 [G4] T with
  |false =>
   simp only[Ar,cond_true,cond_false];have:=(B3a he hAS hNU hl (d:=d) (by omega)).good nl T hT;rw[dV];exact this
  |true =>
   simp only[Au,cond_true,cond_false];refine yL he hl hT fun G hG h0 h1=>?_;subst hG;obtain⟨t,ht,ha,-⟩:=cD (e:=e) (nl:=nl) (o:=o+1) h;rw[ht,Aa];refine E3.suf (E3.bind ((hl.2.2 d (by omega)).2.1.good nl _ hT.tail) (fun x R hs=>?_) (fun x a ha=>?_)) (Ck T)
   ·dsimp only;rw[B8o h0 h1,ha];exact E3.ret _
   ·dsimp only;rw[A8f h0 h1];exact V0.ret _
 badd:=fun a ha=>by
  obtain⟨d,rfl⟩:∃d',d=d'+1:=⟨d-1,by omega⟩;rw[nX];unfold aT;dsimp only;rw[A8p,Aa];exact V0.bind ((B3a he hAS hNU hl (d:=d) (by omega)).badd a ha) fun x=>V0.ret x
theorem D11 {d:Nat}(hd:D+9<=d):cU e o (fun s=>(nX fF d).chain s 1) (sW e low):=by
 obtain⟨d,rfl⟩:∃d',d=d'+1:=⟨d-1,by omega⟩;exact mP (n:=1) (by omega) (B1m he hAS hNU hl (d:=d) (by omega))
theorem E4q {d:Nat}(hd:D+10<=d):cU e o (fun s=>(nX fF d).chain s 0) (T9 e low):=by
 obtain⟨d,rfl⟩:∃d',d=d'+1:=⟨d-1,by omega⟩;exact mP (n:=0) (by omega) (D11 he hAS hNU hl (d:=d) (by omega))
theorem A6n {d:Nat}(hd:D+11<=d):cU e o (nX fF d).expr (T9 e low):=by
 obtain⟨d,rfl⟩:∃d',d=d'+1:=⟨d-1,by omega⟩;have:=E4q he hAS hNU hl (d:=d) (by omega)
 have hf:(nX fF (d+1)).expr=fun s=>(nX fF d).chain s 0:=by
  funext s;show(((nX fF d).chain s 0).bind fun x=>some (x.1,x.2))=_;rw[dV]
 rw[hf];exact this
end
theorem D2z {e:Int}{fF:List UInt8->Option (Option Bool×Nat×List PV)}(he:0<=e)(hAS:aZ fF zJ)(hNU:aZ fF O7):∀k:Nat,k<=20->E1n fF e (20-(k:Int)) (nW e k) (11 * k)
 |0,_=>Int.le_refl _
 |k+1,h=>by
  have ih:=D2z he hAS hNU k (by omega);refine⟨by omega,by omega,fun d hd=>?_⟩;rw[show(20:Int)-((k+1:Nat):Int)+1=20-(k:Int)by omega];exact⟨A6n he hAS hNU ih (by omega),B1m he hAS hNU ih (by omega),A5k he hAS hNU ih (by omega)⟩
theorem F5z {e:Int}{fF:List UInt8->Option (Option Bool×Nat×List PV)}(he:0<=e)(hAS:aZ fF zJ)(hNU:aZ fF O7){d:Nat}(hd:231<=d):cU e 0 (nX fF d).expr (T9 e (nW e 20)) :=
 A6n he hAS hNU (D2z he hAS hNU 20 (by omega)) (by omega)
section
variable {NG:Nat} {W:World->Prop}
def tRd (f:List UInt8->Option (XR×Int×Int)):D5:=⟨fun xs k=>match xs with|[.str s,.clo p [],.clo q []]=>if p=22 then if q=23 then(f s).bind fun r=>k (.tuple [.agg r.1.cells,.int .i64 r.2.1,.int .i64 r.2.2])else none else none|_=>none,false⟩
theorem E3s (f:List UInt8->Option (XR×Int×Int)):(tRd f).nat:=by
 intro R xs k;simp only[tRd];split
 ·simp only[F3,F4,Ad,Aa]
 ·rfl
theorem E4d (hW:Y0 NG W){l:List (FuncId×D5)}(hl:E0 NG W l){lh:List (FuncId×H7)}(hh:I9 NG W lh){h:B4}{f:FuncId}{fn:Func}(hf:Tryz.prog.funcs[f]? =some fn)(hb:fn.body.isSome=true)(hname:fn.name≠ "runtime.NumGoroutine"){g:List UInt8->Option (XR×Int×Int)}(hr:∀(s:List UInt8) r,g s=some r->∃fu,C6 (F8 l lh []) h fu false fn [.str s,.clo 22 [],.clo 23 []]=some (.tuple [.agg r.1.cells,.int .i64 r.2.1,.int .i64 r.2.2])):D8 NG W f (tRd g) :=
 bG hW hl hh B3 (h:=h) hf hb hname (E3s g) fun xs r h=>by
  simp only[tRd]at h;split at h
  ·obtain⟨hzp,h1⟩:=A5 h;subst hzp;obtain⟨hzq,h2⟩:=A5 h1;subst hzq;obtain⟨qq,hq,hend⟩:=Ab.1 h2;obtain⟨fu,hr⟩:=hr _ _ hq;exact⟨fu,hr.trans hend⟩
  ·cases h
def tPx (f:List UInt8->Option (XR×Int×Int)):D5:=⟨fun xs k=>match xs with|[.str s]=>(f s).bind fun r=>k (.tuple [.agg r.1.cells,.int .i64 r.2.1,.int .i64 r.2.2])|_=>none,false⟩
theorem D9k (f:List UInt8->Option (XR×Int×Int)):(tPx f).nat:=by
 intro R xs k;simp only[tPx];split
 ·simp only[F3,F4,Ad,Aa]
 ·rfl
theorem E1o (hW:Y0 NG W){l:List (FuncId×D5)}(hl:E0 NG W l){lh:List (FuncId×H7)}(hh:I9 NG W lh){h:B4}{f:FuncId}{fn:Func}(hf:Tryz.prog.funcs[f]? =some fn)(hb:fn.body.isSome=true)(hname:fn.name≠ "runtime.NumGoroutine"){g:List UInt8->Option (XR×Int×Int)}(hr:∀(s:List UInt8) r,g s=some r->∃fu,C6 (F8 l lh []) h fu false fn [.str s]=some (.tuple [.agg r.1.cells,.int .i64 r.2.1,.int .i64 r.2.2])):D8 NG W f (tPx g) :=
 bG hW hl hh B3 (h:=h) hf hb hname (D9k g) fun xs r h=>by
  simp only[tPx]at h;split at h
  ·obtain⟨qq,hq,hend⟩:=Ab.1 h;obtain⟨fu,hr⟩:=hr _ _ hq;exact⟨fu,hr.trans hend⟩
  ·cases h
def tPy (f:List UInt8->Option (XR×Int×Bool)):D5:=⟨fun xs k=>match xs with|[.str s]=>(f s).bind fun r=>k (.tuple [.agg r.1.cells,.int .i64 r.2.1,.bool r.2.2])|_=>none,false⟩
theorem E65 (f:List UInt8->Option (XR×Int×Bool)):(tPy f).nat:=by
 intro R xs k;simp only[tPy];split
 ·simp only[F3,F4,Ad,Aa]
 ·rfl
theorem E2l (hW:Y0 NG W){l:List (FuncId×D5)}(hl:E0 NG W l){lh:List (FuncId×H7)}(hh:I9 NG W lh){h:B4}{f:FuncId}{fn:Func}(hf:Tryz.prog.funcs[f]? =some fn)(hb:fn.body.isSome=true)(hname:fn.name≠ "runtime.NumGoroutine"){g:List UInt8->Option (XR×Int×Bool)}(hr:∀(s:List UInt8) r,g s=some r->∃fu,C6 (F8 l lh []) h fu false fn [.str s]=some (.tuple [.agg r.1.cells,.int .i64 r.2.1,.bool r.2.2])):D8 NG W f (tPy g) :=
 bG hW hl hh B3 (h:=h) hf hb hname (E65 g) fun xs r h=>by
  simp only[tPy]at h;split at h
  ·obtain⟨qq,hq,hend⟩:=Ab.1 h;obtain⟨fu,hr⟩:=hr _ _ hq;exact⟨fu,hr.trans hend⟩
  ·cases h
end
theorem D1h (u:List UInt8):(A06 u).1.s.length<=u.length:=by
 unfold A06
 cases G9 4 0 0 u with
 |true=>exact Ak _
 |false=>exact Bh _
theorem D7m (u:List UInt8):(zW u).1.s.length<=u.length:=by
 unfold zW
 cases h:eN u with
 |none=>exact Bh _
 |some b =>
  have:=(uT _ u b (Ak _) h).2.2;dsimp only
  cases G9 5 0 0 b with
  |true=>exact this
  |false=>exact Bh _
theorem D1t {s:List UInt8}{r:TR×Nat}(h:fU s=some r):r.1.t.length<=s.length/\r.1.vs.length<=s.length:=by
 rcases s with _|⟨c,t⟩
 ·cases h
 rw[fU]at h;split at h
 ·obtain⟨q,hq,h⟩:=Ab.1 h;obtain⟨-,h⟩:=B8 h;injection h with h;subst h;obtain⟨h1,h2,-⟩:=iX _ t q.1 q.2.1 q.2.2 (Ak _) hq;have hl:=congrArg Bn h2;have:=nI h1;have:=D1h q.2.1;simp only[Af,Ac]at hl ⊢;exact⟨Bh _,by show(A06 q.2.1).1.s.length<=_;omega⟩
 split at h
 ·obtain⟨q,hq,h⟩:=Ab.1 h;obtain⟨-,h⟩:=B8 h;injection h with h;subst h;obtain⟨h1,h2,-⟩:=iX _ t.tail q.1 q.2.1 q.2.2 (Ak _) hq;have hl:=congrArg Bn h2;have:=nI h1;have:=D7m q.2.1;simp only[Af,Ac,List.length_tail]at hl ⊢;exact⟨Bh _,by show(zW q.2.1).1.s.length<=_;omega⟩
 split at h
 ·obtain⟨p,hp,h⟩:=Option.map_eq_some_iff.1 h;subst h;show(jI p).t.length<=_/\(jI p).vs.length<=_;unfold jI
  cases decide (0<p.2)<;>exact⟨Bh _,Bh _⟩
 split at h
 ·obtain⟨-,h⟩:=B8 h;injection h with h;subst h;exact⟨iN _,Bh _⟩
 split at h
 ·obtain⟨-,h⟩:=B8 h;injection h with h;subst h;exact⟨iN _,Bh _⟩
 rcases t with _|⟨d,t⟩
 ·rw[jU]at h;obtain⟨-,h⟩:=B8 h;injection h with h;subst h;exact⟨Ak _,Bh _⟩
 ·rw[jU]at h
  cases hc:D1 sg2 [c,d]with
  |true =>
   rw[hc]at h;injection h with h;subst h;exact⟨by simp,Bh _⟩
  |false =>
   rw[hc,cond_false]at h;obtain⟨-,h⟩:=B8 h;injection h with h;subst h;exact⟨by simp,Bh _⟩
theorem A3h:∀(f i:Nat) (s:List UInt8) (l:List TR),cN f i s=.inr l->∀t∈l,t.t.length<=s.length/\t.vs.length<=s.length
 |0,i,s,l,h=>by
  rw[cN]at h;injection h with h;subst h
  exact fun t h=>by cases h
 |f+1,i,[],l,h=>by
  rw[cN]at h;injection h with h;subst h
  exact fun t h=>by cases h
 |f+1,i,c::t,l,h=>by
  rw[cN]at h;split at h
  ·intro x hx;have:=A3h f _ t l h x hx;simp only[Ac];omega
  ·split at h
   ·cases h
   ·rename_i r hr;split at h
    ·cases h
    ·rename_i l' hl';injection h with h;subst h;obtain⟨g1,g2⟩:=D1t hr;intro x hx;rcases Be.1 hx with rfl|hx
     ·exact⟨g1,g2⟩
     ·have:=A3h f _ _ l' hl' x hx;rw[Ax]at this;omega
theorem B13 {s:List UInt8}{l:List TR}(h:oH s=.inr l):dK l/\mK l/\l.length<=2000:=by
 unfold oH at h
 cases hs:decide (2000<s.length)with
 |true=>rw[hs]at h;cases h
 |false =>
  rw[hs,cond_false]at h;have hs:=of_decide_eq_false hs;refine⟨C4t (by omega) h,fun t ht=>?_,?_⟩
  ·have:=A3h _ _ _ _ h t ht;omega
  ·have:=(A0b _ _ _ _ h).1;omega
def kS (x:XR):Bool:=match er 6000 x with
 |none=>false
 |some t=>S3 60 t
def uS (e:Int)(T:List TR):Int ⊕ XR:=match T9 e (nW e 20) T with
 |.bad a=>.inl a
 |.ok x []=>bif kS x then .inr x else .inl 0
 |.ok _ (t::_)=>.inl t.a
def gI (s:List UInt8):Int ⊕ XR:=match oH s with
 |.inl a=>.inl a
 |.inr T=>uS s.length T
theorem A25 {e:Int}{T:List TR}(h:mK T)(hl:T.length<=2000){x:XR}{R:List TR}(hx:T9 e (nW e 20) T=.ok x R):∃t,er 6000 x=some t:=by
 obtain⟨h1,-,-⟩:=D01 (e:=e) (low:=nW e 20) (E85 e 20) h x R hx;exact h1.le (by omega)
def rgX (x:XR):Option Bool:=uF 6000 x 0
theorem B7u {x:XR}{t:TX}(h:er 6000 x=some t):rgX x=some (kS x):=by
 unfold rgX uF kS;rw[h];rfl
theorem E64 (f:XR->Option Bool):(tXB f).nat:=by
 intro R xs k;simp only[tXB];split
 ·simp only[F4,Ad,Aa]
 ·rfl
theorem xH:D8 F6 Ws 23 (tXB rgX):=by
 have h1:D8 F6 Ws 23 (tXb rgX):=A8c D4 (A0 (B29 6000) A2) A7 (h:=I4) Tryz.func23 rfl (by decide) fun e r h=>⟨0,(D42 (uF 6000) 0 e).trans (by
  have h:uF 6000 e 0=some r:=h;rw[h]
  rfl)⟩
 refine O3 h1 (E64 _) rfl fun xs r h=>?_;simp only[tXB]at h;split at h
 ·obtain⟨hz,h⟩:=A5 h;subst hz;exact h
 ·cases h
def B1u (o:Int ⊕ XR):XR×Int×Int:=match o with
 |.inl a=>(XR.zero,a,170)
 |.inr x=>(x,0,0)
def C0l (o:Int ⊕ XR):XR×Int×Bool:=match o with
 |.inl a=>(XR.zero,a,false)
 |.inr x=>(x,0,true)
def pxV (r:XR×Int×Int):PV:=.tuple [.agg r.1.cells,.int .i64 r.2.1,.int .i64 r.2.2]
def pyV (r:XR×Int×Bool):PV:=.tuple [.agg r.1.cells,.int .i64 r.2.1,.bool r.2.2]
theorem F75:aZ A32 zJ:=⟨some false,by kernel_rfl⟩
theorem F5n:aZ A32 O7:=⟨some false,by kernel_rfl⟩
theorem D38 {x:XR}{e o a:Int}(ha:0<=a):A3f rgX x (PB e o a)=some (pxV (B1u (.inl a))):=by
 unfold A3f;rw[B1 (show decide ((PB e o a).b<0)=false from decide_eq_false (show ¬a<0 by omega))];unfold C1a;rw[A4 (show decide (0<=(PB e o a).b)=true from decide_eq_true (show 0<=a from ha))];rfl
theorem E5h:D8 F6 Ws 21 (tRd fun s=>some (B1u (gI s))) :=
 E4d D4 (A0 C1u (A0 xH A2)) (A3 (pok X3 231).expr (A3 (aM X3) A7)) (h:=I4) Tryz.func21 rfl (by decide) fun s r h=>⟨0,(D0o C6z (nX A32 231).expr jH rgX 0 s).trans (by
  injection h with h;subst h;unfold C6z gI;rw[Aa]
  cases hl:oH s with
  |inl a=>rfl
  |inr T =>
   obtain⟨hT,hs,hn⟩:=B13 hl;rw[B1 (by rfl)];have hg:=(F5z (e:=(s.length:Int)) (by omega) F75 F5n (d:=231) (Ak _)).good (some T.isEmpty) T hT;have hst:(⟨(A2n (.inr T)).nl,(A2n (.inr T)).n,(A2n (.inr T)).cs,(s.length:Int),0,-1⟩:PS)=PG (s.length:Int) (some T.isEmpty) 0 T:=rfl;rw[hst];show _=some (pxV (B1u (uS (s.length:Int) T)));unfold uS
   cases hx:T9 (s.length:Int) (nW (s.length:Int) 20) T with
   |bad a =>
    rw[hx]at hg;obtain⟨ha,y,hy⟩:=hg;rw[hy,Aa,B1 (by rfl)];exact D38 ha
   |ok x R =>
    rw[hx]at hg;obtain⟨hR,hy⟩:=hg;rw[hy,Aa]
    cases R with
    |nil =>
     obtain⟨t,ht⟩:=A25 hs hn hx;rw[B1 (by rfl)];unfold A3f;rw[A4 (by rfl),B7u ht,Aa];dsimp only
     cases kS x<;>rfl
    |cons t R =>
     rw[A4 (by exact decide_eq_true (show(0:Int)<(((t::R).length:Nat):Int)by simp only[Ac];omega)),zC,Aa]
     exact D38 (hT.at0 t (hR.subset (An ..))))⟩
theorem E8r (f:List UInt8->Option (XR×Int×Int))(fu:Nat)(s:List UInt8):C6 (F8 [(21,tRd f)] [] []) I4 fu false Tryz.f9 [.str s]=(f s).bind fun r=>some (pxV r):=by kernel_rfl
def pxD (s:List UInt8):Option (XR×Int×Int):=some (B1u (gI s))
theorem F4x:D8 F6 Ws 9 (tPx pxD):=E1o D4 (A0 E5h A2) A7 (h:=I4) Tryz.func9 rfl (by decide) fun s r h=>⟨0,(E8r _ 0 s).trans (by injection h with h;rw[h];rfl)⟩
theorem D4l (f:XR->Int->Option Bool):(C6d f).nat:=by
 intro R xs k;simp only[C6d];split
 ·simp only[F3,Ad,Aa]
 ·rfl
theorem B75:D8 F6 Ws 20 (C6d (uF 6000)):=O3 (D1x 6000) (D4l _) rfl fun xs r h=>h
theorem A35 {x:XR}{a:Int}(ha:0<=a):yI (uF 6000) x a=some (pyV (C0l (.inl a))):=by
 unfold yI;rw[B1 (decide_eq_false (by omega))];unfold C03;rw[A4 (decide_eq_true ha)];rfl
def pyD (s:List UInt8):Option (XR×Int×Bool):=some (C0l (gI s))
theorem F4s:D8 F6 Ws 10 (tPy pyD) :=
 E2l D4 (A0 D24 (A0 B75 A2)) (A3 (rok D4 273).expr (A3 (qB D4) A7)) (h:=I4) Tryz.func10 rfl (by decide) fun s r h=>⟨0,(B76 C2j (dW 273).expr kD (uF 6000) 0 s).trans (by
  injection h with h;subst h;unfold C2j gI;rw[Aa]
  cases hl:oH s with
  |inl a=>rfl
  |inr T =>
   obtain⟨hT,hs,hn⟩:=B13 hl;rw[B1 (by rfl)];have hg:=(F6m (nl:=some T.isEmpty) (e:=(s.length:Int)) (by omega) hT (d:=273) (Ak _)).good 0 (Bh _);have hst:(⟨(A9i (.inr T)).nl,(A9i (.inr T)).n,(A9i (.inr T)).cs,0,(s.length:Int),0,-1⟩:RS)=RX T (some T.isEmpty) (s.length:Int) 0 0 (-1):=rfl;rw[hst];rw[List.drop_zero]at hg;show _=some (pyV (C0l (uS (s.length:Int) T)));unfold uS
   cases hx:T9 (s.length:Int) (nW (s.length:Int) 20) T with
   |bad a =>
    rw[hx]at hg;obtain⟨ha,y,j,o,hj,hy⟩:=hg;rw[hy,Aa,B1 (by exact decide_eq_false (show ¬a<0 by omega))];exact A35 ha
   |ok x R =>
    rw[hx]at hg;obtain⟨j,-,hj,hR,hy⟩:=hg;rw[hy,Aa,A4 (by rfl)]
    cases R with
    |nil =>
     obtain⟨t,ht⟩:=A25 hs hn hx
     have hjl:j=T.length:=by
      have:=congrArg Bn hR;rw[Ax,Ai]at this;omega
     rw[B1 (by exact decide_eq_false (show ¬(j:Int)<(T.length:Int)by omega))];unfold yI;rw[A4 (by rfl),show uF 6000 x 0=some (kS x)from B7u ht,Aa];dsimp only
     cases kS x<;>rfl
    |cons t R =>
     have hjl:j<T.length:=by
      have:=congrArg Bn hR;rw[Ax,Ac]at this;omega
     rw[A4 (by exact decide_eq_true (show(j:Int)<(T.length:Int)by omega)),bQ,Aa,<-hR]
     exact A35 (hT.at0 t (by
      have:t∈T.drop j:=by rw[<-hR];exact An ..
      exact List.mem_of_mem_drop this)))⟩
structure dM where
 nl:Option Bool
 n:Nat
 c:List PV
def dM.pv (z:Nat)(l:dM):PV:=.sl l.nl z l.n l.c
def dM.nil:dM:=⟨some true,0,[]⟩
def dM.put (l:dM)(c:List PV):dM:=⟨l.nl.map (·&& false),l.n+1,l.c++c⟩
def dM.one (c:List PV):dM:=⟨some false,1,c⟩
structure IR where
 x:XR
 n:List UInt8
def IR.cells (i:IR):List PV:=i.x.cells++[.str i.n]
structure OR where
 x:XR
 d:Bool
def OR.cells (i:OR):List PV:=i.x.cells++[.bool i.d]
structure SoR where
 t:List UInt8
 n:List UInt8
def SoR.cells (i:SoR):List PV:=[.str i.t,.str i.n]
structure SR where
 k:Int
 tb:List UInt8
 nm:List UInt8
 un:Bool
 ns:dM
 cs:dM
 rs:dM
 us:dM
 wh:dM
 it:dM
 fr:dM
 on:dM
 gr:dM
 od:dM
 lim:Int
def SR.cells (s:SR):List PV:=[.int .i64 s.k,.str s.tb,.str s.nm,.bool s.un,s.ns.pv 1,s.cs.pv 10,s.rs.pv 1,s.us.pv 14,s.wh.pv 13,s.it.pv 14,s.fr.pv 2,s.on.pv 13,s.gr.pv 13,s.od.pv 14,.int .i64 s.lim]
def SR.zero:SR:=⟨0,[],[],false,.nil,.nil,.nil,.nil,.nil,.nil,.nil,.nil,.nil,.nil,0⟩
section
variable {NG:Nat} {W:World->Prop}
def pH (f:PS->Option (SR×PS)):H7:=⟨fun bs xs k=>match xs with|[.ptr 0 0]=>eS bs fun s=>(f s).bind fun r=>k [r.2.box] (.agg r.1.cells)|_=>none⟩
theorem B1p (f:PS->Option (SR×PS)):(pH f).nat:=by
 intro R bs xs k;simp only[pH];split
 ·simp only[H4,F3,F4,Ad,Aa]
 ·rfl
theorem A21 (hW:Y0 NG W){l:List (FuncId×D5)}(hl:E0 NG W l){lh:List (FuncId×H7)}(hh:I9 NG W lh){h:B4}{f:FuncId}{fn:Func}(hf:Tryz.prog.funcs[f]? =some fn)(hb:fn.body.isSome=true)(hname:fn.name≠ "runtime.NumGoroutine"){g:PS->Option (SR×PS)}(hr:∀s r,g s=some r->∃fu,∀(K:KR),C5 (F8 l lh []) h fu fn [s.box] [.ptr 0 0] K=K [r.2.box] (.agg r.1.cells)):P9 NG W f (pH g) :=
 E4 hW hl hh B3 (h:=h) hf hb hname (B1p g) fun bs xs r h=>by
  simp only[pH]at h;split at h
  ·obtain⟨s,hbs,hs⟩:=H3 h;subst hbs;obtain⟨qq,hq,hend⟩:=Ab.1 hs;obtain⟨fu,hr⟩:=hr s _ hq;exact⟨fu,(hr _).trans hend⟩
  ·cases h
theorem mC {f:FuncId}{g:PS->Option (SR×PS)}(hg:∀s,g s=none):P9 NG W f (pH g) where
 nat:=B1p _
 call:=by
  intro M β bs xs vs bs' r _ _ _ _ _ h;exfalso;simp only[pH]at h;split at h
  ·obtain⟨s,-,hs⟩:=H3 h;rw[hg]at hs
   cases hs
  ·cases h
def C8l (f:PS->Option (IR×PS)):H7:=⟨fun bs xs k=>match xs with|[.ptr 0 0]=>eS bs fun s=>(f s).bind fun r=>k [r.2.box] (.agg r.1.cells)|_=>none⟩
theorem D7g (f:PS->Option (IR×PS)):(C8l f).nat:=by
 intro R bs xs k;simp only[C8l];split
 ·simp only[H4,F3,F4,Ad,Aa]
 ·rfl
theorem C9z (hW:Y0 NG W){l:List (FuncId×D5)}(hl:E0 NG W l){lh:List (FuncId×H7)}(hh:I9 NG W lh){h:B4}{f:FuncId}{fn:Func}(hf:Tryz.prog.funcs[f]? =some fn)(hb:fn.body.isSome=true)(hname:fn.name≠ "runtime.NumGoroutine"){g:PS->Option (IR×PS)}(hr:∀s r,g s=some r->∃fu,∀(K:KR),C5 (F8 l lh []) h fu fn [s.box] [.ptr 0 0] K=K [r.2.box] (.agg r.1.cells)):P9 NG W f (C8l g) :=
 E4 hW hl hh B3 (h:=h) hf hb hname (D7g g) fun bs xs r h=>by
  simp only[C8l]at h;split at h
  ·obtain⟨s,hbs,hs⟩:=H3 h;subst hbs;obtain⟨qq,hq,hend⟩:=Ab.1 hs;obtain⟨fu,hr⟩:=hr s _ hq;exact⟨fu,(hr _).trans hend⟩
  ·cases h
def C50 (f:PS->Option (OR×PS)):H7:=⟨fun bs xs k=>match xs with|[.ptr 0 0]=>eS bs fun s=>(f s).bind fun r=>k [r.2.box] (.agg r.1.cells)|_=>none⟩
theorem D76 (f:PS->Option (OR×PS)):(C50 f).nat:=by
 intro R bs xs k;simp only[C50];split
 ·simp only[H4,F3,F4,Ad,Aa]
 ·rfl
theorem D13 (hW:Y0 NG W){l:List (FuncId×D5)}(hl:E0 NG W l){lh:List (FuncId×H7)}(hh:I9 NG W lh){h:B4}{f:FuncId}{fn:Func}(hf:Tryz.prog.funcs[f]? =some fn)(hb:fn.body.isSome=true)(hname:fn.name≠ "runtime.NumGoroutine"){g:PS->Option (OR×PS)}(hr:∀s r,g s=some r->∃fu,∀(K:KR),C5 (F8 l lh []) h fu fn [s.box] [.ptr 0 0] K=K [r.2.box] (.agg r.1.cells)):P9 NG W f (C50 g) :=
 E4 hW hl hh B3 (h:=h) hf hb hname (D76 g) fun bs xs r h=>by
  simp only[C50]at h;split at h
  ·obtain⟨s,hbs,hs⟩:=H3 h;subst hbs;obtain⟨qq,hq,hend⟩:=Ab.1 hs;obtain⟨fu,hr⟩:=hr s _ hq;exact⟨fu,(hr _).trans hend⟩
  ·cases h
def C73 (f:PS->Option (SoR×PS)):H7:=⟨fun bs xs k=>match xs with|[.ptr 0 0]=>eS bs fun s=>(f s).bind fun r=>k [r.2.box] (.agg r.1.cells)|_=>none⟩
theorem D3n (f:PS->Option (SoR×PS)):(C73 f).nat:=by
 intro R bs xs k;simp only[C73];split
 ·simp only[H4,F3,F4,Ad,Aa]
 ·rfl
theorem D6j (hW:Y0 NG W){l:List (FuncId×D5)}(hl:E0 NG W l){lh:List (FuncId×H7)}(hh:I9 NG W lh){h:B4}{f:FuncId}{fn:Func}(hf:Tryz.prog.funcs[f]? =some fn)(hb:fn.body.isSome=true)(hname:fn.name≠ "runtime.NumGoroutine"){g:PS->Option (SoR×PS)}(hr:∀s r,g s=some r->∃fu,∀(K:KR),C5 (F8 l lh []) h fu fn [s.box] [.ptr 0 0] K=K [r.2.box] (.agg r.1.cells)):P9 NG W f (C73 g) :=
 E4 hW hl hh B3 (h:=h) hf hb hname (D3n g) fun bs xs r h=>by
  simp only[C73]at h;split at h
  ·obtain⟨s,hbs,hs⟩:=H3 h;subst hbs;obtain⟨qq,hq,hend⟩:=Ab.1 hs;obtain⟨fu,hr⟩:=hr s _ hq;exact⟨fu,(hr _).trans hend⟩
  ·cases h
def tSK (f:PS->Option (dM×PS)):H7:=⟨fun bs xs k=>match xs with|[.ptr 0 0]=>eS bs fun s=>(f s).bind fun r=>k [r.2.box] (r.1.pv 13)|_=>none⟩
theorem E5i (f:PS->Option (dM×PS)):(tSK f).nat:=by
 intro R bs xs k;simp only[tSK];split
 ·simp only[H4,F3,F4,Ad,Aa]
 ·rfl
theorem E21 (hW:Y0 NG W){l:List (FuncId×D5)}(hl:E0 NG W l){lh:List (FuncId×H7)}(hh:I9 NG W lh){h:B4}{f:FuncId}{fn:Func}(hf:Tryz.prog.funcs[f]? =some fn)(hb:fn.body.isSome=true)(hname:fn.name≠ "runtime.NumGoroutine"){g:PS->Option (dM×PS)}(hr:∀s r,g s=some r->∃fu,∀(K:KR),C5 (F8 l lh []) h fu fn [s.box] [.ptr 0 0] K=K [r.2.box] (r.1.pv 13)):P9 NG W f (tSK g) :=
 E4 hW hl hh B3 (h:=h) hf hb hname (E5i g) fun bs xs r h=>by
  simp only[tSK]at h;split at h
  ·obtain⟨s,hbs,hs⟩:=H3 h;subst hbs;obtain⟨qq,hq,hend⟩:=Ab.1 hs;obtain⟨fu,hr⟩:=hr s _ hq;exact⟨fu,(hr _).trans hend⟩
  ·cases h
def C6s (f:PS->Int->Option (dM×PS)):H7:=⟨fun bs xs k=>match xs with|[.ptr 0 0,.int .i64 m,.clo q [.ptr 0 0]]=>if q=1000000+22 then eS bs fun s=>(f s m).bind fun r=>k [r.2.box] (r.1.pv 13)else none|_=>none⟩
theorem D2r (f:PS->Int->Option (dM×PS)):(C6s f).nat:=by
 intro R bs xs k;simp only[C6s];split
 ·simp only[H4,F3,F4,Ad,Aa]
 ·rfl
theorem D6v (hW:Y0 NG W){l:List (FuncId×D5)}(hl:E0 NG W l){lh:List (FuncId×H7)}(hh:I9 NG W lh){h:B4}{f:FuncId}{fn:Func}(hf:Tryz.prog.funcs[f]? =some fn)(hb:fn.body.isSome=true)(hname:fn.name≠ "runtime.NumGoroutine"){g:PS->Int->Option (dM×PS)}(hr:∀s (m:Int) r,g s m=some r->∃fu,∀(K:KR),C5 (F8 l lh []) h fu fn [s.box] [.ptr 0 0,.int .i64 m,.clo (1000000+22) [.ptr 0 0]] K=K [r.2.box] (r.1.pv 13)):P9 NG W f (C6s g) :=
 E4 hW hl hh B3 (h:=h) hf hb hname (D2r g) fun bs xs r h=>by
  simp only[C6s]at h;split at h
  ·obtain⟨hzq,h1⟩:=A5 h;subst hzq;obtain⟨s,hbs,hs⟩:=H3 h1;subst hbs;obtain⟨qq,hq,hend⟩:=Ab.1 hs;obtain⟨fu,hr⟩:=hr s _ _ hq;exact⟨fu,(hr _).trans hend⟩
  ·cases h
def C5d (f:PS->Int->Option (dM×PS)):H7:=⟨fun bs xs k=>match xs with|[.ptr 0 0,.int .i64 m,.clo q [.ptr 0 0]]=>if q=1000000+130 then eS bs fun s=>(f s m).bind fun r=>k [r.2.box] (r.1.pv 14)else none|_=>none⟩
theorem D7o (f:PS->Int->Option (dM×PS)):(C5d f).nat:=by
 intro R bs xs k;simp only[C5d];split
 ·simp only[H4,F3,F4,Ad,Aa]
 ·rfl
theorem D5k (hW:Y0 NG W){l:List (FuncId×D5)}(hl:E0 NG W l){lh:List (FuncId×H7)}(hh:I9 NG W lh){h:B4}{f:FuncId}{fn:Func}(hf:Tryz.prog.funcs[f]? =some fn)(hb:fn.body.isSome=true)(hname:fn.name≠ "runtime.NumGoroutine"){g:PS->Int->Option (dM×PS)}(hr:∀s (m:Int) r,g s m=some r->∃fu,∀(K:KR),C5 (F8 l lh []) h fu fn [s.box] [.ptr 0 0,.int .i64 m,.clo (1000000+130) [.ptr 0 0]] K=K [r.2.box] (r.1.pv 14)):P9 NG W f (C5d g) :=
 E4 hW hl hh B3 (h:=h) hf hb hname (D7o g) fun bs xs r h=>by
  simp only[C5d]at h;split at h
  ·obtain⟨hzq,h1⟩:=A5 h;subst hzq;obtain⟨s,hbs,hs⟩:=H3 h1;subst hbs;obtain⟨qq,hq,hend⟩:=Ab.1 hs;obtain⟨fu,hr⟩:=hr s _ _ hq;exact⟨fu,(hr _).trans hend⟩
  ·cases h
def C5j (f:PS->Int->Option (dM×PS)):H7:=⟨fun bs xs k=>match xs with|[.ptr 0 0,.int .i64 m,.clo q [.ptr 0 0]]=>if q=1000000+134 then eS bs fun s=>(f s m).bind fun r=>k [r.2.box] (r.1.pv 14)else none|_=>none⟩
theorem D62 (f:PS->Int->Option (dM×PS)):(C5j f).nat:=by
 intro R bs xs k;simp only[C5j];split
 ·simp only[H4,F3,F4,Ad,Aa]
 ·rfl
theorem D35 (hW:Y0 NG W){l:List (FuncId×D5)}(hl:E0 NG W l){lh:List (FuncId×H7)}(hh:I9 NG W lh){h:B4}{f:FuncId}{fn:Func}(hf:Tryz.prog.funcs[f]? =some fn)(hb:fn.body.isSome=true)(hname:fn.name≠ "runtime.NumGoroutine"){g:PS->Int->Option (dM×PS)}(hr:∀s (m:Int) r,g s m=some r->∃fu,∀(K:KR),C5 (F8 l lh []) h fu fn [s.box] [.ptr 0 0,.int .i64 m,.clo (1000000+134) [.ptr 0 0]] K=K [r.2.box] (r.1.pv 14)):P9 NG W f (C5j g) :=
 E4 hW hl hh B3 (h:=h) hf hb hname (D62 g) fun bs xs r h=>by
  simp only[C5j]at h;split at h
  ·obtain⟨hzq,h1⟩:=A5 h;subst hzq;obtain⟨s,hbs,hs⟩:=H3 h1;subst hbs;obtain⟨qq,hq,hend⟩:=Ab.1 hs;obtain⟨fu,hr⟩:=hr s _ _ hq;exact⟨fu,(hr _).trans hend⟩
  ·cases h
end
def oC {R:Type}(b l:Nat)(x:Option R):Option R:=bif decide (l+1<=9223372036854775807)&&decide ((l+1) * b<=140737488355328)then x else none
def hLs:B4:=⟨[],[(0,⟨[(0,false),(1,false),(2,false),(7,true)],[31]⟩)]⟩
def A00 (q:FuncId)(z:Nat)(m:Int)(A:dM)(s:PS):St:=wZ 31 32 [(0,(.ptr 31 0,0)),(1,(.int .i64 m,0)),(2,(.clo q [.ptr 31 0],0)),(7,(A.pv z,40))] [(31,s.box.map fun x=>(x,0))]
structure FLs where
 ff:PS->Option PS
 fs:PS->Nat->List PV->Option (Bool×PS)
 ft:PS->Option (TR×PS)
section
variable {R:Type}
noncomputable def E4x:Func:=Tryz.f132
noncomputable def C2d (F:FLs)(fp:PS->Option (XR×PS)):K6:=F8 [] [(52,tSU F.ff),(128,tX F.fs),(102,tST F.ft),(22,rS fp)] []
noncomputable def E77 (F:FLs)(fp:PS->Option (XR×PS))(K:List (List PV)->PV->Option R)(st:St):Option R:=bZ (C2d F fp) 1 E4x st fun bs _ v=>K bs v
noncomputable def C9e (F:FLs)(fp:PS->Option (XR×PS))(fu:Nat)(K:List (List PV)->PV->Option R)(n:Nat)(st:St):Option R:=kZ (C2d F fp) hLs fu (E77 F fp K) E4x (fun _=>none) [1,1,0,0] 0 n st
theorem F5m (F:FLs)(fp:PS->Option (XR×PS))(fu:Nat)(s:PS)(m:Int)(K:List (List PV)->PV->Option R) :
 C5 (C2d F fp) hLs fu E4x [s.box] [.ptr 0 0,.int .i64 m,.clo (1000000+22) [.ptr 0 0]] K=C9e F fp fu K fu (A00 (1000000+22) 13 m dM.nil s):=V7.trans (by kernel_rfl)
theorem F5w (F:FLs)(fp:PS->Option (XR×PS))(fu:Nat)(s:PS)(m:Int)(A:dM)(K:List (List PV)->PV->Option R)(G:St->Option R) :
 gJ (C2d F fp) hLs fu (E77 F fp K) E4x [1,1,0,0] (fun _=>none) (A00 (1000000+22) 13 m A s) (fun st=>C2 (hLs.loop.lookup 0) st G)=
  bif decide (s.b<0)then bif decide (m<=(A.n:Int))then(F.ff s).bind fun s=>K [s.box] (A.pv 13)else(fp s).bind fun r=>oC 152 A.n ((F.fs r.2 1 [.str [44]]).bind fun q=>bif !q.1 then K [q.2.box] ((A.put (r.1.cells)).pv 13)else(F.ft q.2).bind fun t=>G (A00 (1000000+22) 13 m (A.put (r.1.cells)) t.2))else K [s.box] (A.pv 13):=by kernel_rfl
end
section
variable {R:Type}
noncomputable def D9i:Func:=Tryz.f129
noncomputable def C0v (F:FLs)(fp:PS->Option (IR×PS)):K6:=F8 [] [(52,tSU F.ff),(128,tX F.fs),(102,tST F.ft),(130,C8l fp)] []
noncomputable def E6j (F:FLs)(fp:PS->Option (IR×PS))(K:List (List PV)->PV->Option R)(st:St):Option R:=bZ (C0v F fp) 1 D9i st fun bs _ v=>K bs v
noncomputable def D59 (F:FLs)(fp:PS->Option (IR×PS))(fu:Nat)(K:List (List PV)->PV->Option R)(n:Nat)(st:St):Option R:=kZ (C0v F fp) hLs fu (E6j F fp K) D9i (fun _=>none) [1,1,0,0] 0 n st
theorem F3p (F:FLs)(fp:PS->Option (IR×PS))(fu:Nat)(s:PS)(m:Int)(K:List (List PV)->PV->Option R) :
 C5 (C0v F fp) hLs fu D9i [s.box] [.ptr 0 0,.int .i64 m,.clo (1000000+130) [.ptr 0 0]] K=D59 F fp fu K fu (A00 (1000000+130) 14 m dM.nil s):=V7.trans (by kernel_rfl)
theorem F3t (F:FLs)(fp:PS->Option (IR×PS))(fu:Nat)(s:PS)(m:Int)(A:dM)(K:List (List PV)->PV->Option R)(G:St->Option R) :
 gJ (C0v F fp) hLs fu (E6j F fp K) D9i [1,1,0,0] (fun _=>none) (A00 (1000000+130) 14 m A s) (fun st=>C2 (hLs.loop.lookup 0) st G)=
  bif decide (s.b<0)then bif decide (m<=(A.n:Int))then(F.ff s).bind fun s=>K [s.box] (A.pv 14)else(fp s).bind fun r=>oC 168 A.n ((F.fs r.2 1 [.str [44]]).bind fun q=>bif !q.1 then K [q.2.box] ((A.put (r.1.cells)).pv 14)else(F.ft q.2).bind fun t=>G (A00 (1000000+130) 14 m (A.put (r.1.cells)) t.2))else K [s.box] (A.pv 14):=by kernel_rfl
end
section
variable {R:Type}
noncomputable def E5l:Func:=Tryz.f133
noncomputable def C0e (F:FLs)(fp:PS->Option (OR×PS)):K6:=F8 [] [(52,tSU F.ff),(128,tX F.fs),(102,tST F.ft),(134,C50 fp)] []
noncomputable def E6v (F:FLs)(fp:PS->Option (OR×PS))(K:List (List PV)->PV->Option R)(st:St):Option R:=bZ (C0e F fp) 1 E5l st fun bs _ v=>K bs v
noncomputable def D83 (F:FLs)(fp:PS->Option (OR×PS))(fu:Nat)(K:List (List PV)->PV->Option R)(n:Nat)(st:St):Option R:=kZ (C0e F fp) hLs fu (E6v F fp K) E5l (fun _=>none) [1,1,0,0] 0 n st
theorem F4c (F:FLs)(fp:PS->Option (OR×PS))(fu:Nat)(s:PS)(m:Int)(K:List (List PV)->PV->Option R) :
 C5 (C0e F fp) hLs fu E5l [s.box] [.ptr 0 0,.int .i64 m,.clo (1000000+134) [.ptr 0 0]] K=D83 F fp fu K fu (A00 (1000000+134) 14 m dM.nil s):=V7.trans (by kernel_rfl)
theorem F41 (F:FLs)(fp:PS->Option (OR×PS))(fu:Nat)(s:PS)(m:Int)(A:dM)(K:List (List PV)->PV->Option R)(G:St->Option R) :
 gJ (C0e F fp) hLs fu (E6v F fp K) E5l [1,1,0,0] (fun _=>none) (A00 (1000000+134) 14 m A s) (fun st=>C2 (hLs.loop.lookup 0) st G)=
  bif decide (s.b<0)then bif decide (m<=(A.n:Int))then(F.ff s).bind fun s=>K [s.box] (A.pv 14)else(fp s).bind fun r=>oC 160 A.n ((F.fs r.2 1 [.str [44]]).bind fun q=>bif !q.1 then K [q.2.box] ((A.put (r.1.cells)).pv 14)else(F.ft q.2).bind fun t=>G (A00 (1000000+134) 14 m (A.put (r.1.cells)) t.2))else K [s.box] (A.pv 14):=by kernel_rfl
end
section
variable {R:Type}
end
section
variable {R:Type}
end
section
variable {R:Type}
end
section
variable {R:Type}
end
section
variable {R:Type}
theorem E8u (fk:PS->List UInt8->Option (Bool×PS))(fn:PS->Option (List UInt8×PS))(fu:Nat)(s:PS)(K:List (List PV)->PV->Option R) :
 C5 (F8 [] [(64,pX fk),(115,tSS fn)] []) I4 fu Tryz.f201 [s.box] [.ptr 0 0] K=(fk s [65,83]).bind fun q=>bif !q.1 then K [q.2.box] (.str [])else(fn q.2).bind fun r=>K [r.2.box] (.str r.1):=by kernel_rfl
theorem B85 (fn fa:PS->Option (List UInt8×PS))(fu:Nat)(s:PS)(K:List (List PV)->PV->Option R) :
 C5 (F8 [] [(115,tSS fn),(201,tSS fa)] []) I4 fu Tryz.f131 [s.box] [.ptr 0 0] K=(fn s).bind fun q=>(fa q.2).bind fun r=>K [r.2.box] (.agg (SoR.cells ⟨q.1,r.1⟩)):=by kernel_rfl
theorem D7v (fx:PS->Option (XR×PS))(fa:PS->Option (List UInt8×PS))(fu:Nat)(s:PS)(K:List (List PV)->PV->Option R) :
 C5 (F8 [] [(22,rS fx),(201,tSS fa)] []) I4 fu Tryz.f130 [s.box] [.ptr 0 0] K=(fx s).bind fun q=>(fa q.2).bind fun r=>K [r.2.box] (.agg (IR.cells ⟨q.1,r.1⟩)):=by kernel_rfl
theorem C7z (fx:PS->Option (XR×PS))(fk:PS->List UInt8->Option (Bool×PS))(fu:Nat)(s:PS)(K:List (List PV)->PV->Option R) :
 C5 (F8 [] [(22,rS fx),(64,pX fk)] []) I4 fu Tryz.f134 [s.box] [.ptr 0 0] K=(fx s).bind fun q=>(fk q.2 [68,69,83,67]).bind fun r=>K [r.2.box] (.agg (OR.cells ⟨q.1,r.1⟩)):=by kernel_rfl
theorem C5x (fk:PS->List UInt8->Option (Bool×PS))(fx:PS->Option (XR×PS))(fu:Nat)(s:PS)(K:List (List PV)->PV->Option R) :
 C5 (F8 [] [(64,pX fk),(22,rS fx)] []) I4 fu Tryz.f127 [s.box] [.ptr 0 0] K=(fk s [87,72,69,82,69]).bind fun q=>bif !q.1 then K [q.2.box] (dM.nil.pv 13)else(fx q.2).bind fun r=>K [r.2.box] ((dM.one r.1.cells).pv 13):=by kernel_rfl
theorem B7o (fw:PS->List UInt8->Option PS)(fn:PS->Option (List UInt8×PS))(fh:PS->Option (dM×PS))(fu:Nat)(s:PS)(K:List (List PV)->PV->Option R) :
 C5 (F8 [] [(118,wT fw),(115,tSS fn),(127,tSK fh)] []) I4 fu Tryz.f70 [s.box] [.ptr 0 0] K =
  (fw s [70,82,79,77]).bind fun s=>(fn s).bind fun q=>(fh q.2).bind fun r=>K [r.2.box] (.agg (SR.cells ⟨8,q.1,[],false,.nil,.nil,.nil,.nil,r.1,.nil,.nil,.nil,.nil,.nil,-1⟩)):=by kernel_rfl
structure FSe where
 fs:PS->Nat->List PV->Option (Bool×PS)
 ft:PS->Option (TR×PS)
 li:PS->Int->Option (dM×PS)
 fw:PS->List UInt8->Option PS
 fo:PS->Option (SoR×PS)
 fk:PS->List UInt8->Option (Bool×PS)
 fx:PS->Option (XR×PS)
 fh:PS->Option (dM×PS)
 le:PS->Int->Option (dM×PS)
 lo:PS->Int->Option (dM×PS)
 fn:PS->Int->Option (Int×PS)
noncomputable def F91 (F:FSe):K6:=F8 [] [(128,tX F.fs),(102,tST F.ft),(129,C5d F.li),(118,wT F.fw),(131,C73 F.fo),(64,pX F.fk),(22,rS F.fx),(127,tSK F.fh),(132,C6s F.le),(133,C5j F.lo),(135,B9m F.fn)] []
section
variable (F:FSe) (K:SR->PS->Option R)
def F25 (it fr on wh gr od:dM)(s:PS):Option R:=(F.fk s [76,73,77,73,84]).bind fun q=>bif q.1 then(F.fn q.2 1000000).bind fun n=>K ⟨9,[],[],false,.nil,.nil,.nil,.nil,wh,it,fr,on,gr,od,n.1⟩ n.2 else K ⟨9,[],[],false,.nil,.nil,.nil,.nil,wh,it,fr,on,gr,od,-1⟩ q.2
def E9f (it fr on wh gr:dM)(s:PS):Option R:=(F.fk s [79,82,68,69,82]).bind fun q=>bif q.1 then(F.fw q.2 [66,89]).bind fun s=>(F.lo s 20).bind fun l=>F25 F K it fr on wh gr l.1 l.2 else F25 F K it fr on wh gr .nil q.2
def E9q (it fr on:dM)(s:PS):Option R:=(F.fh s).bind fun w=>(F.fk w.2 [71,82,79,85,80]).bind fun q=>bif q.1 then(F.fw q.2 [66,89]).bind fun s=>(F.le s 20).bind fun l=>E9f F K it fr on w.1 l.1 l.2 else E9f F K it fr on w.1 .nil q.2
def F28 (it:dM)(s:PS):Option R:=(F.fw s [70,82,79,77]).bind fun s=>(F.fo s).bind fun f=>(F.fk f.2 [74,79,73,78]).bind fun j=>bif j.1 then(F.fo j.2).bind fun g=>oC 32 1 ((F.fw g.2 [79,78]).bind fun s=>(F.fx s).bind fun x=>E9q F K it ((dM.one f.1.cells).put g.1.cells) (.one x.1.cells) x.2)else E9q F K it (.one f.1.cells) .nil j.2
def D49 (s:PS):Option R:=(F.fs s 1 [.str [42]]).bind fun q=>bif q.1 then(F.ft q.2).bind fun t=>F28 F K .nil t.2 else(F.li q.2 20).bind fun l=>F28 F K l.1 l.2
end
theorem B4u (F:FSe)(fu:Nat)(s:PS)(K:List (List PV)->PV->Option R):C5 (F91 F) I4 fu Tryz.f71 [s.box] [.ptr 0 0] K=D49 F (fun r s=>K [s.box] (.agg r.cells)) s:=by kernel_rfl
structure FSt where
 fk:PS->List UInt8->Option (Bool×PS)
 f1:PS->Option (SR×PS)
 f2:PS->Option (SR×PS)
 f3:PS->Option (SR×PS)
 f4:PS->Option (SR×PS)
 f5:PS->Option (SR×PS)
 f6:PS->Option (SR×PS)
 f7:PS->Option (SR×PS)
 ff:PS->Option PS
noncomputable def F8x (F:FSt):K6:=F8 [] [(64,pX F.fk),(65,pH F.f1),(66,pH F.f2),(67,pH F.f3),(68,pH F.f4),(69,pH F.f5),(70,pH F.f6),(71,pH F.f7),(52,tSU F.ff)] []
def stO (F:FSt)(K:SR->PS->Option R)(s:PS):Option R :=
 (F.fk s [67,82,69,65,84,69]).bind fun q=>bif q.1 then(F.f1 q.2).bind fun r=>K r.1 r.2 else(F.fk q.2 [68,82,79,80]).bind fun q=>bif q.1 then(F.f2 q.2).bind fun r=>K r.1 r.2 else(F.fk q.2 [65,76,84,69,82]).bind fun q=>bif q.1 then(F.f3 q.2).bind fun r=>K r.1 r.2 else
 (F.fk q.2 [73,78,83,69,82,84]).bind fun q=>bif q.1 then(F.f4 q.2).bind fun r=>K r.1 r.2 else(F.fk q.2 [85,80,68,65,84,69]).bind fun q=>bif q.1 then(F.f5 q.2).bind fun r=>K r.1 r.2 else(F.fk q.2 [68,69,76,69,84,69]).bind fun q=>bif q.1 then(F.f6 q.2).bind fun r=>K r.1 r.2 else
 (F.fk q.2 [83,69,76,69,67,84]).bind fun q=>bif q.1 then(F.f7 q.2).bind fun r=>K r.1 r.2 else(F.ff q.2).bind fun s=>K SR.zero s
theorem D6o (F:FSt)(fu:Nat)(s:PS)(K:List (List PV)->PV->Option R):C5 (F8x F) I4 fu Tryz.f31 [s.box] [.ptr 0 0] K=stO F (fun r s=>K [s.box] (.agg r.cells)) s:=by kernel_rfl
end
def C47 {R:Type}(x:PV)(k:SR->Option R):Option R:=match x with
 |.agg [.int .i64 k1,.str tb,.str nm,.bool un,.sl l1 z1 n1 c1,.sl l2 z2 n2 c2,.sl l3 z3 n3 c3,.sl l4 z4 n4 c4,.sl l5 z5 n5 c5,.sl l6 z6 n6 c6,.sl l7 z7 n7 c7,.sl l8 z8 n8 c8,.sl l9 z9 n9 c9,.sl l10 z10 n10 c10,.int .i64 lim]=>
  if(((z1=1/\z2=10)/\(z3=1/\z4=14))/\((z5=13/\z6=14)/\(z7=2/\z8=13)))/\(z9=13/\z10=14)then k ⟨k1,tb,nm,un,⟨l1,n1,c1⟩,⟨l2,n2,c2⟩,⟨l3,n3,c3⟩,⟨l4,n4,c4⟩,⟨l5,n5,c5⟩,⟨l6,n6,c6⟩,⟨l7,n7,c7⟩,⟨l8,n8,c8⟩,⟨l9,n9,c9⟩,⟨l10,n10,c10⟩,lim⟩else none
 |_=>none
theorem D5v {R:Type}{x:PV}{k:SR->Option R}{r:R}(h:C47 x k=some r):∃e:SR,x=.agg e.cells/\k e=some r:=by
 unfold C47 at h;split at h
 ·obtain⟨hz,h⟩:=A5 h;obtain⟨⟨⟨⟨rfl,rfl⟩,rfl,rfl⟩,⟨rfl,rfl⟩,rfl,rfl⟩,rfl,rfl⟩:=hz;exact⟨_,rfl,h⟩
 ·cases h
theorem C5n {R S:Type}{x:PV}{k:SR->Option R}{g:R->Option S}:(C47 x k).bind g=C47 x (fun s=>(k s).bind g):=by
 unfold C47;split
 ·rw[F4]
 ·rfl
def C87 (f:SR->Option Bool):D5:=⟨fun xs k=>match xs with|[x]=>C47 x fun e=>(f e).bind fun b=>k (.bool b)|_=>none,false⟩
theorem D5h (f:SR->Option Bool):(C87 f).nat:=by
 intro R xs k;simp only[C87];split
 ·simp only[C5n,Ad,Aa]
 ·rfl
def B4r (e:SR)(b:Int):Option PV:=bif decide ((0:Int)<=b)then some (.tuple [.agg SR.zero.cells,.int .i64 b,.int .i64 170])else some (.tuple [.agg e.cells,.int .i64 0,.int .i64 0])
def A89 (fr:SR->Option Bool)(e:SR)(s:PS):Option PV:=bif decide (s.b<0)then(fr e).bind fun ok=>bif !ok then B4r e 0 else B4r e s.b else B4r e s.b
theorem C78 (fl:List UInt8->Option LX)(fe:PS->Option (SR×PS))(ff:PS->Option PS)(fr:SR->Option Bool)(fu:Nat)(w:List UInt8) :
 C6 (F8 [(51,tLx fl),(32,C87 fr)] [(31,pH fe),(52,tSU ff)] []) I4 fu false Tryz.f30 [.str w,.clo 31 [],.clo 32 []]=
  (fl w).bind fun l=>bif l.e !=0 then some (.tuple [.agg SR.zero.cells,.int .i64 l.a,.int .i64 l.e])else(fe ⟨l.nl,l.n,l.cs,(w.length:Int),0,-1⟩).bind fun e=>bif decide ((0:Int)<(e.2.n:Int))then(ff e.2).bind fun s=>A89 fr e.1 s else A89 fr e.1 e.2:=by kernel_rfl
theorem B8a {α β:Type}{b l:Nat}{x:Option α}{k:α->Option β}:(oC b l x).bind k=oC b l (x.bind k):=by unfold oC;rw[B5];rfl
def xE:PS->Option (XR×PS):=(nX A32 231).expr
def wE:PS->List UInt8->Option PS:=sI A32
theorem B4f:P9 F6 Ws 22 (rS xE):=(pok X3 231).expr
theorem E7w:P9 F6 Ws 118 (wT wE):=A9a X3
def asP (s:PS):Option (List UInt8×PS):=(iH s [65,83]).bind fun q=>bif !q.1 then some ([],q.2)else(sD q.2).bind fun r=>some (r.1,r.2)
theorem E7q:P9 F6 Ws 201 (tSS asP):=C3g D4 A2 (A3 (mT X3) (A3 (A0r X3) A7)) Tryz.func201 rfl (by decide) fun s=>⟨0,fun K=>(E8u _ _ 0 s K).trans (by simp only[asP,B5,Ad,Aa])⟩
def A11 (s:PS):Option (SoR×PS):=(sD s).bind fun q=>(asP q.2).bind fun r=>some (⟨q.1,r.1⟩,r.2)
theorem C7n:P9 F6 Ws 131 (C73 A11):=D6j D4 A2 (A3 (A0r X3) (A3 E7q A7)) (h:=I4) Tryz.func131 rfl (by decide) fun s r h=>⟨0,fun K=>(B85 _ _ 0 s K).trans (Cw (b:=(A11 s).bind fun r=>K [r.2.box] (.agg r.1.cells)) (by simp only[A11,Ad,Aa]) (by rw[h,Aa]))⟩
def zB (s:PS):Option (IR×PS):=(xE s).bind fun q=>(asP q.2).bind fun r=>some (⟨q.1,r.1⟩,r.2)
theorem E3d:P9 F6 Ws 130 (C8l zB):=C9z D4 A2 (A3 B4f (A3 E7q A7)) (h:=I4) Tryz.func130 rfl (by decide) fun s r h=>⟨0,fun K=>(D7v _ _ 0 s K).trans (Cw (b:=(zB s).bind fun r=>K [r.2.box] (.agg r.1.cells)) (by simp only[zB,Ad,Aa]) (by rw[h,Aa]))⟩
def pI (s:PS):Option (OR×PS):=(xE s).bind fun q=>(iH q.2 [68,69,83,67]).bind fun r=>some (⟨q.1,r.1⟩,r.2)
theorem D0r:P9 F6 Ws 134 (C50 pI):=D13 D4 A2 (A3 B4f (A3 (mT X3) A7)) (h:=I4) Tryz.func134 rfl (by decide) fun s r h=>⟨0,fun K=>(C7z _ _ 0 s K).trans (Cw (b:=(pI s).bind fun r=>K [r.2.box] (.agg r.1.cells)) (by simp only[pI,Ad,Aa]) (by rw[h,Aa]))⟩
def A30 (s:PS):Option (dM×PS):=(iH s [87,72,69,82,69]).bind fun q=>bif !q.1 then some (.nil,q.2)else(xE q.2).bind fun r=>some (.one r.1.cells,r.2)
theorem B3d:P9 F6 Ws 127 (tSK A30):=E21 D4 A2 (A3 (mT X3) (A3 B4f A7)) (h:=I4) Tryz.func127 rfl (by decide) fun s r h=>⟨0,fun K=>(C5x _ _ 0 s K).trans (Cw (b:=(A30 s).bind fun r=>K [r.2.box] (r.1.pv 13)) (by simp only[A30,B5,Ad,Aa]) (by rw[h,Aa]))⟩
def A0j (s:PS):Option (SR×PS):=(wE s [70,82,79,77]).bind fun s=>(sD s).bind fun q=>(A30 q.2).bind fun r=>some (⟨8,q.1,[],false,.nil,.nil,.nil,.nil,r.1,.nil,.nil,.nil,.nil,.nil,-1⟩,r.2)
theorem C86:P9 F6 Ws 70 (pH A0j):=A21 D4 A2 (A3 E7w (A3 (A0r X3) (A3 B3d A7))) (h:=I4) Tryz.func70 rfl (by decide) fun s r h=>⟨0,fun K=>(B7o _ _ _ 0 s K).trans (Cw (b:=(A0j s).bind fun r=>K [r.2.box] (.agg r.1.cells)) (by simp only[A0j,Ad,Aa]) (by rw[h,Aa]))⟩
def lsF:FLs:=⟨jH,bP,I6⟩
def lsP {α:Type}(b:Nat)(cel:α->List PV)(fp:PS->Option (α×PS))(m:Int):Nat->dM->PS->Option (dM×PS)
 |0,_,_=>none
 |k+1,A,s=>bif decide (s.b<0)then bif decide (m<=(A.n:Int))then(jH s).bind fun s=>some (A,s)else(fp s).bind fun r=>oC b A.n ((bP r.2 1 [.str [44]]).bind fun q=>bif !q.1 then some (A.put (cel r.1),q.2)else(I6 q.2).bind fun t=>lsP b cel fp m k (A.put (cel r.1)) t.2)else some (A,s)
theorem A0e {α R:Type}(b z:Nat)(cel:α->List PV)(fp:PS->Option (α×PS))(m:Int)(K:List (List PV)->PV->Option R)(lp:Nat->St->Option R)(fr:dM->PS->St)
  (hs:∀n A s,lp (n+1) (fr A s)=bif decide (s.b<0)then bif decide (m<=(A.n:Int))then(jH s).bind fun s=>K [s.box] (A.pv z)else(fp s).bind fun r=>oC b A.n ((bP r.2 1 [.str [44]]).bind fun q=>bif !q.1 then K [q.2.box] ((A.put (cel r.1)).pv z)else(I6 q.2).bind fun t=>lp n (fr (A.put (cel r.1)) t.2))else K [s.box] (A.pv z)) :
  ∀(k:Nat) (A:dM) (s:PS) (q:dM×PS),lsP b cel fp m k A s=some q->lp k (fr A s)=K [q.2.box] (q.1.pv z)
 |0,A,s,q,h=>by cases h
 |k+1,A,s,q,h=>by
  rw[hs];rw[lsP]at h
  cases h0:decide (s.b<0)with
  |false =>
   rw[h0,cond_false]at h;injection h with h;subst h;rfl
  |true =>
   rw[h0,cond_true]at h;rw[cond_true]
   cases h1:decide (m<=(A.n:Int))with
   |true =>
    rw[h1,cond_true]at h;obtain⟨s',h2,h⟩:=Ab.1 h;injection h with h;subst h;rw[cond_true,h2,Aa]
   |false =>
    rw[h1,cond_false]at h;obtain⟨r,h2,h⟩:=Ab.1 h;rw[cond_false,h2,Aa];unfold oC at h ⊢
    cases h3:(decide (A.n+1<=9223372036854775807)&&decide ((A.n+1) * b<=140737488355328))with
    |false=>rw[h3,cond_false]at h;cases h
    |true =>
     rw[h3,cond_true]at h;obtain⟨p,h4,h⟩:=Ab.1 h;rw[cond_true,h4,Aa]
     cases h5:p.1 with
     |false =>
      rw[h5]at h;injection h with h;subst h;rfl
     |true =>
      rw[h5]at h;obtain⟨t,h6,h⟩:=Ab.1 h;show(I6 p.2).bind _=_;rw[h6,Aa];exact A0e b z cel fp m K lp fr hs k _ _ q h
def E7y (s:PS)(m:Int):Option (dM×PS):=lsP 152 XR.cells xE m (m.toNat+2) .nil s
theorem E11:P9 F6 Ws 132 (C6s E7y) :=
 D6v D4 A2 (A3 (aM X3) (A3 (fC X3) (A3 (Q9 X3) (A3 B4f A7)))) (h:=hLs) Tryz.func132 rfl (by decide) fun s m r h=>⟨m.toNat+2,fun K=>(F5m lsF xE _ s m K).trans
  (A0e 152 13 XR.cells xE m K (C9e lsF xE _ K) (A00 (1000000+22) 13 m) (fun n A s=>by unfold C9e;rw[R6];exact F5w lsF xE _ s m A K _) _ _ _ _ h)⟩
def E7l (s:PS)(m:Int):Option (dM×PS):=lsP 168 IR.cells zB m (m.toNat+2) .nil s
theorem E3c:P9 F6 Ws 129 (C5d E7l) :=
 D5k D4 A2 (A3 (aM X3) (A3 (fC X3) (A3 (Q9 X3) (A3 E3d A7)))) (h:=hLs) Tryz.func129 rfl (by decide) fun s m r h=>⟨m.toNat+2,fun K=>(F3p lsF zB _ s m K).trans
  (A0e 168 14 IR.cells zB m K (D59 lsF zB _ K) (A00 (1000000+130) 14 m) (fun n A s=>by unfold D59;rw[R6];exact F3t lsF zB _ s m A K _) _ _ _ _ h)⟩
def E7t (s:PS)(m:Int):Option (dM×PS):=lsP 160 OR.cells pI m (m.toNat+2) .nil s
theorem E02:P9 F6 Ws 133 (C5j E7t) :=
 D35 D4 A2 (A3 (aM X3) (A3 (fC X3) (A3 (Q9 X3) (A3 D0r A7)))) (h:=hLs) Tryz.func133 rfl (by decide) fun s m r h=>⟨m.toNat+2,fun K=>(F4c lsF pI _ s m K).trans
  (A0e 160 14 OR.cells pI m K (D83 lsF pI _ K) (A00 (1000000+134) 14 m) (fun n A s=>by unfold D83;rw[R6];exact F41 lsF pI _ s m A K _) _ _ _ _ h)⟩
def seF:FSe:=⟨bP,I6,E7l,wE,A11,iH,xE,A30,E7y,E7t,gR⟩
theorem D18 {R:Type}(F:FSe)(K:SR->PS->Option R)(s:PS):D49 F K s=(D49 F (fun r s=>some (r,s)) s).bind fun r=>K r.1 r.2:=by
 simp only[D49,F28,E9q,E9f,F25,B5,B8a,Ad,Aa]
def E8f (s:PS):Option (SR×PS):=D49 seF (fun r s=>some (r,s)) s
theorem F23:P9 F6 Ws 71 (pH E8f) :=
 A21 D4 A2 (A3 (fC X3) (A3 (Q9 X3) (A3 E3c (A3 E7w (A3 C7n (A3 (mT X3) (A3 B4f (A3 B3d (A3 E11 (A3 E02 (A3 (A4o X3) A7))))))))))) (h:=I4) Tryz.func71 rfl (by decide)
  fun s r h=>⟨0,fun K=>(B4u seF 0 s K).trans ((D18 seF _ s).trans (by show(E8f s).bind _=_;rw[h,Aa]))⟩
def noS:PS->Option (SR×PS):=fun _=>none
def stF:FSt:=⟨iH,noS,noS,noS,noS,noS,A0j,E8f,jH⟩
theorem E3a {R:Type}(F:FSt)(K:SR->PS->Option R)(s:PS):stO F K s=(stO F (fun r s=>some (r,s)) s).bind fun r=>K r.1 r.2:=by
 simp only[stO,B5,Ad,Aa]
def C2p (s:PS):Option (SR×PS):=stO stF (fun r s=>some (r,s)) s
theorem E5x:P9 F6 Ws 31 (pH C2p) :=
 A21 D4 A2 (A3 (mT X3) (A3 (mC fun _=>rfl) (A3 (mC fun _=>rfl) (A3 (mC fun _=>rfl) (A3 (mC fun _=>rfl) (A3 (mC fun _=>rfl) (A3 C86 (A3 F23 (A3 (aM X3) A7))))))))) (h:=I4) Tryz.func31 rfl (by decide)
  fun s r h=>⟨0,fun K=>(D6o stF 0 s K).trans ((E3a stF _ s).trans (by show(C2p s).bind _=_;rw[h,Aa]))⟩
end Go.Proofs.YtkpfigikffphdaaGreatDoor
end
section
set_option maxRecDepth 100000
namespace Go.Proofs.YtkpfigikffphdaaGreatDoor
open Go.RowKit Go.Lib
theorem A05 (cs:Array Value)(n:Nat):(Builtin.zeroCells cs n).size=n * cs.size:=by
 simp[Builtin.zeroCells]
set_option maxHeartbeats 4000000 in
theorem C85 (n:Nat) (h0:0<n) (hn:n<=1000000) (w:World) :
  Calls Tryz.prog 211 #[.slice none 0 0,.int .i64 n] w fun e w'=>∃G arr,n<=G/\G<=maxLen/\arr.size=G * 13/\e=.returned (.slice (some ⟨w.heap.size,0,none⟩) 0 G)/\w'=w.drew.alloc (.cells arr 31):=by
 have h1:¬((n:Int)<0):=by omega
 have h2:wrap64 ((0:Int)-(0:Int))=0:=by unfold wrap64;omega
 have h3:wrap64 ((n:Int)-0)=(n:Int):=by unfold wrap64;omega
 have h4:(n:Int)>0:=by omega
 obtain⟨i0,hi0,hs0,hb0,z,hz0,hzs⟩:∃i0,Tryz.prog.info? 31=some i0/\i0.size=13/\i0.bytes<=200/\∃z,i0.zero=some z/\z.cells.size=13:=⟨Tryz.t31,by kernel_rfl,by kernel_rfl,by decide,_,rfl,by decide⟩;have hbig:n * i0.bytes<=140737488355328:=Aw (Nat.mul_le_mul hn hb0) (by decide)
 have hrz:∀ty,(Builtin.append_ #[29,3] ty #[.slice none 0 0,.int .i64 (n:Int)]).run Tryz.prog w =
   .ok (.slice (some ⟨w.heap.size,0,none⟩) n (grownCap w n 0 31)) (w.drew.alloc (.cells (#[]++Builtin.zeroCells z.cells n++Builtin.zeroCells z.cells (grownCap w n 0 31-n)) 31)):=fun ty=>by
  have h:=Lib.run_append_grow_zeros w 29 3 ty 31 i0 z .i64 .i64 Tryz.underlying29 Tryz.underlying3 hi0 hz0 none 0 0 [] (run_firstCells_none w.drew i0.size 0 0 0) n h0 (by omega) (by omega) (by omega) (by omega)
   (by rw[Bm];exact growslice_fits (by omega) hbig)
  rw[Bm]at h;exact h
 have hGn:n<=grownCap w n 0 31:=grownCap_ge w _ _ _;have hGm:grownCap w n 0 31<=maxLen:=grownCap_le_maxLen w n 0 31 (by unfold maxLen;omega);obtain⟨G,hG⟩:∃G,G=grownCap w n 0 31:=⟨_,rfl⟩;rw[<-hG]at hrz hGn hGm
 have hG63:G<=9223372036854775807:=by unfold maxLen at hGm;omega
 clear hG
 have key:Calls Tryz.prog 211 #[.slice none 0 0,.int .i64 n] w fun e w'=>e=.returned (.slice (some ⟨w.heap.size,0,none⟩) 0 G)/\w'=w.drew.alloc (.cells (#[]++Builtin.zeroCells z.cells n++Builtin.zeroCells z.cells (G-n)) 31):=by
  go_enter Tryz.func211,Tryz.ntmps211
  go_wp2_with (at_builtin;refine Lib.wpList_append_run _ rfl _ _ _ _ rfl _ _ rfl rfl _ _ (hrz _) ?_)
  all_goals(go_ret;exact⟨rfl,rfl⟩)
 exact key.mono fun e w' ⟨h1,h2⟩=>⟨G,_,hGn,hGm,by
  simp only[Array.size_append,A05,hzs];simp only[List.size_toArray,Ai];rw[Bm,<-Di]
  congr 1;omega,h1,h2⟩
theorem cond_natX {R:Type}{b:Bool}{x:PV}{k:PV->Option R}:(bif b then k x else none)=(bif b then some x else none).bind k:=by cases b<;>rfl
def uK:D5:=⟨fun xs k=>match xs with|[.sl (some true) 13 0 [],.int .i64 n]=>bif decide (0<n)&&decide (n<=1000000)then k (.sl (some false) 13 0 [])else none|_=>none,true⟩
theorem D2d {NG:Nat}{W:World->Prop}:D8 NG W 211 uK where
 nat:=by
  intro R xs k;simp only[uK];split
  ·exact Go.Proofs.YtkpfigikffphdaaGreatDoor.cond_natX
  ·rfl
 call :=by
  intro M xs vs r hW hng hG hr h;simp only[uK]at h;split at h
  ·rename_i n;rcases hb:(decide (0<n)&&decide (n<=1000000))with _|_<;>rw[hb]at h
   ·cases h
   simp only[Ae,decide_eq_true_eq]at hb;injection h with h;subst h;simp only[K9,B7]at hr;obtain⟨_,_,rfl,⟨A,c,cs,rfl,h1,h2,h3,h4,h5,h6,h7⟩,_,_,rfl,rfl,rfl⟩:=hr;have hA:=h3 true rfl
   obtain rfl:A=none:=by cases A<;>simp_all
   obtain rfl:=h4 rfl;obtain⟨m,rfl⟩:∃m:Nat,n=(m:Int):=⟨n.toNat,by omega⟩;refine .inr ⟨?_,(C85 m (by omega) (by omega) M.w).mono ?_⟩
   ·show(callFunc _ _).run Tryz.prog M.w=_;simp[callFunc,Tryz.func211];rw[if_neg (by decide),if_neg (by decide)]
   ·rintro e w' ⟨G,arr,g1,g2,g3,rfl,rfl⟩
    have hb1:Below M.w.heap.size M.w M.w.drew:=(Below.refl _ _).drew;have hm:L4 M (M.lay (M.w.drew.alloc (.cells arr 31)) M.w.heap.size 0) none:=L4.lay (aO hb1 _) (Ak _) 0;refine⟨_,rfl,_,hm,?_,fun _=>⟨_,_,_,_,rfl,.inr ⟨M.w.heap.size,Ak _,⟨0,G,arr,31,rfl,heap_alloc_new _ _,Bh _,g2,g3,?_⟩⟩⟩⟩
    ·simp only[B7];exact⟨_,G,[],rfl,Bh _,g2,(fun b hb=>(by cases hb;rfl)),(fun h=>(by cases h)),rfl,rfl,Or.inl rfl⟩
    ·simp[C4.lay]
  ·cases h
theorem B8i (w:World):Calls Tryz.prog 211 #[.slice none 0 0,.int .i64 0] w fun e w'=>e=.returned (.slice none 0 0)/\w'=w:=by
 have h2:wrap64 ((0:Int)-(0:Int))=0:=by unfold wrap64;omega
 go_enter Tryz.func211,Tryz.ntmps211
 go_wp2
 all_goals(go_ret;exact⟨rfl,rfl⟩)
def A18:D5:=⟨fun xs k=>match xs with|[.sl (some true) 13 0 [],.int .i64 n]=>bif decide (0<=n)&&decide (n<=1000000)then k (.sl (some (n==0)) 13 0 [])else none|_=>none,true⟩
theorem D7f {NG:Nat}{W:World->Prop}:D8 NG W 211 A18 where
 nat:=by
  intro R xs k;simp only[A18];split
  ·exact Go.Proofs.YtkpfigikffphdaaGreatDoor.cond_natX
  ·rfl
 call :=by
  intro M xs vs r hW hng hG hr h;simp only[A18]at h;split at h
  ·rename_i n;rcases hb:(decide (0<=n)&&decide (n<=1000000))with _|_<;>rw[hb]at h
   ·cases h
   simp only[Ae,decide_eq_true_eq]at hb
   by_cases h0:n=0
   ·subst h0;injection h with h;subst h;simp only[K9,B7]at hr;obtain⟨_,_,rfl,⟨A,c,cs,rfl,h1,h2,h3,h4,h5,h6,h7⟩,_,_,rfl,rfl,rfl⟩:=hr;have hA:=h3 true rfl
    obtain rfl:A=none:=by cases A<;>simp_all
    obtain rfl:=h4 rfl;refine .inr ⟨?_,(B8i M.w).mono ?_⟩
    ·show(callFunc _ _).run Tryz.prog M.w=_;simp[callFunc,Tryz.func211];rw[if_neg (by decide),if_neg (by decide)]
    ·rintro e w' ⟨rfl,rfl⟩
     refine⟨_,rfl,M.U,L4.refl _,?_,fun _=>⟨_,_,_,_,rfl,.inl ⟨none,0,rfl⟩⟩⟩;simp only[B7];exact⟨none,0,cs,rfl,Ak _,h2,h3,h4,h5,h6,h7⟩
   ·have hr2:uK.F [.sl (some true) 13 0 [],.int .i64 n] (R:=PV) some=some r:=by
     simp only[uK];rw[cond_true,show(n==0)=false from beq_eq_false_iff_ne.2 h0]at h;rw[A4 (by rw[decide_eq_true (by omega),decide_eq_true hb.2];rfl)];exact h
    exact D2d.call M _ vs r hW hng hG hr hr2
  ·cases h
def tTr {R:Type}(x:Option Bool)(k:PV->Option R):Option R:=x.bind fun r=>bif r then k (.bool true)else none
theorem A46 {R S:Type}{x:Option Bool}{k:PV->Option R}{g:R->Option S}:(tTr x k).bind g=tTr x fun v=>(k v).bind g:=by
 cases x with
 |none=>rfl
 |some b=>cases b<;>rfl
theorem A8b {R:Type}{x:Option Bool}{k:PV->Option R}{r:R}(h:tTr x k=some r):x=some true/\k (.bool true)=some r:=by
 cases x with
 |none=>cases h
 |some b =>
  cases b
  ·cases h
  ·exact⟨rfl,h⟩
def D4r (f:Nat->List PV->Nat->List PV->Option Bool):D5:=⟨fun xs k=>match xs with|[.sl _ zn n c,.sl _ zm m d]=>if zn=13 then if zm=13 then tTr (f n c m d) k else none else none|_=>none,false⟩
theorem D85 (f:Nat->List PV->Nat->List PV->Option Bool):(D4r f).nat:=by
 intro R xs k;simp only[D4r];split
 ·simp only[F4,A46];rfl
 ·rfl
theorem F0l:D8 F6 Ws 29 (D4r (tL 6000)):=O3 (B5z (B0g 6000)) (D85 _) rfl fun xs r h=>by
 simp only[D4r]at h;split at h
 ·obtain⟨h1,h⟩:=A5 h;obtain⟨h2,h⟩:=A5 h;obtain⟨h3,h⟩:=A8b h;simp only[tKK,h1,h2,if_true,h3];exact h
 ·cases h
def C64 (f:XR->XR->Option Bool):D5:=⟨fun xs k=>match xs with|[xe,xd]=>lT xe fun e=>lT xd fun d=>tTr (f e d) k|_=>none,false⟩
theorem D6f (f:XR->XR->Option Bool):(C64 f).nat:=by
 intro R xs k;simp only[C64];split
 ·simp only[F3,A46];rfl
 ·rfl
theorem D8j:D8 F6 Ws 12 (C64 (smD 6000)):=O3 (B0g 6000) (D6f _) rfl fun xs r h=>by
 simp only[C64]at h;split at h
 ·obtain⟨e,he,h1⟩:=I5 h;obtain⟨d,hd,h2⟩:=I5 h1;obtain⟨h3,h4⟩:=A8b h2;subst he hd;have e:(tXX (smD 6000)).F [.agg e.cells,.agg d.cells] (R:=PV) some=(smD 6000 e d).bind fun b=>some (.bool b):=rfl;rw[e,h3];exact h4
 ·cases h
def D4t (f:XR->Option Bool):D5:=⟨fun xs k=>match xs with|[xe]=>lT xe fun e=>tTr (f e) k|_=>none,false⟩
theorem D0x (f:XR->Option Bool):(D4t f).nat:=by
 intro R xs k;simp only[D4t];split
 ·simp only[F3,A46];rfl
 ·rfl
theorem F04:D8 F6 Ws 23 (D4t rgX):=O3 xH (D0x _) rfl fun xs r h=>by
 simp only[D4t]at h;split at h
 ·obtain⟨e,he,h1⟩:=I5 h;obtain⟨h3,h4⟩:=A8b h1;subst he;have e:(tXB rgX).F [.agg e.cells] (R:=PV) some=(rgX e).bind fun b=>some (.bool b):=rfl;rw[e,h3];exact h4
 ·cases h
noncomputable def nY:D5:=E8 [] ⟨[],[]⟩ 6 Tryz.f72
theorem xM:D8 F6 Ws 72 nY:=C0 D4 A2 Tryz.func72 rfl (by decide)
noncomputable def eV:D5:=E8 [] ⟨[],[]⟩ 6 Tryz.f163
theorem jR:D8 F6 Ws 163 eV:=C0 D4 A2 Tryz.func163 rfl (by decide)
noncomputable def X5:D5:=E8 [(163,eV)] ⟨[],[]⟩ 6 Tryz.f82
theorem bR:D8 F6 Ws 82 X5:=C0 D4 (A0 jR A2) Tryz.func82 rfl (by decide)
noncomputable def L7:D5:=E8 [] ⟨[],[(0,⟨[(0,false),(1,false),(7,false),(8,false)],[]⟩)]⟩ 6 Tryz.f202
theorem V1:D8 F6 Ws 202 L7:=C0 D4 A2 Tryz.func202 rfl (by decide)
noncomputable def K1:D5:=E8 [(202,L7)] ⟨[],[]⟩ 6 Tryz.f137
theorem S7:D8 F6 Ws 137 K1:=C0 D4 (A0 V1 A2) Tryz.func137 rfl (by decide)
noncomputable def Y6:D5:=E8 [] ⟨[],[]⟩ 6 Tryz.f278
theorem fO:D8 F6 Ws 278 Y6:=C0 D4 A2 Tryz.func278 rfl (by decide)
noncomputable def aG:D5:=E8 [(278,Y6)] ⟨[],[(2,⟨[(0,false)],[]⟩),(0,⟨[(0,false)],[]⟩)]⟩ 6 Tryz.f257
theorem gB:D8 F6 Ws 257 aG:=C0 D4 (A0 fO A2) Tryz.func257 rfl (by decide)
noncomputable def pG:D5:=E8 [(163,eV),(257,aG)] ⟨[],[]⟩ 6 Tryz.f231
theorem A03:D8 F6 Ws 231 pG:=C0 D4 (A0 jR (A0 gB A2)) Tryz.func231 rfl (by decide)
noncomputable def yV:D5:=E8 [(82,X5),(231,pG)] ⟨[],[]⟩ 6 Tryz.f203
theorem A9u:D8 F6 Ws 203 yV:=C0 D4 (A0 bR (A0 A03 A2)) Tryz.func203 rfl (by decide)
noncomputable def hO:D5:=E8 [(82,X5),(136,tNm),(203,yV)] ⟨[],[]⟩ 6 Tryz.f139
theorem rT:D8 F6 Ws 139 hO:=C0 D4 (A0 bR (A0 qC (A0 A9u A2))) Tryz.func139 rfl (by decide)
noncomputable def Q4:D5:=E8 [] ⟨[],[(0,⟨[(0,false),(1,false),(7,false),(8,false)],[]⟩)]⟩ 6 Tryz.f237
theorem bD:D8 F6 Ws 237 Q4:=C0 D4 A2 Tryz.func237 rfl (by decide)
noncomputable def O8:D5:=E8 [(237,Q4)] ⟨[],[]⟩ 6 Tryz.f204
theorem aB:D8 F6 Ws 204 O8:=C0 D4 (A0 bD A2) Tryz.func204 rfl (by decide)
noncomputable def nT:D5:=E8 [(204,O8)] ⟨[],[]⟩ 6 Tryz.f140
theorem xO:D8 F6 Ws 140 nT:=C0 D4 (A0 aB A2) Tryz.func140 rfl (by decide)
noncomputable def M4:D5:=E8 [] ⟨[],[(0,⟨[(0,false),(1,false),(7,false),(8,false)],[]⟩)]⟩ 6 Tryz.f206
theorem U9:D8 F6 Ws 206 M4:=C0 D4 A2 Tryz.func206 rfl (by decide)
noncomputable def K0:D5:=E8 [(206,M4)] ⟨[],[]⟩ 6 Tryz.f141
theorem S6:D8 F6 Ws 141 K0:=C0 D4 (A0 U9 A2) Tryz.func141 rfl (by decide)
noncomputable def P2:D5:=E8 [] ⟨[],[(0,⟨[(0,false),(1,false),(7,false),(8,false)],[]⟩)]⟩ 6 Tryz.f207
theorem aN:D8 F6 Ws 207 P2:=C0 D4 A2 Tryz.func207 rfl (by decide)
noncomputable def N4:D5:=E8 [(207,P2)] ⟨[],[]⟩ 6 Tryz.f143
theorem Y2:D8 F6 Ws 143 N4:=C0 D4 (A0 aN A2) Tryz.func143 rfl (by decide)
noncomputable def cJ:D5:=E8 [(136,tNm)] ⟨[],[]⟩ 6 Tryz.f208
theorem gH:D8 F6 Ws 208 cJ:=C0 D4 (A0 qC A2) Tryz.func208 rfl (by decide)
noncomputable def gK:D5:=E8 [(208,cJ)] ⟨[],[]⟩ 6 Tryz.f210
theorem pV:D8 F6 Ws 210 gK:=C0 D4 (A0 gH A2) Tryz.func210 rfl (by decide)
noncomputable def N9:D5:=E8 [(210,gK)] ⟨[],[(0,⟨[(0,false),(1,false),(7,false),(8,false)],[]⟩)]⟩ 6 Tryz.f238
theorem Z3:D8 F6 Ws 238 N9:=C0 D4 (A0 pV A2) Tryz.func238 rfl (by decide)
noncomputable def M8:D5:=E8 [(238,N9)] ⟨[],[]⟩ 6 Tryz.f209
theorem V4:D8 F6 Ws 209 M8:=C0 D4 (A0 Z3 A2) Tryz.func209 rfl (by decide)
noncomputable def jY:D5:=E8 [(136,tNm),(208,cJ),(209,M8)] ⟨[],[(0,⟨[(1,false),(41,false),(42,false),(43,false)],[1]⟩)]⟩ 6 Tryz.f145
theorem tR:D8 F6 Ws 145 jY:=C0 D4 (A0 qC (A0 gH (A0 V4 A2))) Tryz.func145 rfl (by decide)
noncomputable def oA:D5:=E8 [(82,X5),(136,tNm),(137,K1),(139,hO),(140,nT),(141,K0),(143,N4),(145,jY)] ⟨[],[]⟩ 6 Tryz.f73
theorem xT:D8 F6 Ws 73 oA:=C0 D4 (A0 bR (A0 qC (A0 S7 (A0 rT (A0 xO (A0 S6 (A0 Y2 (A0 tR A2)))))))) Tryz.func73 rfl (by decide)
noncomputable def U0:D5:=E8 [] ⟨[],[(0,⟨[(0,false),(1,false),(12,false),(13,false)],[]⟩)]⟩ 6 Tryz.f146
theorem dC:D8 F6 Ws 146 U0:=C0 D4 A2 Tryz.func146 rfl (by decide)
noncomputable def O0:D5:=E8 [] ⟨[],[(0,⟨[(0,false),(1,false),(12,false),(13,false)],[]⟩)]⟩ 6 Tryz.f147
theorem Z0:D8 F6 Ws 147 O0:=C0 D4 A2 Tryz.func147 rfl (by decide)
noncomputable def N8:D5:=E8 [] ⟨[],[(0,⟨[(0,false),(1,false),(12,false),(13,false)],[]⟩)]⟩ 6 Tryz.f148
theorem Z1:D8 F6 Ws 148 N8:=C0 D4 A2 Tryz.func148 rfl (by decide)
noncomputable def F5:D5:=E8 [] ⟨[],[(0,⟨[(1,false),(2,false),(15,false),(16,false),(17,false)],[]⟩)]⟩ 6 Tryz.f149
theorem K4:D8 F6 Ws 149 F5:=C0 D4 A2 Tryz.func149 rfl (by decide)
noncomputable def H2:D5:=E8 [] ⟨[],[(0,⟨[(1,false),(2,false),(15,false),(16,false),(17,false)],[]⟩)]⟩ 6 Tryz.f150
theorem P0:D8 F6 Ws 150 H2:=C0 D4 A2 Tryz.func150 rfl (by decide)
noncomputable def lA (fx:XR->XR->Option Bool):D5:=E8 [(12,(C64 fx))] ⟨[],[]⟩ 6 Tryz.f153
theorem vZ:D8 F6 Ws 153 (lA (smD 6000)):=C0 D4 (A0 D8j A2) Tryz.func153 rfl (by decide)
noncomputable def G7 (fx:XR->XR->Option Bool):D5:=E8 [(153,(lA fx))] ⟨[],[(0,⟨[(1,false),(2,false),(15,false),(16,false),(17,false)],[]⟩)]⟩ 6 Tryz.f152
theorem N0:D8 F6 Ws 152 (G7 (smD 6000)):=C0 D4 (A0 vZ A2) Tryz.func152 rfl (by decide)
noncomputable def mA (fx:XR->XR->Option Bool):D5:=E8 [(12,(C64 fx))] ⟨[],[]⟩ 6 Tryz.f155
theorem uL:D8 F6 Ws 155 (mA (smD 6000)):=C0 D4 (A0 D8j A2) Tryz.func155 rfl (by decide)
noncomputable def G2 (fx:XR->XR->Option Bool):D5:=E8 [(155,(mA fx))] ⟨[],[(0,⟨[(1,false),(2,false),(15,false),(16,false),(17,false)],[]⟩)]⟩ 6 Tryz.f154
theorem L8:D8 F6 Ws 154 (G2 (smD 6000)):=C0 D4 (A0 uL A2) Tryz.func154 rfl (by decide)
noncomputable def pA (fs:Nat->List PV->Nat->List PV->Option Bool)(fx:XR->XR->Option Bool):D5:=E8 [(29,(D4r fs)),(146,U0),(147,O0),(148,N8),(149,F5),(150,H2),(152,(G7 fx)),(154,(G2 fx))] ⟨[],[]⟩ 6 Tryz.f74
theorem A02:D8 F6 Ws 74 (pA (tL 6000) (smD 6000)):=C0 D4 (A0 F0l (A0 dC (A0 Z0 (A0 Z1 (A0 K4 (A0 P0 (A0 N0 (A0 L8 A2)))))))) Tryz.func74 rfl (by decide)
noncomputable def jW (fr:XR->Option Bool):D5:=E8 [(23,(D4t fr))] ⟨[],[]⟩ 6 Tryz.f77
theorem tJ:D8 F6 Ws 77 (jW rgX):=C0 D4 (A0 F04 A2) Tryz.func77 rfl (by decide)
noncomputable def O1 (fr:XR->Option Bool):D5:=E8 [(77,(jW fr))] ⟨[],[(0,⟨[(0,false),(1,false),(7,false),(8,false)],[]⟩)]⟩ 6 Tryz.f156
theorem Y5:D8 F6 Ws 156 (O1 rgX):=C0 D4 (A0 tJ A2) Tryz.func156 rfl (by decide)
noncomputable def M6 (fr:XR->Option Bool):D5:=E8 [(156,(O1 fr))] ⟨[],[]⟩ 6 Tryz.f75
theorem W6:D8 F6 Ws 75 (M6 rgX):=C0 D4 (A0 Y5 A2) Tryz.func75 rfl (by decide)
noncomputable def P6:D5:=E8 [(211,A18)] ⟨[],[(2,⟨[(6,true),(25,false),(26,false),(27,false)],[]⟩),(0,⟨[(0,false),(3,false),(9,false),(10,false),(11,false)],[]⟩)]⟩ 6 Tryz.f157 true
theorem aS:D8 F6 Ws 157 P6:=C0 D4 (A0 D7f A2) Tryz.func157 rfl (by decide)
noncomputable def nP:D5:=E8 [(157,P6)] ⟨[],[(4,⟨[(3,true),(49,false),(50,false),(51,false)],[]⟩),(2,⟨[(1,false),(3,true),(27,false),(28,false),(29,false)],[1]⟩),(0,⟨[(1,false),(3,true),(14,false),(15,false),(16,false)],[1]⟩)]⟩ 6 Tryz.f76
theorem xR:D8 F6 Ws 76 nP:=C0 D4 (A0 aS A2) Tryz.func76 rfl (by decide)
noncomputable def nU (fs:Nat->List PV->Nat->List PV->Option Bool)(fx:XR->XR->Option Bool)(fr:XR->Option Bool):D5:=E8 [(72,nY),(73,oA),(74,(pA fs fx)),(75,(M6 fr)),(76,nP)] ⟨[],[]⟩ 6 Tryz.f32
theorem xN:D8 F6 Ws 32 (nU (tL 6000) (smD 6000) rgX):=C0 D4 (A0 xM (A0 xT (A0 A02 (A0 W6 (A0 xR A2))))) Tryz.func32 rfl (by decide)
end Go.Proofs.YtkpfigikffphdaaGreatDoor
end
section
set_option maxRecDepth 100000
namespace Go.Proofs.YtkpfigikffphdaaGreatDoor
open Go.RowKit
def E95:PV->Option Bool
 |.bool b=>some b
 |_=>none
theorem D7b {v:PV}{b:Bool}(h:E95 v=some b):v=.bool b:=by
 unfold E95 at h;split at h
 ·injection h with h;subst h;rfl
 ·cases h
noncomputable def A1r (e:SR):Option Bool:=((nU (tL 6000) (smD 6000) rgX).F [.agg e.cells] (R:=PV) some).bind E95
theorem A5s:D8 F6 Ws 32 (C87 A1r):=O3 xN (D5h _) rfl fun xs r h=>by
 simp only[C87]at h;split at h
 ·obtain⟨e,he,h1⟩:=D5v h;obtain⟨b,hb,h2⟩:=Ab.1 h1;subst he;obtain⟨v,hv,h3⟩:=Ab.1 hb;have:=D7b h3;subst this;rw[hv];exact h2
 ·cases h
def tPV (r:SR×Int×Int):PV:=.tuple [.agg r.1.cells,.int .i64 r.2.1,.int .i64 r.2.2]
def tRs (f:List UInt8->Option (SR×Int×Int)):D5:=⟨fun xs k=>match xs with|[.str s,.clo p [],.clo q []]=>if p=31 then if q=32 then(f s).bind fun r=>k (tPV r)else none else none|_=>none,false⟩
theorem E60 (f:List UInt8->Option (SR×Int×Int)):(tRs f).nat:=by
 intro R xs k;simp only[tRs];split
 ·simp only[F4,Ad,Aa]
 ·rfl
def tPs (f:List UInt8->Option (SR×Int×Int)):D5:=⟨fun xs k=>match xs with|[.str s]=>(f s).bind fun r=>k (tPV r)|_=>none,false⟩
theorem C3a (f:List UInt8->Option (SR×Int×Int)):(tPs f).nat:=by
 intro R xs k;simp only[tPs];split
 ·simp only[Ad,Aa]
 ·rfl
def prE (e:SR)(b:Int):SR×Int×Int:=bif decide ((0:Int)<=b)then(SR.zero,b,170)else(e,0,0)
noncomputable def prR (e:SR)(s:PS):Option (SR×Int×Int):=bif decide (s.b<0)then(A1r e).bind fun ok=>bif !ok then some (prE e 0)else some (prE e s.b)else some (prE e s.b)
theorem B6v (e:SR)(b:Int):B4r e b=some (tPV (prE e b)):=by
 unfold B4r prE
 cases decide ((0:Int)<=b)<;>rfl
theorem C95 (e:SR)(s:PS):A89 A1r e s=(prR e s).bind fun r=>some (tPV r):=by
 unfold A89 prR
 cases decide (s.b<0)with
 |false=>rw[cond_false,cond_false,B6v,Aa]
 |true =>
  rw[cond_true,cond_true,Ad];congr 1;funext ok
  cases ok
  ·exact B6v e 0
  ·exact B6v e s.b
noncomputable def A7i (s:List UInt8):Option (SR×Int×Int):=match oH s with
 |.inl a=>some (SR.zero,a,170)
 |.inr T=>(C2p (PG (s.length:Int) (some T.isEmpty) 0 T)).bind fun e=>bif decide ((0:Int)<(e.2.n:Int))then(jH e.2).bind fun s=>prR e.1 s else prR e.1 e.2
theorem D1y:D8 F6 Ws 30 (tRs A7i) :=
 bG D4 (A0 C1u (A0 A5s A2)) (A3 E5x (A3 (aM X3) A7)) B3 (h:=I4) Tryz.func30 rfl (by decide) (E60 _) fun xs r h=>by
  simp only[tRs]at h;split at h
  ·rename_i w p q;obtain⟨hzp,h1⟩:=A5 h;subst hzp;obtain⟨hzq,h2⟩:=A5 h1;subst hzq;obtain⟨v,hv,h3⟩:=Ab.1 h2;injection h3 with h3;subst h3;refine⟨0,(C78 C6z C2p jH A1r 0 w).trans ?_⟩;unfold A7i at hv;unfold C6z;rw[Aa]
   cases hl:oH w with
   |inl a =>
    rw[hl]at hv;injection hv with hv;subst hv;rfl
   |inr T =>
    rw[hl]at hv;have hst:(⟨(A2n (.inr T)).nl,(A2n (.inr T)).n,(A2n (.inr T)).cs,(w.length:Int),0,-1⟩:PS)=PG (w.length:Int) (some T.isEmpty) 0 T:=rfl;rw[B1 (by rfl),hst];obtain⟨e,he,hv⟩:=Ab.1 hv;rw[he,Aa]
    cases hn:decide ((0:Int)<(e.2.n:Int))with
    |false =>
     rw[hn,cond_false]at hv;rw[cond_false,C95,hv];rfl
    |true =>
     rw[hn,cond_true]at hv;obtain⟨s',hs',hv⟩:=Ab.1 hv;rw[cond_true,hs',Aa,C95,hv];rfl
  ·cases h
theorem B7a (f:List UInt8->Option (SR×Int×Int))(fu:Nat)(s:List UInt8):C6 (F8 [(30,tRs f)] [] []) I4 fu false Tryz.f13 [.str s]=(f s).bind fun r=>some (tPV r):=by kernel_rfl
theorem D21:D8 F6 Ws 13 (tPs A7i) :=
 bG D4 (A0 D1y A2) A7 B3 (h:=I4) Tryz.func13 rfl (by decide) (C3a _) fun xs r h=>by
  simp only[tPs]at h;split at h
  ·exact⟨0,(B7a _ 0 _).trans h⟩
  ·cases h
def A13:D5:=⟨fun xs k=>match xs with|[]=>k (.bool true)|_=>none,false⟩
theorem C4u {s:List UInt8}{x:XR}(h:gI s=.inr x):kS x=true/\∃t,er 6000 x=some t:=by
 unfold gI at h
 cases hl:oH s with
 |inl a=>rw[hl]at h;cases h
 |inr T =>
  rw[hl]at h;obtain⟨hT,hs,hn⟩:=B13 hl;have h:uS (s.length:Int) T=.inr x:=h;unfold uS at h
  cases hx:T9 (s.length:Int) (nW (s.length:Int) 20) T with
  |bad a=>rw[hx]at h;cases h
  |ok y R =>
   rw[hx]at h
   cases R with
   |cons t R=>cases h
   |nil =>
    dsimp only at h
    cases hr:kS y with
    |false=>rw[hr]at h;cases h
    |true =>
     rw[hr]at h;injection h with h;subst h;exact⟨hr,A25 hs hn hx⟩
end Go.Proofs.YtkpfigikffphdaaGreatDoor
end
section
set_option maxRecDepth 100000
namespace Go.Proofs.YtkpfigikffphdaaGreatDoor
open Go.ChangeShapes Go.WideShapes Go.ChangeAt Go.RowKit
theorem sH {H:Type}{enc:TypeId×Value->H}{P:Program}(hl:laidOutB P=true){W W':World}(hb:Below W.heap.size W W'):∀{ts:List TypeId} {vs:List Value} {ds:List (DataW H)} {ps:List MemPlace},
  (∀t∈ts,P.readableRec t=true/\t<P.types.size)->DataW.TrodAll enc P W 0 (fun _=>true) true ts vs ds ps->(∀x∈ps,x.block<W.heap.size)->DataW.TrodAll enc P W' 0 (fun b=>decide (b<W.heap.size)) true ts vs ds ps
 |[],vs,ds,ps,_,h,_=>by
  cases vs<;>cases ds<;>simp_all [DataW.TrodAll]
 |t::ts,vs,ds,ps,ht,h,hlt=>by
  obtain⟨v,vs',d,ds',p,q,rfl,rfl,rfl,h0,h1⟩:=trodAll_cons h;exact trodAll_cons_mk (Below.trod hl (ht t (by simp)).1 (ht t (by simp)).2 h0 hb (fun x hx=>hlt x (by simp[hx])))
   (sH hl hb (fun t' ht'=>ht t' (by simp[ht'])) h1 (fun x hx=>hlt x (by simp[hx])))
theorem D8k {H:Type}{enc:TypeId×Value->H}{P:Program}{f:Func}{s:ChangeSpec}{W W':World}{args:Array Value}{ds gs:List (DataW H)}{before:List MemPlace}{tb:TypeId}
  (hl:laidOutB P=true) (ht:∀t∈f.params.toList,P.readableRec t=true/\t<P.types.size) (htb:P.underlying tb=some .bool) (hf:f.resultTypes=#[tb])
  (hW:DataW.Whole enc P f.params.toList s.vars false W args.toList ds gs before) (hv:s.vars=[])
  (hr:(s.fn H (ds++gs)).results=[.lit (.bool true)]) (ha:(s.fn H (ds++gs)).args=ds) (hvs:(s.fn H (ds++gs)).vars=[]) (hb:Below W.heap.size W W') :
  s.post enc P f false true false false W args (.bool true) W':=by
 have hlt:=hW.lt;have hW2:=hW;obtain⟨p,q,hA,hV,rfl,_,_⟩:=hW;rw[hv]at hV;obtain⟨rfl,rfl⟩:=trodVars_none hV;refine⟨ds,[],p++[],[],p,[],hW2,?_,?_,?_,hb.frame _,fun h=>by cases h⟩
 ·rw[hr,hf];exact trodAll_cons_mk (shut_bool htb _) trodAll_mk0
 ·rw[ha];exact sH hl hb ht hA (fun x hx=>hlt x (by simp[hx]))
 ·rw[hv,hvs];rfl
abbrev U5:List (String×DataW Unit):=[("math/bits.deBruijn32tab",Rows.laid_math_bits_deBruijn32tab),("math/bits.deBruijn64tab",Rows.laid_math_bits_deBruijn64tab),("internal/strconv.uint64pow10",Rows.laid_internal_strconv_uint64pow10),("unicode/utf8.acceptRanges",Rows.laid_unicode_utf8_acceptRanges),("strconv.ErrRange",Rows.laid_strconv_ErrRange),("strconv.ErrSyntax",Rows.laid_strconv_ErrSyntax),("unicode.White_Space",Rows.laid_unicode_White_Space),("strings.asciiSpace",Rows.laid_strings_asciiSpace),("unicode/utf8.first",Rows.laid_unicode_utf8_first)]
theorem B7j {W:World}(h:laidMetH Tryz.prog U5 W):Wd W:=by
 have h':laidMet Tryz.prog U5 W:=h;obtain⟨g,t,cs,fuel,p,hg,hty,hvar,hd⟩:=Lib.laidMet.reads (n := "internal/strconv.uint64pow10") (d:=Rows.laid_internal_strconv_uint64pow10) h' (by unfold U5;exact Ap _ (Ap _ (An ..)))
 have e:(Rows.laid_internal_strconv_uint64pow10:DataW Unit)=Lib.tabData .u64 Lib.pow10Tab:=by kernel_rfl
 rw[e]at hd;obtain rfl:3=g:=Cr (F6k.symm.trans hg);obtain rfl:t=257:=Cr (hty.symm.trans (show(Tryz.prog.globals[3]?).map (·.type)=some 257 by kernel_rfl));have hcs:=Lib.cells_of_tab (e:=39) (n:=20) (by kernel_rfl) (by kernel_rfl) (by kernel_rfl) (by kernel_rfl) hd;unfold Wd Lib.TabIs;rw[hvar,<-hcs]
theorem sO : "*" ++ "errors.errorString" = "*errors.errorString" :=by decide
theorem C0n (u:TypeId)(h:Tryz.prog.typeName? 3 u=some "*errors.errorString"):u=307 :=
 typeName_ptr_named (nm := "errors.errorString") (by rw[sO];kernel_rfl) (by kernel_rfl) (by decide) u (by rw[sO];exact h)
theorem E5y:(Tryz.prog.globals[9]?).map (·.type)=some 195:=by kernel_rfl
theorem D0s:(Tryz.prog.globals[8]?).map (·.type)=some 195:=by kernel_rfl
theorem B7v {W:World}(h:laidMetH Tryz.prog U5 W):We W:=by
 have h':laidMet Tryz.prog U5 W:=h;have h3:=h'.tail.tail.tail.tail;refine⟨B7j h,?_,?_⟩
 ·obtain⟨a,s,hv,_⟩:=laid_sentinel h3.tail A85 D0s Tryz.underlying195 C0n Tryz.underlying307 Tryz.underlying309 rfl rfl Tryz.underlying9 (by kernel_rfl) (by kernel_rfl);exact⟨_,_,hv⟩
 ·obtain⟨a,s,hv,_⟩:=laid_sentinel h3 B93 E5y Tryz.underlying195 C0n Tryz.underlying307 Tryz.underlying309 rfl rfl Tryz.underlying9 (by kernel_rfl) (by kernel_rfl);exact⟨_,_,hv⟩
theorem A7z {W:World}(h:laidMetH Tryz.prog U5 W):yF W:=by
 have h':laidMet Tryz.prog U5 W:=h
 have e1:Lib.firstData=Rows.laid_unicode_utf8_first:=by kernel_rfl
 have e2:Lib.acceptData=Rows.laid_unicode_utf8_acceptRanges:=by kernel_rfl
 exact A4w (Lib.laidMet.reads (n := "unicode/utf8.first") (d:=Lib.firstData) h' (by rw[e1];unfold U5;exact(Ap _ (Ap _ (Ap _ (Ap _ (Ap _ (Ap _ (Ap _ (Ap _ (An ..)))))))))))
  (Lib.laidMet.reads (n := "unicode/utf8.acceptRanges") (d:=Lib.acceptData) h' (by rw[e2];unfold U5;exact(Ap _ (Ap _ (Ap _ (An ..))))))
theorem B1l {W:World}(h:laidMetH Tryz.prog U5 W):A1u W:=by
 have h':laidMet Tryz.prog U5 W:=h;obtain⟨g,t,cs,fuel,p,hg,hty,hvar,hd⟩:=Lib.laidMet.reads (n := "strings.asciiSpace") (d:=Rows.laid_strings_asciiSpace) h' (by unfold U5;exact(Ap _ (Ap _ (Ap _ (Ap _ (Ap _ (Ap _ (Ap _ (An ..)))))))))
 have e:(Rows.laid_strings_asciiSpace:DataW Unit)=Lib.tabData .u8 Lib.asciiSpaceTab:=by kernel_rfl
 rw[e]at hd;obtain rfl:0=g:=Cr ((show Tryz.prog.globalNamed "strings.asciiSpace" =some 0 by kernel_rfl).symm.trans hg);obtain rfl:t=230:=Cr (hty.symm.trans (show(Tryz.prog.globals[0]?).map (·.type)=some 230 by kernel_rfl));have hcs:=Lib.cells_of_tab (e:=5) (n:=256) (by kernel_rfl) (by kernel_rfl) (by kernel_rfl) (by kernel_rfl) hd;unfold A1u Lib.TabIs;rw[hvar,<-hcs]
theorem B0d {W:World}(h:W.ShapedOpen Tryz.prog):D3o W :=
 cell_of_shapedOpen_int (P:=Tryz.prog) (g:=2) (t:=3) (zero:=#[.int .i64 0]) h (of_decide_eq_true (by kernel_rfl)) (by kernel_rfl) rfl (by kernel_rfl) (by kernel_rfl) Tryz.underlying3
theorem A47 {W:World}(h:laidMetH Tryz.prog U5 W)(hs:W.ShapedOpen Tryz.prog):Ws W:=⟨⟨B7v h,A7z h⟩,B0d hs,B1l h⟩
theorem E3z {w:World}(h:Ws w):F6<=w.heap.size:=by
 have h1:NGc<=w.heap.size:=by
  have h1:=E46 h.1.1;have h2:=C8p h.1.2;unfold NGc;omega
 have h2:2<w.heap.size:=by
  obtain⟨m,hm⟩:=h.2.1;unfold World.cell? at hm;rcases e:w.heap[2]? with _|o
  ·simp[e]at hm
  ·exact(Bu.1 e).1
 have h3:0<w.heap.size:=by
  have:=h.2.2;unfold A1u Lib.TabIs World.var? at this;rw[show Tryz.prog.globalNamed "strings.asciiSpace" =some 0 by kernel_rfl,Aa]at this;rcases e:w.heap[0]? with _|o
  ·rw[e]at this;cases this
  ·exact(Bu.1 e).1
 unfold F6;omega
theorem own:ownKnob Tryz.prog.godebug=none:=by kernel_rfl
def bK (cs:Array Value):Obj->Obj
 |.cells _ t frozen=>.cells cs t frozen
 |o=>o
def jJ:DataW Unit->Array Value
 |.agg l=>(l.filterMap fun|.lit (.int k z)=>some (Value.int k z)|_=>none).toArray
 |_=>#[]
def C0u:DataW Unit->List UInt8
 |.iface _ (.ptr (.agg [.lit (.string s)]))=>s
 |_=>[]
def B1t (b:Nat):Array Value:=#[.iface 307 (.pointer (some ⟨b,0,none⟩))]
def firstCells:Array Value:=(Lib.firstTab.map (Value.int .u8)).toArray
def B5u:Array Value:=((List.range 16).flatMap fun i=>[Value.int .u8 (Lib.accLo i),Value.int .u8 (Lib.accHi i)]).toArray
def D7x:DataW Unit->List Value
 |.agg l=>l.filterMap fun|.lit (.int k z)=>some (Value.int k z)|_=>none
 |_=>[]
def B6m:DataW Unit->Array Value
 |.ptr (.agg (.slice l _::_))=>(l.flatMap D7x).toArray
 |_=>#[]
noncomputable def D2q (h:Array Obj):Array Obj :=
 (((((((((h.modify 6 (bK (jJ Rows.laid_math_bits_deBruijn32tab))).modify 7 (bK (jJ Rows.laid_math_bits_deBruijn64tab))).modify
  3 (bK (jJ Rows.laid_internal_strconv_uint64pow10))).modify 9 (bK (B1t h.size))).modify 8 (bK (B1t (h.size+1)))).modify 4 (bK firstCells)).modify 5 (bK B5u)).modify 0 (bK (jJ Rows.laid_strings_asciiSpace))).modify 1 (bK #[.pointer (some ⟨h.size+3,0,none⟩)]))++
  #[.cells #[.string ⟨(C0u Rows.laid_strconv_ErrRange).toArray⟩] 309,.cells #[.string ⟨(C0u Rows.laid_strconv_ErrSyntax).toArray⟩] 309,.cells (B6m Rows.laid_unicode_White_Space) 274,.cells #[.slice (some ⟨h.size+2,0,none⟩) 7 7,.slice none 0 0,.int .i64 2] 271]
noncomputable def xU (os:Os):World :=
 {World.holding Tryz.prog os ⟨#[],#[],[]⟩with heap:=D2q (World.holding Tryz.prog os ⟨#[],#[],[]⟩).heap}
theorem A54 (os:Os)(args:Array Value):laidMet Tryz.prog U5 ((xU os).forCall (fun _ _=>0) ⟨#[],args,[]⟩).memory :=
 laidMet_of_run3 10 (by kernel_rfl) (by kernel_rfl) (by kernel_rfl)
end Go.Proofs.YtkpfigikffphdaaGreatDoor
end
section
set_option maxRecDepth 100000
namespace Go.Proofs.YtkpfigikffphdaaGreatDoor
open Go.ChangeShapes Go.WideShapes Go.ChangeAt Go.RowKit Go.Deep
def C7v (w:World)(U:Nat->Nat):C4:=⟨w,U,⟨0,fun _ _=>none⟩⟩
theorem D8l {NG:Nat}{W:World->Prop}(hW:Y0 NG W){l:List (FuncId×D5)}(hl:E0 NG W l){f:FuncId}{fn:Func}(hf:Tryz.prog.funcs[f]? =some fn){h:B4}{fuel:Nat}{w:World}{U:Nat->Nat}{xs:List PV}{vs:List Value}
  (hw:W w) (hng:NG<=w.heap.size) (hr:K9 (C7v w U) xs vs) (hrun:C6 (en l) h fuel false fn xs=some (.bool true)) :
  Calls Tryz.prog f vs.toArray w fun e w'=>e=.returned (.bool true)/\Below w.heap.size w w':=by
 refine(B7h (A2u hW hl) rfl hf (M:=C7v w U) hw hng (fun g cs hg=>by cases hg) hr hrun).mono ?_
 rintro e w' ⟨v,rfl,U',hm,hv,_⟩
 simp only[B7]at hv;subst hv;exact⟨rfl,hm.os,hm.tape,hm.output,hm.size,fun b hb=>(hm.block b hb (by simp[C7v])).1⟩
def A5a (w:World)(ps:List PV)(cs:List Value):Prop:=∃B:Nat,∀U:Nat->Nat,(∀b,B<=U b)->D7 (C7v w U) ps cs
theorem A5a.of {w:World}{ps:List PV}{cs:List Value}(h:∀M,D7 M ps cs):A5a w ps cs:=⟨0,fun U _=>h _⟩
theorem A5a.append {w:World}{ps qs:List PV}{cs ds:List Value}(h:A5a w ps cs)(k:A5a w qs ds):A5a w (ps++qs) (cs++ds):=by
 obtain⟨A,h⟩:=h;obtain⟨B,k⟩:=k;exact⟨max A B,fun U hU=>(h U fun b=>Aw (Nat.le_max_left _ _) (hU b)).append (k U fun b=>Aw (Nat.le_max_right _ _) (hU b))⟩
theorem B61 {w:World}{base size:Nat}{a:Addr}{α:Type}{f:α->List PV}{Pa:α->Prop}:∀(k i:Nat),(∀j,i<=j->j<i+k->∃cs',w.cells? base (a.add (j * size)) size=some cs'/\∃x,Pa x/\A5a w (f x) cs')->
  ∃(l:List α) (vs:List Value),l.length=k/\(∀x∈l,Pa x)/\vs.length=k * size/\A5a w (l.flatMap f) vs/\∀j u,vs[j]? =some u->w.cell? (a.add (i * size+j))=some u
 |0,i,_=>⟨[],[],rfl,by simp,by simp,.of fun _=>rfl,by simp⟩
 |k+1,i,h=>by
  obtain⟨cs,h1,x,px,hx⟩:=h i (Ak _) (by omega);obtain⟨l,vs,e1,e2,e3,e4,e5⟩:=B61 k (i+1) (fun j h1 h2=>h j (by omega) (by omega));obtain⟨_,hl,hg⟩:=World.cells?_some h1;refine⟨x::l,cs++vs,by simp[e1],?_,by rw[Af,hl,e3,Di];omega,?_,fun j u hu=>?_⟩
  ·intro y hy;rcases Be.1 hy with rfl|hy
   ·exact px
   ·exact e2 y hy
  ·rw[Bo];exact hx.append e4
  ·by_cases hj:j<size
   ·rw[Bd (by omega)]at hu;have:=hg j hj;rw[hu,add_add]at this;exact this
   ·rw[Bj (by omega),hl]at hu;have:=e5 _ u hu;rw[Di,show i * size+1 * size+(j-size)=i * size+j by omega]at this;exact this
theorem D6n {H:Type}{enc:TypeId×Value->H}{P:Program}{w:World}{base:Nat}{sp:Nat->Bool}{held:Bool}{t e:TypeId}{fuel:Nat}{cs:List Value}{x:DataW H×List MemPlace}{α:Type}{f:α->List PV}{Pa:α->Prop}{size:Nat}
  (hs0:0<size) (ht:P.underlying t=some (.slice e)) (hsz:P.cellsOf e=size) (hf:∀x,(f x).length=size)
  (he:∀n cs' y,n<fuel->DataW.trod enc P w base sp held n e cs'=some y->∃x,Pa x/\A5a w (f x) cs') (h:DataW.trod enc P w base sp held fuel t cs=some x) :
  ∃A c,∃l:List α,cs=[.slice A l.length c]/\(∀x∈l,Pa x)/\∃B:Nat,∀U:Nat->Nat,(∀b,B<=U b)->B7 (C7v w U) (.sl none size l.length (l.flatMap f)) (.slice A l.length c):=by
 have flen:∀l:List α,(l.flatMap f).length=l.length * size:=by
  intro l
  induction l with
  |nil=>simp
  |cons y l ih=>rw[Bo,Af,hf,ih,Ac,Di];omega
 rcases DataW.trod_slice ht h with⟨rfl,_⟩|⟨a,len,cap,elems,rest,n,rfl,rfl,rfl,hb,hlc,hcm,hel0,hel,_⟩
 ·refine⟨none,0,[],rfl,by simp,0,fun U _=>?_⟩;simp only[B7];exact⟨none,0,[],rfl,Ak _,Bh _,fun b hb=>(by cases hb),fun _=>rfl,by simp,rfl,Or.inl rfl⟩
 ·rw[hsz]at hel
  obtain⟨l,vs,e1,e2,e3,⟨B,e4⟩,e5⟩:=B61 (w:=w) (base:=base) (size:=size) (a:=a) (f:=f) (Pa:=Pa) len 0 (fun j _ hj=>by
   have:=hel j (by omega);rw[Ag (by omega)]at this;obtain⟨cs',h1,h2⟩:=Ab.1 this;obtain⟨x,px,hx⟩:=he n cs' _ (by omega) h2
   exact⟨cs',h1,x,px,hx⟩)
  subst e1;obtain⟨b,off,spot⟩:=a;refine⟨_,cap,l,rfl,e2,max B (off+l.length * size),fun U hU=>?_⟩;simp only[B7];refine⟨_,cap,vs,rfl,hlc,hcm,fun b hb=>(by cases hb),fun h=>(by cases h),flen l,e4 U fun b=>Aw (Nat.le_max_left _ _) (hU b),?_⟩
  by_cases h0:vs=[]
  ·exact Or.inl h0
  ·have hp:0<vs.length:=Dt.2 h0;have h00:=e5 0 vs[0] (Ag hp)
   have hspot:spot=none:=by
    have:=World.cell?_spot (v:=vs[0]) h00;simpa [Addr.add]using this
   subst hspot;refine Or.inr ⟨b,off,rfl,fun j u hu=>?_⟩;have hj:=(Aj.1 hu).1;have:=e5 j u hu;rw[Nat.zero_mul,Bm,add_plain]at this;refine⟨this,?_⟩;have:=hU b;have:=Nat.le_max_right B (off+l.length * size);show off+j<U b;omega
end Go.Proofs.YtkpfigikffphdaaGreatDoor
end
section
set_option maxRecDepth 100000
namespace Go.Proofs.YtkpfigikffphdaaGreatDoor
open Go.RowKit
def prK {R:Type}(o:Option (Int ⊕ XR))(kl:Int->Option R)(kr:XR->Option R):Option R:=o.bind fun o=>match o with
 |.inl a=>kl a
 |.inr x=>kr x
theorem B53 {R S:Type}{o:Option (Int ⊕ XR)}{kl:Int->Option R}{kr:XR->Option R}{g:R->Option S}:(prK o kl kr).bind g=prK o (fun a=>(kl a).bind g) fun x=>(kr x).bind g:=by
 cases o with
 |none=>rfl
 |some o=>cases o<;>rfl
def D1l (f:List UInt8->Option (Int ⊕ XR)):D5:=⟨fun xs k=>match xs with|[.str s]=>prK (f s) (fun a=>k (.tuple [.agg XR.zero.cells,.int .i64 a,.int .i64 170])) fun x=>k (.tuple [.agg x.cells,.int .i64 0,.int .i64 0])|_=>none,false⟩
theorem D4i (f:List UInt8->Option (Int ⊕ XR)):(D1l f).nat:=by
 intro R xs k;simp only[D1l];split
 ·simp only[B53,Aa]
 ·rfl
section
variable (fe:List UInt8->Option (Int ⊕ XR)) (fp:List UInt8->Option (Int ⊕ XR)) (fx:XR->XR->Option Bool)
end
def J3.isBad {α:Type}:J3 α->Prop
 |.bad _=>True
 |.ok _ _=>False
theorem J3.isBad.bind {α β:Type}{r:J3 α}(h:r.isBad)(k:α->List TR->J3 β):(r.bind k).isBad:=by
 cases r with
 |bad a=>trivial
 |ok x R=>cases h
abbrev zK (z:UInt8):Prop:=z=32\/z=10
theorem B0h:∀(n f g i:Nat) (s:List UInt8),s.length<=n->s.length<f->s.length<g->cN f i s=cN g i s
 |_,0,_,_,_,_,h,_=>absurd h (Fs _)
 |_,_+1,0,_,_,_,_,h=>absurd h (Fs _)
 |_,f+1,g+1,i,[],_,_,_=>rfl
 |0,f+1,g+1,i,c::t,h,_,_=>absurd h (by simp)
 |n+1,f+1,g+1,i,c::t,hn,hf,hg=>by
  simp only[Ac]at hn hf hg;rw[cN,cN];split
  ·exact B0h n f g _ t (by omega) (by omega) (by omega)
  ·cases hr:fU (c::t)with
   |none=>rfl
   |some r =>
    obtain⟨h1,-,-,-⟩:=uQ hr;dsimp only;rw[B0h n f g (i+r.2) ((c::t).drop r.2) (by simp only[Ax,Ac];omega) (by simp only[Ax,Ac];omega) (by simp only[Ax,Ac];omega)]
def rR (i:Nat)(s:List UInt8):Nat ⊕ List TR:=cN (s.length+1) i s
theorem E2i {f i:Nat}{s:List UInt8}(h:s.length<f):cN f i s=rR i s:=B0h _ _ _ _ _ (Ak _) h (Dy _)
theorem E08 {i:Nat}{c:UInt8}{t:List UInt8}(h:zK c):rR i (c::t)=rR (i+1) t:=by
 unfold rR;rw[Ac,cN,if_pos (show c=32\/c=10 from h)]
def F4r (x:TR):Nat ⊕ List TR->Nat ⊕ List TR
 |.inl a=>.inl a
 |.inr l=>.inr (x::l)
def C8n (L:List TR):Nat ⊕ List TR->Nat ⊕ List TR
 |.inl a=>.inl a
 |.inr l=>.inr (L++l)
def E8d (i:Nat)(r:TR×Nat):TR:=⟨r.1.k,i,r.1.t,r.1.vk,r.1.vn,r.1.vc,r.1.vs⟩
theorem D2g {i:Nat}{c:UInt8}{t:List UInt8}{r:TR×Nat}(h:¬zK c)(hr:fU (c::t)=some r):rR i (c::t)=F4r (E8d i r) (rR (i+r.2) ((c::t).drop r.2)):=by
 obtain⟨h1,-,-,-⟩:=uQ hr;rw[<-E2i (f:=t.length+1) (s:=(c::t).drop r.2) (by simp only[Ax,Ac];omega)];unfold rR;rw[Ac,cN,if_neg (show ¬(c=32\/c=10)from h),hr];dsimp only
 cases cN (t.length+1) (i+r.2) ((c::t).drop r.2)<;>rfl
theorem F10 {s:List UInt8}(h:s.length<=2000):oH s=rR 0 s:=by
 unfold oH;rw[B1 (decide_eq_false (by omega))];rfl
theorem E30 {s:List UInt8}{T:List TR}(h:oH s=.inr T):rR 0 s=.inr T:=by
 by_cases hs:s.length<=2000
 ·rwa [F10 hs]at h
 ·unfold oH at h;rw[A4 (decide_eq_true (by omega))]at h
  cases h
theorem C3t {s:List UInt8}{x:XR}(h:gI s=.inr x):∃T,oH s=.inr T/\T9 (s.length:Int) (nW (s.length:Int) 20) T=.ok x []:=by
 unfold gI at h
 cases hl:oH s with
 |inl a=>rw[hl]at h;cases h
 |inr T =>
  rw[hl]at h;have h:uS (s.length:Int) T=.inr x:=h;unfold uS at h;refine⟨T,rfl,?_⟩
  cases hx:T9 (s.length:Int) (nW (s.length:Int) 20) T with
  |bad a=>rw[hx]at h;cases h
  |ok y R =>
   rw[hx]at h
   cases R with
   |cons t R=>cases h
   |nil =>
    dsimp only at h
    cases hr:kS y with
    |false=>rw[hr]at h;cases h
    |true =>
     rw[hr]at h;injection h with h;subst h;rfl
def tk (k:Int)(a:Nat)(t:List UInt8):TR:=⟨k,a,t,0,0,0,[]⟩
def feD (s:List UInt8):Option (Int ⊕ XR):=some (gI s)
theorem E9w:D8 F6 Ws 9 (D1l feD):=O3 F4x (D4i _) rfl fun xs r h=>by
 simp only[D1l]at h;split at h
 ·rename_i s;unfold prK feD at h;rw[Aa]at h;refine Cw (b:=some (pxV (B1u (gI s)))) rfl ?_
  cases hv:gI s with
  |inl a=>rw[hv]at h;exact h
  |inr x=>rw[hv]at h;exact h
 ·cases h
theorem E6w {R:Type}{a:Int}{kl:Int->Option R}{kr:XR->Option R}:prK (some (.inl a)) kl kr=kl a:=rfl
theorem E75 {R:Type}{x:XR}{kl:Int->Option R}{kr:XR->Option R}:prK (some (.inr x)) kl kr=kr x:=rfl
abbrev TB:TypeId:=128
abbrev T8:TypeId:=5
def Bl (B b:Nat)(l:List UInt8)(w:World):Prop:=Lib.IsBuilderF TB T8 B b (Lib.byteCells l) w/\B<=w.heap.size
def Kp (B b:Nat)(w w':World):Prop:=Below B w w'/\Lib.OthersKept T8 (some b) w w'
theorem Kp.refl (B b:Nat)(w:World):Kp B b w w:=⟨Below.refl _ _,Lib.OthersKept.refl _ _ _⟩
theorem Kp.trans {B b:Nat}{u v w:World}(h:Kp B b u v)(k:Kp B b v w):Kp B b u w:=⟨h.1.trans k.1,h.2.trans k.2⟩
theorem Kp.of_below {B b:Nat}{w w':World}(h:Below w.heap.size w w')(hB:B<=w.heap.size):Kp B b w w' :=
 ⟨h.mono hB,fun k o hk _ _=>by rw[h.block k (Bu.1 hk).1];exact hk⟩
theorem Kp.alloc {B b:Nat}{w w':World}(h:Kp B b w w')(hB:B<=w.heap.size)(o:Obj):Kp B b w (w'.alloc o) :=
 h.trans (Kp.of_below ((Below.refl _ _).alloc (Ak _) _) (Aw hB h.1.size))
theorem A5n {B b:Nat}{p:Value}{bs:List Value}{w w':World}(h:Lib.BuilderAtF TB T8 B b p bs w)(hb:Below w.heap.size w w'):Lib.BuilderAtF TB T8 B b p bs w':=by
 have hlt:=h.lt;obtain⟨h1,v,h2,h3,h4⟩:=h;exact⟨h1,v,(hb.block b hlt).trans h2,World.ownsRowF.kept (row:=none) h3 ⟨hb.os,hb.tape,hb.output,hb.size,fun k hk _=>hb.block k hk⟩ (by cases v.ownBlock<;>simp),h4⟩
theorem Bl.grown {B b:Nat}{l:List UInt8}{w w':World}(h:Bl B b l w)(hb:Below w.heap.size w w'):Bl B b l w' :=
 ⟨h.1.elim (fun x=>.inl (A5n x hb)) (fun x=>.inr (A5n x hb)),Aw h.2 hb.size⟩
theorem Bl.alloc {B b:Nat}{l:List UInt8}{w:World}(h:Bl B b l w)(o:Obj):Bl B b l (w.alloc o):=h.grown ((Below.refl _ _).alloc (Ak _) _)
theorem Bl.lt {B b:Nat}{l:List UInt8}{w:World}(h:Bl B b l w):b<w.heap.size:=h.1.elim (fun x=>x.lt) (fun x=>x.lt)
def Bw (B b:Nat)(w:World)(l:List UInt8)(w':World):Prop:=Bl B b l w'/\Kp B b w w'
theorem C9s {B b:Nat}{l s:List UInt8}{w:World}(h:Bl B b l w)(hl:l.length+s.length<=10000000000) :
  Calls Tryz.prog 159 #[.pointer (some ⟨b,0,none⟩),.string ⟨s.toArray⟩] w fun e w'=>e=.returned (.tuple #[.int .i64 (s.length:Int),.nilIface])/\Bw B b w (l++s) w':=by
 have hsz:(ByteArray.mk s.toArray).size=s.length:=by simp[ByteArray.size]
 refine(Any.Builder_WriteString_k Tryz.laysB166 Tryz.laysBX B b (Lib.byteCells l) ⟨s.toArray⟩ w h.1 (by rw[hsz,Lib.byteCells,By];omega) h.2).mono ?_
 rintro e w' ⟨rfl,h1,h2,h3⟩
 refine⟨by rw[hsz],⟨?_,Aw h.2 h2.size⟩,h2,h3⟩;refine .inr ?_;rw[show Lib.strCells ⟨s.toArray⟩=Lib.byteCells s from rfl]at h1;rw[show Lib.byteCells (l++s)=Lib.byteCells l++Lib.byteCells s by unfold Lib.byteCells;rw[Dv]];exact h1
theorem B7y {B b:Nat}{l:List UInt8}(c:UInt8){w:World}(h:Bl B b l w)(hl:l.length+1<=10000000000) :
  Calls Tryz.prog 161 #[.pointer (some ⟨b,0,none⟩),.int .u8 (c.toNat:Int)] w fun e w'=>e=.returned .nilIface/\Bw B b w (l++[c]) w':=by
 refine(Any.Builder_WriteByte_k Tryz.laysB167 Tryz.laysBX B b (Lib.byteCells l) (c.toNat:Int) w h.1 (by rw[Lib.byteCells,By];omega) h.2).mono ?_
 rintro e w' ⟨rfl,h1,h2,h3⟩
 refine⟨rfl,⟨?_,Aw h.2 h2.size⟩,h2,h3⟩;refine .inr ?_;rw[show Lib.byteCells (l++[c])=Lib.byteCells l++[.int .u8 (c.toNat:Int)]by unfold Lib.byteCells;rw[Dv];rfl];exact h1
theorem E1t {B b:Nat}{l:List UInt8}{w:World}(h:Bl B b l w) :
  Calls Tryz.prog 80 #[.pointer (some ⟨b,0,none⟩)] w fun e w'=>e=.returned (.string ⟨l.toArray⟩)/\Bw B b w l w':=by
 refine(Any.Builder_String_any_k Tryz.laysB169 Tryz.laysBX B b l w h.1 h.2).mono ?_
 rintro e w' ⟨rfl,h1,h2,h3⟩
 exact⟨rfl,⟨h1,Aw h.2 h2.size⟩,h2,h3⟩
theorem E00 {f:FuncId}{p:D5}(h:D8 F6 Ws f p)(he:∀args w,(callFunc f args).run Tryz.prog w=.ok (.enter f args) w){w:World}(hW:Ws w)(hng:F6<=w.heap.size){xs:List PV}{vs:List Value}(hr:K9 ⟨w,fun _=>0,⟨0,fun _ _=>none⟩⟩ xs vs){s:List UInt8}(hF:p.F xs (R:=PV) some=some (.str s)) :
  Calls Tryz.prog f vs.toArray w fun e w'=>e=.returned (.string ⟨s.toArray⟩)/\Below w.heap.size w w':=by
 rcases h.call ⟨w,fun _=>0,⟨0,fun _ _=>none⟩⟩ xs vs _ hW hng (fun g cs hg=>by cases hg) hr hF with⟨v,w',h1,-⟩|⟨-,h2⟩
 ·have h1:=(he vs.toArray w).symm.trans h1
  cases h1
 ·refine h2.mono ?_
  rintro e w' ⟨v,rfl,U',hm,hv,-⟩
  simp only[B7]at hv;subst hv;exact⟨rfl,hm.os,hm.tape,hm.output,hm.size,fun b hb=>(hm.block b hb (by simp)).1⟩
def T4 (x:XR)(sv:Value):Array Value:=#[.int .i64 x.k,.int .i64 x.a,.string ⟨x.op.toArray⟩,.int .i64 x.vk,.int .i64 x.vn,.int .i64 x.vc,.string ⟨x.vs.toArray⟩,.string ⟨x.tb.toArray⟩,.string ⟨x.nm.toArray⟩,.bool x.nt,.int .i64 x.tk,.int .i64 x.ts,sv]
theorem A5i {M:C4}{x:XR}{r:List PV}{us:List Value}(h:D7 M (x.cells++r) us):∃sv us',us=(T4 x sv).toList++us'/\B7 M (.sl x.knl 13 x.kn x.kc) sv/\D7 M r us':=by
 simp only[XR.cells,Bk,Cd,D7]at h;obtain⟨_,_,rfl,_,h0,_,_,rfl,_,h1,_,_,rfl,_,h2,_,_,rfl,_,h3,_,_,rfl,_,h4,_,_,rfl,_,h5,_,_,rfl,_,h6,_,_,rfl,_,h7,_,_,rfl,_,h8,_,_,rfl,_,h9,_,_,rfl,_,h10,_,_,rfl,_,h11,sv,us',rfl,_,h12,hr⟩:=h;simp only[B7]at h0 h1 h2 h3 h4 h5 h6 h7 h8 h9 h10 h11;subst h0 h1 h2 h3 h4 h5 h6 h7 h8 h9 h10 h11;exact⟨sv,us',rfl,h12,hr⟩
theorem D37 {M:C4}{x:XR}{v:Value}(h:B7 M (.agg x.cells) v):∃sv,v=.agg (T4 x sv)/\B7 M (.sl x.knl 13 x.kn x.kc) sv:=by
 simp only[B7]at h;obtain⟨vs,rfl,h⟩:=h;rw[<-Bf x.cells]at h;obtain⟨sv,us',rfl,h1,h2⟩:=A5i h;simp only[D7]at h2;subst h2;exact⟨sv,by simp,h1⟩
theorem B3l {M:C4}:∀(l:List XR) (us:List Value),D7 M (l.flatMap XR.cells) us->∀(i:Nat) (y:XR),l[i]? =some y->∃sv,B7 M (.sl y.knl 13 y.kn y.kc) sv/\∀(j:Nat) (v:Value),(T4 y sv)[j]? =some v->us[i * 13+j]? =some v
 |[],us,h,i,y,hy=>by simp at hy
 |x::l,us,h,i,y,hy=>by
  rw[Bo]at h;obtain⟨sv,us',rfl,h1,h2⟩:=A5i h;have hlen:(T4 x sv).toList.length=13:=rfl
  cases i with
  |zero =>
   simp only[List.getElem?_cons_zero,Option.some.injEq]at hy;subst hy;refine⟨sv,h1,fun j v hj=>?_⟩
   have hj':(T4 x sv).toList[j]? =some v:=by rw[Array.getElem?_toList];exact hj
   rw[Bd (by rw[hlen];have:=(Aj.1 hj').1;rw[hlen]at this;omega),show 0 * 13+j=j by omega];exact hj'
  |succ i =>
   obtain⟨sv',h3,h4⟩:=B3l l us' h2 i y (by simpa using hy);refine⟨sv',h3,fun j v hj=>?_⟩;rw[Bj (by rw[hlen];omega),hlen,show(i+1) * 13+j-13=i * 13+j by omega];exact h4 j v hj
structure Kid (w:World)(sv:Value)(n:Nat)(i:Nat)(y:XR)(u:Value):Prop where
 at_:∃b o c,sv=.slice (some ⟨b,o,none⟩) n c/\n<=c/\b<w.heap.size/\∀j v,(T4 y u)[j]? =some v->w.cell? ⟨b,o+i * 13+j,none⟩=some v
theorem F09 {M:C4}{x:XR}{sv:Value}(h:B7 M (.sl x.knl 13 x.kn x.kc) sv){l:List XR}(hn:x.kn=l.length)(hc:x.kc=l.flatMap XR.cells){i:Nat}{y:XR}(hy:l[i]? =some y):∃u,Kid M.w sv x.kn i y u/\B7 M (.sl y.knl 13 y.kn y.kc) u:=by
 simp only[B7]at h;obtain⟨A,c,us,rfl,hnc,hcm,_,_,hl,hr,hx⟩:=h;rw[hc]at hr;obtain⟨u,h1,h2⟩:=B3l l us hr i y hy;refine⟨u,?_,h1⟩;have h0:us[i * 13+0]? =some (.int .i64 y.k):=h2 0 _ rfl;rcases hx with hx|⟨b,o,rfl,hcell⟩
 ·rw[hx]at h0;simp at h0
 ·have hv:∀j v,(T4 y u)[j]? =some v->M.w.cell? ⟨b,o+i * 13+j,none⟩=some v:=fun j v hj=>by
   have:=(hcell (i * 13+j) v (h2 j v hj)).1
   rwa [<-Nat.add_assoc]at this
  exact⟨b,o,c,rfl,hnc,World.block_lt_of_cell? M.w _ (hv 0 _ rfl),hv⟩
def tyN (k s:Int):List UInt8:=bif k==3 then [68,69,67,73,77,65,76,40]++tG s 0++[41]else bif k==1 then [66,79,79,76]else bif k==2 then [73,78,84]else bif k==4 then [84,69,88,84]else [66,89,84,69,83]
def dbl (u:List UInt8):List UInt8:=u.flatMap fun c=>if c=39 then [39,39]else [c]
def vI (a n c:Int)(s:List UInt8):List UInt8:=bif a==1 then(bif n==1 then [84,82,85,69]else [70,65,76,83,69])else bif a==2 then tG n 0 else bif a==3 then tG n c else bif a==4 then qt (dbl s)else bif a==5 then 88::qt (eQ s)else [78,85,76,76]
def B79 (k:Int)(op:List UInt8)(nt:Bool)(tk ts:Int):List (List UInt8)->List UInt8
 |[]=>[42]
 |[a]=>bif k==2 then op++[32]++a else bif k==4 then a++[32,73,83,32]++(bif nt then [78,79,84,32]else [])++[78,85,76,76]else bif k==5 then a else a++([32,65,83,32]++tyN tk ts)
 |a::b::_=>a++([32]++op++[32])++b
def D8w (k:Int)(op:List UInt8):List UInt8:=bif k==5 then op else bif k==6 then [67,65,83,84]else []
def A01 (tb nm:List UInt8):List UInt8:=(bif tb==[]then []else tb++[46])++nm
def D3:Nat->TX->List UInt8
 |0,_=>[]
 |d+1,.mk k op vk vn vc vs tb nm nt tk ts ks=>bif k==0 then vI vk vn vc vs else bif k==1 then A01 tb nm else D8w k op++[40]++B79 k op nt tk ts (ks.map (D3 d))++[41]
def inG:Nat->TX->Bool
 |0,_=>true
 |d+1,.mk _ _ _ vn _ _ _ _ _ _ _ ks=>mG vn&&ks.all (inG d)
theorem D12 {a n c:Int}{s r:List UInt8}{w:World}(hW:Ws w)(hng:F6<=w.heap.size)(h:jC a n c s=some r):Calls Tryz.prog 160 #[.agg #[.int .i64 a,.int .i64 n,.int .i64 c,.string ⟨s.toArray⟩]] w fun e w'=>e=.returned (.string ⟨r.toArray⟩)/\Below w.heap.size w w' :=
 E00 B4i (enters_of Tryz.func160 (by kernel_rfl) rfl) hW hng (xs:=[.agg [.int .i64 a,.int .i64 n,.int .i64 c,.str s]]) (vs:=[.agg #[.int .i64 a,.int .i64 n,.int .i64 c,.string ⟨s.toArray⟩]])
  (by simp only[K9,B7,D7];exact⟨_,_,rfl,⟨[_,_,_,_],rfl,_,_,rfl,rfl,rfl,_,_,rfl,rfl,rfl,_,_,rfl,rfl,rfl,_,_,rfl,rfl,rfl,rfl⟩,rfl⟩)
  (by show(jC a n c s).bind _=_;rw[h];rfl)
def bH (w:World)(g:Nat)(x:XR)(sv:Value):Prop:=w.heap[g]? =some (.cells (T4 x sv) 31 (0,0))
theorem bH.new (w:World)(x:XR)(sv:Value):bH (w.alloc (.cells (T4 x sv) 31)) w.heap.size x sv:=heap_alloc_new w _
theorem bH.kept {w w':World}{B b g:Nat}{x:XR}{sv:Value}(h:bH w g x sv)(k:Kp B b w w')(hg:g≠b):bH w' g x sv:=k.2 g _ h (by simpa using hg) (by rintro c fz e;injection e with _ e;exact absurd e (by decide))
theorem bH.facts {w:World}{g:Nat}{x:XR}{sv:Value}(h:bH w g x sv):w.cell? ⟨g,0,none⟩=some (.int .i64 x.k)/\w.cell? ⟨g,1,none⟩=some (.int .i64 x.a)/\w.cell? ⟨g,2,none⟩=some (.string ⟨x.op.toArray⟩)/\w.cell? ⟨g,3,none⟩=some (.int .i64 x.vk)/\w.cell? ⟨g,4,none⟩=some (.int .i64 x.vn)/\w.cell? ⟨g,5,none⟩=some (.int .i64 x.vc)/\w.cell? ⟨g,6,none⟩=some (.string ⟨x.vs.toArray⟩)/\w.cell? ⟨g,7,none⟩=some (.string ⟨x.tb.toArray⟩)/\w.cell? ⟨g,8,none⟩=some (.string ⟨x.nm.toArray⟩)/\w.cell? ⟨g,9,none⟩=some (.bool x.nt)/\w.cell? ⟨g,10,none⟩=some (.int .i64 x.tk)/\w.cell? ⟨g,11,none⟩=some (.int .i64 x.ts)/\w.cell? ⟨g,12,none⟩=some sv:=by
 unfold bH at h;simp only[World.cell?,h,T4];exact⟨rfl,rfl,rfl,rfl,rfl,rfl,rfl,rfl,rfl,rfl,rfl,rfl,rfl⟩
theorem E3b (B b:Nat)(x:XR)(sv:Value)(r l:List UInt8)(w:World)(hk:x.k=0)(hr:jC x.vk x.vn x.vc x.vs=some r)(hW:Ws w)(hng:F6<=w.heap.size)(hb:Bl B b l w)(hl:l.length+r.length<=1000000000) :
  Calls Tryz.prog 79 #[.pointer (some ⟨b,0,none⟩),.agg (T4 x sv)] w fun e w'=>e=.returned (.tuple #[])/\Bw B b w (l++r) w':=by
 obtain⟨k,a,op,vk,vn,vc,vs,tb,nm,nt,tk,ts,knl,kn,kc⟩:=x;dsimp only at hk hr;subst hk;have hp:=fun(w:World) (hW:Ws w) (hng:F6<=w.heap.size)=>D12 hW hng hr;have hW1:∀o,Ws (w.alloc o):=fun o=>D4 _ _ (fun b hb=>Below.heap_alloc w o b (by omega)) hW
 have hng1:∀o,F6<=(w.alloc o).heap.size:=fun o=>by simp;omega
 have hb1:=fun o=>hb.alloc o;have HP:=hide hp;have HW:=hide hW1;have HN:=hide hng1;have HB:=hide hb1;clear hp hW1 hng1 hr hW hng hb1;unfold T4
 go_enter Tryz.func79,Tryz.ntmps79
 go_wp2_with (first
  |(go_at_call 160;refine(unhide HP _ (unhide HW _) (unhide HN _)).mono ?_;rintro e w1 ⟨rfl,h1⟩)
  |(go_at_call 159;refine(C9s ((unhide HB _).grown h1) (by omega)).mono ?_;rintro e w2 ⟨rfl,h2⟩))
 all_goals((try simp only[Exit.inBlock,Exit.then]);first|(refine bodyPost_ret (results_none rfl _ _ _) rfl ?_)|(refine bodyPost_end (results_none rfl _ _ _) rfl ?_))
 all_goals exact⟨rfl,h2.1,(Kp.refl _ _ _).alloc hb.2 _ |>.trans ((Kp.of_below h1 (hb.alloc _).2).trans h2.2)⟩
theorem eP {B b:Nat}{l:List UInt8}(s:ByteArray){w:World}(h:Bl B b l w)(hl:l.length+s.data.toList.length<=10000000000) :
  Calls Tryz.prog 159 #[.pointer (some ⟨b,0,none⟩),.string s] w fun e w'=>e=.returned (.tuple #[.int .i64 (s.data.toList.length:Int),.nilIface])/\Bw B b w (l++s.data.toList) w':=by
 obtain⟨a⟩:=s
 have e:a=a.toList.toArray:=by simp
 have:=C9s (s:=a.toList) h hl;rw[<-e]at this;exact this
theorem wL {B b:Nat}{l:List UInt8}{w:World}(h:Bl B b l w)(hl:l.length+1<=10000000000):Calls Tryz.prog 161 #[.pointer (some ⟨b,0,none⟩),.int .u8 40] w fun e w'=>e=.returned .nilIface/\Bw B b w (l++[40]) w':=B7y 40 h hl
theorem vL {B b:Nat}{l:List UInt8}{w:World}(h:Bl B b l w)(hl:l.length+1<=10000000000):Calls Tryz.prog 161 #[.pointer (some ⟨b,0,none⟩),.int .u8 41] w fun e w'=>e=.returned .nilIface/\Bw B b w (l++[41]) w':=B7y 41 h hl
theorem D94 {B b:Nat}{l:List UInt8}{w:World}(h:Bl B b l w)(hl:l.length+1<=10000000000):Calls Tryz.prog 161 #[.pointer (some ⟨b,0,none⟩),.int .u8 42] w fun e w'=>e=.returned .nilIface/\Bw B b w (l++[42]) w':=B7y 42 h hl
def Kf (w:World)(kb ko:Nat)(vs:Array Value):Prop:=∀j v,vs[j]? =some v->w.cell? ⟨kb,ko+j,none⟩=some v
theorem Kf.below {B:Nat}{w w':World}{kb ko:Nat}{vs:Array Value}(h:Kf w kb ko vs)(hb:Below B w w')(hk:kb<B):Kf w' kb ko vs:=fun j v hj=>(hb.cell (p:=⟨kb,ko+j,none⟩) hk).trans (h j v hj)
theorem Kf.facts {w:World}{kb ko:Nat}{x:XR}{sv:Value}(h:Kf w kb ko (T4 x sv)):w.cell? ⟨kb,ko,none⟩=some (.int .i64 x.k)/\w.cell? ⟨kb,ko+1,none⟩=some (.int .i64 x.a)/\w.cell? ⟨kb,ko+2,none⟩=some (.string ⟨x.op.toArray⟩)/\w.cell? ⟨kb,ko+3,none⟩=some (.int .i64 x.vk)/\w.cell? ⟨kb,ko+4,none⟩=some (.int .i64 x.vn)/\w.cell? ⟨kb,ko+5,none⟩=some (.int .i64 x.vc)/\w.cell? ⟨kb,ko+6,none⟩=some (.string ⟨x.vs.toArray⟩)/\w.cell? ⟨kb,ko+7,none⟩=some (.string ⟨x.tb.toArray⟩)/\w.cell? ⟨kb,ko+8,none⟩=some (.string ⟨x.nm.toArray⟩)/\w.cell? ⟨kb,ko+9,none⟩=some (.bool x.nt)/\w.cell? ⟨kb,ko+10,none⟩=some (.int .i64 x.tk)/\w.cell? ⟨kb,ko+11,none⟩=some (.int .i64 x.ts)/\w.cell? ⟨kb,ko+12,none⟩=some sv :=
 ⟨h 0 _ rfl,h 1 _ rfl,h 2 _ rfl,h 3 _ rfl,h 4 _ rfl,h 5 _ rfl,h 6 _ rfl,h 7 _ rfl,h 8 _ rfl,h 9 _ rfl,h 10 _ rfl,h 11 _ rfl,h 12 _ rfl⟩
def KW (w0:World)(B b:Nat)(y:XR)(u:Value)(t:List UInt8):Prop:=∀(l:List UInt8) (w:World),Below B w0 w->Bl B b l w->l.length+t.length<=1000000000->Calls Tryz.prog 79 #[.pointer (some ⟨b,0,none⟩),.agg (T4 y u)] w fun e w'=>e=.returned (.tuple #[])/\Bw B b w (l++t) w'
theorem F8h (w0:World)(B b:Nat)(x y:XR)(u:Value)(t l:List UInt8)(kb ko c:Nat)(w:World)(hk:x.k=2)(hkb:kb<B)(hf:Kf w0 kb ko (T4 y u))(hc:1<=c)(hkw:KW w0 B b y u t)(hB:Below B w0 w)(hb:Bl B b l w)(hl:l.length+(x.op++[32]++t).length<=1000000000) :
  Calls Tryz.prog 162 #[.pointer (some ⟨b,0,none⟩),.agg (T4 x (.slice (some ⟨kb,ko,none⟩) 1 c))] w fun e w'=>e=.returned (.tuple #[])/\Bw B b w (l++(x.op++[32]++t)) w':=by
 have hbl:=hb.lt;have hge:=hb.2;obtain⟨k,a,op,vk,vn,vc,vs,tb,nm,nt,tk,ts,knl,kn,kc⟩:=x;dsimp only at hk hl ⊢;subst hk
 try simp only[Af,Ac,Ai]at hl
 have hne:kb≠w.heap.size:=by omega
 have HF:=hide hf;have HK:=hide hkw;have hA:=(Kp.refl B b w).alloc hge (.cells (T4 ⟨2,a,op,vk,vn,vc,vs,tb,nm,nt,tk,ts,knl,kn,kc⟩ (.slice (some ⟨kb,ko,none⟩) 1 c)) 31);have hL:=bH.new w ⟨2,a,op,vk,vn,vc,vs,tb,nm,nt,tk,ts,knl,kn,kc⟩ (.slice (some ⟨kb,ko,none⟩) 1 c);have HA:=hide hA;have HL:=hide hL;clear hf hkw hA hL;unfold T4;unfold T4 at HA
 go_enter Tryz.func162,Tryz.ntmps162
 go_wp2_with (first
  |(go_at_call 159;refine(eP _ (hb.alloc _) ?_).mono ?_;(·first|(simp;done)|(simp;omega)|omega);rintro e w1 ⟨rfl,h1⟩;have L1:=(unhide HL).kept h1.2 (by omega);obtain⟨q0,q1,q2,q3,q4,q5,q6,q7,q8,q9,q10,q11,q12⟩:=bH.facts L1;obtain⟨p0,p1,p2,p3,p4,p5,p6,p7,p8,p9,p10,p11,p12⟩:=((unhide HF).below ((hB.trans (unhide HA).1).trans h1.2.1) hkb).facts)
  |(go_at_call 79;refine(unhide HK _ _ ((hB.trans (unhide HA).1).trans h1.2.1) h1.1 ?_).mono ?_;(·first|(simp;done)|(simp;omega)|omega);rintro e w2 ⟨rfl,h2⟩))
 all_goals((try simp only[Exit.inBlock,Exit.then]);first|(refine bodyPost_ret (results_none rfl _ _ _) rfl ?_)|(refine bodyPost_end (results_none rfl _ _ _) rfl ?_))
 all_goals exact⟨rfl,by have:=h2.1;simpa [Al]using this,(unhide HA).trans (h1.2.trans h2.2)⟩
theorem F8t (w0:World)(B b:Nat)(x y:XR)(u:Value)(t:List UInt8)(l:List UInt8)(kb ko c:Nat)(w:World)(hk:x.k=5)(hf:Kf w0 kb ko (T4 y u))(hkw:KW w0 B b y u t)(hkb:kb<B)(hc:1<=c)(hB:Below B w0 w)(hb:Bl B b l w)(hl:l.length+(t).length<=1000000000) :
  Calls Tryz.prog 162 #[.pointer (some ⟨b,0,none⟩),.agg (T4 x (.slice (some ⟨kb,ko,none⟩) 1 c))] w fun e w'=>e=.returned (.tuple #[])/\Bw B b w (l++(t)) w':=by
 have hbl:=hb.lt;have hge:=hb.2;obtain⟨k,a,op,vk,vn,vc,vs,tb,nm,nt,tk,ts,knl,kn,kc⟩:=x;dsimp only at hk hl ⊢;subst hk
 try simp only[Af,Ac,Ai]at hl
 have hne:kb≠w.heap.size:=by omega
 have hA:=(Kp.refl B b w).alloc hge (.cells (T4 ⟨5,a,op,vk,vn,vc,vs,tb,nm,nt,tk,ts,knl,kn,kc⟩ (.slice (some ⟨kb,ko,none⟩) 1 c)) 31);have hL:=bH.new w ⟨5,a,op,vk,vn,vc,vs,tb,nm,nt,tk,ts,knl,kn,kc⟩ (.slice (some ⟨kb,ko,none⟩) 1 c);have HA:=hide hA;have HL:=hide hL;obtain⟨p0,p1,p2,p3,p4,p5,p6,p7,p8,p9,p10,p11,p12⟩:=((hf.below hB hkb).below hA.1 hkb).facts;unfold T4 at p0 p1 p2 p3 p4 p5 p6 p7 p8 p9 p10 p11 p12;have HK:=hide hkw;clear hf hkw hA hL;unfold T4;unfold T4 at HA
 go_enter Tryz.func162,Tryz.ntmps162
 go_wp2_with (first
  |(go_at_call 79;refine(unhide HK _ _ (hB.trans (unhide HA).1) (hb.alloc _) ?_).mono ?_;(·first|(simp;done)|(simp;omega)|omega);rintro e w1 ⟨rfl,h1⟩))
 all_goals((try simp only[Exit.inBlock,Exit.then]);first|(refine bodyPost_ret (results_none rfl _ _ _) rfl ?_)|(refine bodyPost_end (results_none rfl _ _ _) rfl ?_))
 all_goals exact⟨rfl,by have:=h1.1;simpa [Al]using this,(unhide HA).trans h1.2⟩
set_option maxHeartbeats 1000000 in
theorem F9g (w0:World) (B b:Nat) (x y:XR) (y1:XR) (u u1:Value) (t t1:List UInt8) (l:List UInt8) (kb ko c:Nat) (w:World) (hk:x.k=3) (hf:Kf w0 kb ko (T4 y u)) (hf1:Kf w0 kb (ko+13) (T4 y1 u1)) (hkw:KW w0 B b y u t) (hkw1:KW w0 B b y1 u1 t1) (hkb:kb<B) (hc:1<=c) (hB:Below B w0 w) (hb:Bl B b l w) (hl:l.length+(t++([32]++x.op++[32])++t1).length<=1000000000) :
  Calls Tryz.prog 162 #[.pointer (some ⟨b,0,none⟩),.agg (T4 x (.slice (some ⟨kb,ko,none⟩) 2 c))] w fun e w'=>e=.returned (.tuple #[])/\Bw B b w (l++(t++([32]++x.op++[32])++t1)) w':=by
 have hbl:=hb.lt;have hge:=hb.2;obtain⟨k,a,op,vk,vn,vc,vs,tb,nm,nt,tk,ts,knl,kn,kc⟩:=x;dsimp only at hk hl ⊢;subst hk
 try simp only[Af,Ac,Ai]at hl
 have hne:kb≠w.heap.size:=by omega
 have hA:=(Kp.refl B b w).alloc hge (.cells (T4 ⟨3,a,op,vk,vn,vc,vs,tb,nm,nt,tk,ts,knl,kn,kc⟩ (.slice (some ⟨kb,ko,none⟩) 2 c)) 31);have hL:=bH.new w ⟨3,a,op,vk,vn,vc,vs,tb,nm,nt,tk,ts,knl,kn,kc⟩ (.slice (some ⟨kb,ko,none⟩) 2 c);have HA:=hide hA;have HL:=hide hL;obtain⟨p0,p1,p2,p3,p4,p5,p6,p7,p8,p9,p10,p11,p12⟩:=((hf.below hB hkb).below hA.1 hkb).facts;unfold T4 at p0 p1 p2 p3 p4 p5 p6 p7 p8 p9 p10 p11 p12;have HK:=hide hkw;have HK1:=hide hkw1;have HF1:=hide hf1;clear hf hkw hf1 hkw1 hA hL;unfold T4;unfold T4 at HA
 go_enter Tryz.func162,Tryz.ntmps162
 go_wp2_with (first
  |(go_at_call 79;refine(unhide HK1 _ _ ((hB.trans (unhide HA).1).trans (h1.2.trans h2.2).1) h2.1 ?_).mono ?_;(·first|(simp;done)|(simp;omega)|omega);rintro e w3 ⟨rfl,h3⟩)
  |(go_at_call 79;refine(unhide HK _ _ (hB.trans (unhide HA).1) (hb.alloc _) ?_).mono ?_;(·first|(simp;done)|(simp;omega)|omega);rintro e w1 ⟨rfl,h1⟩;have L1:=(unhide HL).kept h1.2 (by omega);obtain⟨q0,q1,q2,q3,q4,q5,q6,q7,q8,q9,q10,q11,q12⟩:=bH.facts L1)
  |(go_at_call 159;refine(eP _ h1.1 ?_).mono ?_;(·first|(simp;done)|(simp;omega)|omega);rintro e w2 ⟨rfl,h2⟩;have L2:=L1.kept h2.2 (by omega);obtain⟨r0,r1,r2,r3,r4,r5,r6,r7,r8,r9,r10,r11,r12⟩:=bH.facts L2;obtain⟨s0,s1,s2,s3,s4,s5,s6,s7,s8,s9,s10,s11,s12⟩:=((unhide HF1).below ((hB.trans (unhide HA).1).trans (h1.2.trans h2.2).1) hkb).facts))
 all_goals((try simp only[Exit.inBlock,Exit.then]);first|(refine bodyPost_ret (results_none rfl _ _ _) rfl ?_)|(refine bodyPost_end (results_none rfl _ _ _) rfl ?_))
 all_goals exact⟨rfl,by have:=h3.1;simpa [Al]using this,(unhide HA).trans (h1.2.trans (h2.2.trans h3.2))⟩
set_option maxHeartbeats 1000000 in
theorem F4d (w0:World) (B b:Nat) (x y:XR) (u:Value) (t:List UInt8) (l:List UInt8) (kb ko c:Nat) (w:World) (hk:x.k=4) (hnt:x.nt=false) (hf:Kf w0 kb ko (T4 y u)) (hkw:KW w0 B b y u t) (hkb:kb<B) (hc:1<=c) (hB:Below B w0 w) (hb:Bl B b l w) (hl:l.length+(t++[32,73,83,32]++[78,85,76,76]).length<=1000000000) :
  Calls Tryz.prog 162 #[.pointer (some ⟨b,0,none⟩),.agg (T4 x (.slice (some ⟨kb,ko,none⟩) 1 c))] w fun e w'=>e=.returned (.tuple #[])/\Bw B b w (l++(t++[32,73,83,32]++[78,85,76,76])) w':=by
 have hbl:=hb.lt;have hge:=hb.2;obtain⟨k,a,op,vk,vn,vc,vs,tb,nm,nt,tk,ts,knl,kn,kc⟩:=x;dsimp only at hk hl hnt ⊢;subst hk;subst hnt
 try simp only[Af,Ac,Ai]at hl
 have hne:kb≠w.heap.size:=by omega
 have hA:=(Kp.refl B b w).alloc hge (.cells (T4 ⟨4,a,op,vk,vn,vc,vs,tb,nm,false,tk,ts,knl,kn,kc⟩ (.slice (some ⟨kb,ko,none⟩) 1 c)) 31);have hL:=bH.new w ⟨4,a,op,vk,vn,vc,vs,tb,nm,false,tk,ts,knl,kn,kc⟩ (.slice (some ⟨kb,ko,none⟩) 1 c);have HA:=hide hA;have HL:=hide hL;obtain⟨p0,p1,p2,p3,p4,p5,p6,p7,p8,p9,p10,p11,p12⟩:=((hf.below hB hkb).below hA.1 hkb).facts;unfold T4 at p0 p1 p2 p3 p4 p5 p6 p7 p8 p9 p10 p11 p12;have HK:=hide hkw;clear hf hkw hA hL;unfold T4;unfold T4 at HA
 go_enter Tryz.func162,Tryz.ntmps162
 go_wp2_with (first
  |(go_at_call 79;refine(unhide HK _ _ (hB.trans (unhide HA).1) (hb.alloc _) ?_).mono ?_;(·first|(simp;done)|(simp;omega)|omega);rintro e w1 ⟨rfl,h1⟩;have L1:=(unhide HL).kept h1.2 (by omega);obtain⟨q0,q1,q2,q3,q4,q5,q6,q7,q8,q9,q10,q11,q12⟩:=bH.facts L1)
  |(go_at_call 159;refine(eP _ h1.1 ?_).mono ?_;(·first|(simp;done)|(simp;omega)|omega);rintro e w2 ⟨rfl,h2⟩;have L2:=L1.kept h2.2 (by omega);obtain⟨r0,r1,r2,r3,r4,r5,r6,r7,r8,r9,r10,r11,r12⟩:=bH.facts L2)
  |(go_at_call 159;refine(eP _ h2.1 ?_).mono ?_;(·first|(simp;done)|(simp;omega)|omega);rintro e w3 ⟨rfl,h3⟩))
 all_goals((try simp only[Exit.inBlock,Exit.then]);first|(refine bodyPost_ret (results_none rfl _ _ _) rfl ?_)|(refine bodyPost_end (results_none rfl _ _ _) rfl ?_))
 all_goals exact⟨rfl,by have:=h3.1;simpa [Al]using this,(unhide HA).trans (h1.2.trans (h2.2.trans h3.2))⟩
set_option maxHeartbeats 1000000 in
theorem F67 (w0:World) (B b:Nat) (x y:XR) (u:Value) (t:List UInt8) (l:List UInt8) (kb ko c:Nat) (w:World) (hk:x.k=4) (hnt:x.nt=true) (hf:Kf w0 kb ko (T4 y u)) (hkw:KW w0 B b y u t) (hkb:kb<B) (hc:1<=c) (hB:Below B w0 w) (hb:Bl B b l w) (hl:l.length+(t++[32,73,83,32]++[78,79,84,32]++[78,85,76,76]).length<=1000000000) :
  Calls Tryz.prog 162 #[.pointer (some ⟨b,0,none⟩),.agg (T4 x (.slice (some ⟨kb,ko,none⟩) 1 c))] w fun e w'=>e=.returned (.tuple #[])/\Bw B b w (l++(t++[32,73,83,32]++[78,79,84,32]++[78,85,76,76])) w':=by
 have hbl:=hb.lt;have hge:=hb.2;obtain⟨k,a,op,vk,vn,vc,vs,tb,nm,nt,tk,ts,knl,kn,kc⟩:=x;dsimp only at hk hl hnt ⊢;subst hk;subst hnt
 try simp only[Af,Ac,Ai]at hl
 have hne:kb≠w.heap.size:=by omega
 have hA:=(Kp.refl B b w).alloc hge (.cells (T4 ⟨4,a,op,vk,vn,vc,vs,tb,nm,true,tk,ts,knl,kn,kc⟩ (.slice (some ⟨kb,ko,none⟩) 1 c)) 31);have hL:=bH.new w ⟨4,a,op,vk,vn,vc,vs,tb,nm,true,tk,ts,knl,kn,kc⟩ (.slice (some ⟨kb,ko,none⟩) 1 c);have HA:=hide hA;have HL:=hide hL;obtain⟨p0,p1,p2,p3,p4,p5,p6,p7,p8,p9,p10,p11,p12⟩:=((hf.below hB hkb).below hA.1 hkb).facts;unfold T4 at p0 p1 p2 p3 p4 p5 p6 p7 p8 p9 p10 p11 p12;have HK:=hide hkw;clear hf hkw hA hL;unfold T4;unfold T4 at HA
 go_enter Tryz.func162,Tryz.ntmps162
 go_wp2_with (first
  |(go_at_call 79;refine(unhide HK _ _ (hB.trans (unhide HA).1) (hb.alloc _) ?_).mono ?_;(·first|(simp;done)|(simp;omega)|omega);rintro e w1 ⟨rfl,h1⟩;have L1:=(unhide HL).kept h1.2 (by omega);obtain⟨q0,q1,q2,q3,q4,q5,q6,q7,q8,q9,q10,q11,q12⟩:=bH.facts L1)
  |(go_at_call 159;refine(eP _ h1.1 ?_).mono ?_;(·first|(simp;done)|(simp;omega)|omega);rintro e w2 ⟨rfl,h2⟩;have L2:=L1.kept h2.2 (by omega);obtain⟨r0,r1,r2,r3,r4,r5,r6,r7,r8,r9,r10,r11,r12⟩:=bH.facts L2)
  |(go_at_call 159;refine(eP _ h2.1 ?_).mono ?_;(·first|(simp;done)|(simp;omega)|omega);rintro e w3 ⟨rfl,h3⟩)
  |(go_at_call 159;refine(eP _ h3.1 ?_).mono ?_;(·first|(simp;done)|(simp;omega)|omega);rintro e w4 ⟨rfl,h4⟩))
 all_goals((try simp only[Exit.inBlock,Exit.then]);first|(refine bodyPost_ret (results_none rfl _ _ _) rfl ?_)|(refine bodyPost_end (results_none rfl _ _ _) rfl ?_))
 all_goals exact⟨rfl,by have:=h4.1;simpa [Al]using this,(unhide HA).trans (h1.2.trans (h2.2.trans (h3.2.trans h4.2)))⟩
set_option maxHeartbeats 1000000 in
theorem F90 (w0:World) (B b:Nat) (x y:XR) (u:Value) (t tn:List UInt8) (l:List UInt8) (kb ko c:Nat) (w:World) (hk:x.k=6) (hf:Kf w0 kb ko (T4 y u)) (hkw:KW w0 B b y u t) (hty:∀w,Below B w0 w->Calls Tryz.prog 40 #[.agg #[.int .i64 x.tk,.int .i64 x.ts]] w fun e w'=>e=.returned (.string ⟨tn.toArray⟩)/\Below w.heap.size w w') (hkb:kb<B) (hc:1<=c) (hB:Below B w0 w) (hb:Bl B b l w) (hl:l.length+(t++([32,65,83,32]++tn)).length<=1000000000) :
  Calls Tryz.prog 162 #[.pointer (some ⟨b,0,none⟩),.agg (T4 x (.slice (some ⟨kb,ko,none⟩) 1 c))] w fun e w'=>e=.returned (.tuple #[])/\Bw B b w (l++(t++([32,65,83,32]++tn))) w':=by
 have hbl:=hb.lt;have hge:=hb.2;obtain⟨k,a,op,vk,vn,vc,vs,tb,nm,nt,tk,ts,knl,kn,kc⟩:=x;dsimp only at hk hl hty ⊢;subst hk
 try simp only[Af,Ac,Ai]at hl
 have hne:kb≠w.heap.size:=by omega
 have hA:=(Kp.refl B b w).alloc hge (.cells (T4 ⟨6,a,op,vk,vn,vc,vs,tb,nm,nt,tk,ts,knl,kn,kc⟩ (.slice (some ⟨kb,ko,none⟩) 1 c)) 31);have hL:=bH.new w ⟨6,a,op,vk,vn,vc,vs,tb,nm,nt,tk,ts,knl,kn,kc⟩ (.slice (some ⟨kb,ko,none⟩) 1 c);have HA:=hide hA;have HL:=hide hL;obtain⟨p0,p1,p2,p3,p4,p5,p6,p7,p8,p9,p10,p11,p12⟩:=((hf.below hB hkb).below hA.1 hkb).facts;unfold T4 at p0 p1 p2 p3 p4 p5 p6 p7 p8 p9 p10 p11 p12;have HK:=hide hkw;have HT:=hide hty;clear hf hkw hty hA hL;unfold T4;unfold T4 at HA
 go_enter Tryz.func162,Tryz.ntmps162
 go_wp2_with (first
  |(go_at_call 79;refine(unhide HK _ _ (hB.trans (unhide HA).1) (hb.alloc _) ?_).mono ?_;(·first|(simp;done)|(simp;omega)|omega);rintro e w1 ⟨rfl,h1⟩;have L1:=(unhide HL).kept h1.2 (by omega);obtain⟨q0,q1,q2,q3,q4,q5,q6,q7,q8,q9,q10,q11,q12⟩:=bH.facts L1)
  |(go_at_call 40;refine(unhide HT _ ((hB.trans (unhide HA).1).trans h1.2.1)).mono ?_;rintro e w2 ⟨rfl,h2⟩)
  |(go_at_call 159;refine(eP _ (h1.1.grown h2) ?_).mono ?_;(·first|(simp;done)|(simp;omega)|omega);rintro e w3 ⟨rfl,h3⟩))
 all_goals((try simp only[Exit.inBlock,Exit.then]);first|(refine bodyPost_ret (results_none rfl _ _ _) rfl ?_)|(refine bodyPost_end (results_none rfl _ _ _) rfl ?_))
 all_goals exact⟨rfl,by have:=h3.1;simpa [Al]using this,(unhide HA).trans (h1.2.trans ((Kp.of_below h2 h1.1.2).trans h3.2))⟩
theorem B0t:∀u:List UInt8,Dbl (dbl u) u
 |[]=>.nil
 |c::u=>by
  unfold dbl;rw[Bo]
  by_cases h:c=39
  ·subst h;exact .q (B0t u)
  ·rw[if_neg h];exact .c h (B0t u)
theorem nK (u:List UInt8):(dbl u).length<=2 * u.length:=by
 induction u with
 |nil=>exact Ak _
 |cons c u ih =>
  unfold dbl at ih ⊢;rw[Bo,Af,Ac];split
  ·simp only[Ac,Ai];omega
  ·simp only[Ac,Ai];omega
theorem jX (u:List UInt8):(eQ u).length=2 * u.length:=by
 induction u with
 |nil=>rfl
 |cons c u ih =>
  unfold eQ at ih ⊢;rw[Bo,Af,Ac,ih];simp only[Ac,Ai];omega
theorem yG {a n c:Int}{s:List UInt8}(h:G9 a n c s=true):s.length<=200:=by
 unfold G9 at h
 by_cases h0:a=0
 ·rw[A4 (by rw[h0];rfl)]at h;simp only[Ae,beq_iff_eq]at h;rw[h.2.2];simp
 rw[B1 (beq_eq_false_iff_ne.2 h0)]at h
 by_cases h1:a=1
 ·rw[A4 (by rw[h1];rfl)]at h;simp only[Ae,beq_iff_eq]at h;rw[h.2.2];simp
 rw[B1 (beq_eq_false_iff_ne.2 h1)]at h
 by_cases h2:a=2
 ·rw[A4 (by rw[h2];rfl)]at h;simp only[Ae,beq_iff_eq]at h;rw[h.2];simp
 rw[B1 (beq_eq_false_iff_ne.2 h2)]at h
 by_cases h3:a=3
 ·rw[A4 (by rw[h3];rfl)]at h;simp only[Ae,beq_iff_eq]at h;rw[h.1];simp
 rw[B1 (beq_eq_false_iff_ne.2 h3)]at h
 by_cases h4:a=4
 ·rw[A4 (by rw[h4];rfl)]at h;simp only[Ae,beq_iff_eq,decide_eq_true_eq]at h;exact h.2.2.1
 rw[B1 (beq_eq_false_iff_ne.2 h4)]at h
 by_cases h5:a=5
 ·rw[A4 (by rw[h5];rfl)]at h;simp only[Ae,beq_iff_eq,decide_eq_true_eq]at h;exact h.2.2
 rw[B1 (beq_eq_false_iff_ne.2 h5)]at h
 cases h
theorem hC {a n c:Int}{s:List UInt8}(h:kY a n c s=true):G9 a n c s=true:=by
 unfold kY at h
 cases hr:G9 a n c s with
 |true=>rfl
 |false=>rw[hr]at h;simp at h
theorem yH {n c:Int}{s:List UInt8}(h:kY 3 n c s=true):0<c:=by
 unfold kY at h
 cases hr:G9 3 n c s with
 |true =>
  rw[hr,cond_true]at h
  cases hx:(bif !(bif(3:Int)==2 then true else(3:Int)==3)then true else decide (0<=n))with
  |true=>rw[hx,cond_true]at h;simpa using h
  |false=>rw[hx,cond_false]at h;cases h
 |false=>rw[hr]at h;simp at h
theorem E3k {a n c:Int}{s:List UInt8}(h:kY a n c s=true)(hn:mG n=true):jC a n c s=some (vI a n c s):=by
 have hr:=hC h;have hs:=yG hr
 have hv:tA a n c s=some ⟨a,n,c,s⟩:=by
  unfold tA kI wV;rw[A4 (decide_eq_true (by omega)),Aa,hr];rfl
 have hp:∀m,prD n m=some (tG n m):=fun m=>by
  unfold prD;rw[hn];rfl
 unfold jC zN vI;rw[hv,Aa];dsimp only
 cases h1:a==1 with
 |true=>cases n==1<;>rfl
 |false =>
  rw[cond_false,cond_false]
  cases h2:a==2 with
  |true=>rw[cond_true,cond_true,hp];rfl
  |false =>
   rw[cond_false,cond_false]
   cases h3:a==3 with
   |true =>
    have:a=3:=by simpa using h3
    subst this;have hc:=yH h;rw[cond_true,cond_true,beq_eq_false_iff_ne.2 (show c≠0 by omega),cond_false,hp];rfl
   |false =>
    rw[cond_false,cond_false]
    cases h4:a==4 with
    |true =>
     have hl:=nK s
     have hrep:A48 s [39] [39,39]=some (dbl s):=by
      unfold A48;rw[A4 (by simp only[Ae,decide_eq_true_eq];simp;omega),D72 (B0t s)]
     rw[cond_true,cond_true,hrep,Aa,E5 (by simp only[Ac,Ai];omega),E5 (by simp only[Af,Ac,Ai];omega)];rfl
    |false =>
     rw[cond_false,cond_false]
     cases h5:a==5 with
     |true =>
      have hl:=jX s
      have hh:B2y s=some (eQ s):=by
       unfold B2y;rw[A4 (decide_eq_true (by omega))]
      rw[cond_true,cond_true,hh,Aa,E5 (by simp only[Ac,Ai];omega),E5 (by simp only[Af,Ac,Ai];omega)];rfl
     |false=>rfl
def lTn (ft:Int->Int->Option Bool)(fp:Int->Int->Option (List UInt8)):List (FuncId×D5):=[(82,tTb ft),(83,tDp fp)]
section
variable (ft:Int->Int->Option Bool) (fp:Int->Int->Option (List UInt8)) (fu:Nat) (s:Int)
theorem D9m:C6 (en (lTn ft fp)) I4 fu false Tryz.f40 [.agg [.int .i64 1,.int .i64 s]]=(ft 1 s).bind fun b=>bif !b then some (.str [])else some (.str [66,79,79,76]):=by kernel_rfl
theorem E1e:C6 (en (lTn ft fp)) I4 fu false Tryz.f40 [.agg [.int .i64 2,.int .i64 s]]=(ft 2 s).bind fun b=>bif !b then some (.str [])else some (.str [73,78,84]):=by kernel_rfl
theorem D92:C6 (en (lTn ft fp)) I4 fu false Tryz.f40 [.agg [.int .i64 4,.int .i64 s]]=(ft 4 s).bind fun b=>bif !b then some (.str [])else some (.str [84,69,88,84]):=by kernel_rfl
theorem E1a:C6 (en (lTn ft fp)) I4 fu false Tryz.f40 [.agg [.int .i64 5,.int .i64 s]]=(ft 5 s).bind fun b=>bif !b then some (.str [])else some (.str [66,89,84,69,83]):=by kernel_rfl
theorem E39:C6 (en (lTn ft fp)) I4 fu false Tryz.f40 [.agg [.int .i64 3,.int .i64 s]]=(ft 3 s).bind fun b=>bif !b then some (.str [])else(fp s 0).bind fun r=>Q8 [68,69,67,73,77,65,76,40] r fun y=>Q8 y [41] fun z=>some (.str z):=by kernel_rfl
end
def B9b (a b:Int):Option Bool:=some (tyB a b)
theorem E92:E0 F6 Ws (lTn B9b prD):=A0 C34 (A0 C9g A2)
theorem E6a {l:List (FuncId×D5)}(hl:E0 F6 Ws l){f:FuncId}{fn:Func}(hf:Tryz.prog.funcs[f]? =some fn){h:B4}{fuel:Nat}{w:World}{xs:List PV}{vs:List Value}(hw:Ws w)(hng:F6<=w.heap.size)(hr:K9 ⟨w,fun _=>0,⟨0,fun _ _=>none⟩⟩ xs vs){s:List UInt8}(hrun:C6 (en l) h fuel false fn xs=some (.str s)) :
  Calls Tryz.prog f vs.toArray w fun e w'=>e=.returned (.string ⟨s.toArray⟩)/\Below w.heap.size w w':=by
 refine(B7h (A2u D4 hl) rfl hf (M:=⟨w,fun _=>0,⟨0,fun _ _=>none⟩⟩) hw hng (fun g cs hg=>by cases hg) hr hrun).mono ?_
 rintro e w' ⟨v,rfl,U',hm,hv,_⟩
 simp only[B7]at hv;subst hv;exact⟨rfl,hm.os,hm.tape,hm.output,hm.size,fun b hb=>(hm.block b hb (by simp)).1⟩
theorem rM {k s:Int}(h:tyB k s=true):k=3/\zY s=true\/k=1\/k=2\/k=4\/k=5:=by
 unfold tyB at h
 by_cases h3:k=3
 ·rw[A4 (by rw[h3];rfl)]at h;exact .inl ⟨h3,h⟩
 ·rw[B1 (beq_eq_false_iff_ne.2 h3)]at h;simp only[Ae,decide_eq_true_eq]at h;omega
theorem C1z {s:Int}(h:zY s=true):(tG s 0).length<=100:=by
 have:0<=s/\s<=6:=by simpa [zY]using h
 obtain⟨n,rfl⟩:∃n:Nat,s=n:=⟨s.toNat,by omega⟩
 have hn:n<=6:=by omega
 match n,hn with
 |0,_=>decide
 |1,_=>decide
 |2,_=>decide
 |3,_=>decide
 |4,_=>decide
 |5,_=>decide
 |6,_=>decide
theorem E9h {k s:Int}(h:tyB k s=true){w:World}(hw:Ws w)(hng:F6<=w.heap.size):Calls Tryz.prog 40 #[.agg #[.int .i64 k,.int .i64 s]] w fun e w'=>e=.returned (.string ⟨(tyN k s).toArray⟩)/\Below w.heap.size w w':=by
 have hr:K9 ⟨w,fun _=>0,⟨0,fun _ _=>none⟩⟩ [.agg [.int .i64 k,.int .i64 s]] [.agg #[.int .i64 k,.int .i64 s]]:=by
  simp only[K9,B7,D7];exact⟨_,_,rfl,⟨[_,_],rfl,_,_,rfl,rfl,rfl,_,_,rfl,rfl,rfl,rfl⟩,rfl⟩
 have go:C6 (en (lTn B9b prD)) I4 0 false Tryz.f40 [.agg [.int .i64 k,.int .i64 s]]=some (.str (tyN k s)):=by
  rcases rM h with⟨rfl,h3⟩|rfl|rfl|rfl|rfl
  ·have hl:=C1z h3
   have hi:mG s=true:=by
    have:0<=s/\s<=6:=by simpa [zY]using h3
    exact aK.2 (by omega)
   rw[E39];unfold B9b prD;rw[Aa,h,hi];rw[Au,cond_false,cond_true,Aa,E5 (by simp only[Ac,Ai];omega),E5 (by simp only[Af,Ac,Ai];omega)];rfl
  ·rw[D9m];unfold B9b;rw[Aa,h];rfl
  ·rw[E1e];unfold B9b;rw[Aa,h];rfl
  ·rw[D92];unfold B9b;rw[Aa,h];rfl
  ·rw[E1a];unfold B9b;rw[Aa,h];rfl
 exact E6a E92 Tryz.func40 hw hng hr go
theorem E42 (B b:Nat)(x:XR)(sv:Value)(l:List UInt8)(w:World)(hk:x.k=1)(hb:Bl B b l w)(hl:l.length+(A01 x.tb x.nm).length<=1000000000) :
  Calls Tryz.prog 79 #[.pointer (some ⟨b,0,none⟩),.agg (T4 x sv)] w fun e w'=>e=.returned (.tuple #[])/\Bw B b w (l++A01 x.tb x.nm) w':=by
 have hbl:=hb.lt;have hge:=hb.2;obtain⟨k,a,op,vk,vn,vc,vs,tb,nm,nt,tk,ts,knl,kn,kc⟩:=x;dsimp only at hk hl ⊢;subst hk;have hA:=(Kp.refl B b w).alloc hge (.cells (T4 ⟨1,a,op,vk,vn,vc,vs,tb,nm,nt,tk,ts,knl,kn,kc⟩ sv) 31);have hL:=bH.new w ⟨1,a,op,vk,vn,vc,vs,tb,nm,nt,tk,ts,knl,kn,kc⟩ sv;have HA:=hide hA;have HL:=hide hL;clear hA hL;unfold T4;unfold T4 at HA;unfold A01 at hl ⊢;rcases tb with _|⟨c,tb⟩
 ·have e:(bif([]:List UInt8)==[]then []else []++[46])++nm=nm:=rfl;rw[e]at hl ⊢
  go_enter Tryz.func79,Tryz.ntmps79
  go_wp2_with (first
   |(go_at_call 159;refine(eP _ (hb.alloc _) ?_).mono ?_;(·first|(simp;done)|(simp;omega)|omega);rintro e w1 ⟨rfl,h1⟩))
  all_goals((try simp only[Exit.inBlock,Exit.then]);first|(refine bodyPost_ret (results_none rfl _ _ _) rfl ?_)|(refine bodyPost_end (results_none rfl _ _ _) rfl ?_))
  all_goals exact⟨rfl,by have:=h1.1;simpa [Al]using this,(unhide HA).trans h1.2⟩
 ·have e:(bif c::tb==[]then []else c::tb++[46])++nm=(c::tb++[46])++nm:=rfl;rw[e]at hl ⊢;simp only[Af,Ac,Ai]at hl
  have hne:¬((⟨(c::tb).toArray⟩:ByteArray)=⟨#[]⟩):=by intro h;injection h with h;simp at h
  go_enter Tryz.func79,Tryz.ntmps79
  go_wp2_with (first
   |(go_at_call 159;refine(eP _ h1.1 ?_).mono ?_;(·first|(simp;done)|(simp;omega)|omega);rintro e w2 ⟨rfl,h2⟩)
   |(go_at_call 159;refine(eP _ (hb.alloc _) ?_).mono ?_;(·first|(simp;done)|(simp;omega)|omega);rintro e w1 ⟨rfl,h1⟩;have L1:=(unhide HL).kept h1.2 (by omega);obtain⟨q0,q1,q2,q3,q4,q5,q6,q7,q8,q9,q10,q11,q12⟩:=bH.facts L1))
  all_goals((try simp only[Exit.inBlock,Exit.then]);first|(refine bodyPost_ret (results_none rfl _ _ _) rfl ?_)|(refine bodyPost_end (results_none rfl _ _ _) rfl ?_))
  all_goals exact⟨rfl,by have:=h2.1;simpa [Al]using this,(unhide HA).trans (h1.2.trans h2.2)⟩
def IW (w0:World)(B b:Nat)(x:XR)(sv:Value)(t:List UInt8):Prop:=∀(l:List UInt8) (w:World),Below B w0 w->Bl B b l w->l.length+t.length<=1000000000->Calls Tryz.prog 162 #[.pointer (some ⟨b,0,none⟩),.agg (T4 x sv)] w fun e w'=>e=.returned (.tuple #[])/\Bw B b w (l++t) w'
set_option maxHeartbeats 1000000 in
theorem F8z (w0:World) (B b:Nat) (x:XR) (sv:Value) (t l:List UInt8) (w:World) (hk:x.k=2) (hi:IW w0 B b x sv t) (hB:Below B w0 w) (hb:Bl B b l w) (hl:l.length+([40]++t++[41]).length<=1000000000) :
  Calls Tryz.prog 79 #[.pointer (some ⟨b,0,none⟩),.agg (T4 x sv)] w fun e w'=>e=.returned (.tuple #[])/\Bw B b w (l++([40]++t++[41])) w':=by
 have hbl:=hb.lt;have hge:=hb.2;obtain⟨k,a,op,vk,vn,vc,vs,tb,nm,nt,tk,ts,knl,kn,kc⟩:=x;dsimp only at hk hl ⊢;subst hk
 try simp only[Af,Ac,Ai]at hl
 have hA:=(Kp.refl B b w).alloc hge (.cells (T4 ⟨2,a,op,vk,vn,vc,vs,tb,nm,nt,tk,ts,knl,kn,kc⟩ sv) 31);have hL:=bH.new w ⟨2,a,op,vk,vn,vc,vs,tb,nm,nt,tk,ts,knl,kn,kc⟩ sv;have HA:=hide hA;have HL:=hide hL;have HI:=hide hi;clear hA hL hi;unfold T4;unfold T4 at HA
 go_enter Tryz.func79,Tryz.ntmps79
 go_wp2_with (first
  |(go_at_call 161;refine(vL h2.1 ?_).mono ?_;(·first|(simp;done)|(simp;omega)|omega);rintro e w3 ⟨rfl,h3⟩)
  |(go_at_call 162;refine(unhide HI _ _ ((hB.trans (unhide HA).1).trans (h1.2).1) h1.1 ?_).mono ?_;(·first|(simp;done)|(simp;omega)|omega);rintro e w2 ⟨rfl,h2⟩)
  |(go_at_call 161;refine(wL (hb.alloc _) ?_).mono ?_;(·first|(simp;done)|(simp;omega)|omega);rintro e w1 ⟨rfl,h1⟩;have L1:=(unhide HL).kept (h1.2) (by omega);obtain⟨q0,q1,q2,q3,q4,q5,q6,q7,q8,q9,q10,q11,q12⟩:=bH.facts L1))
 all_goals((try simp only[Exit.inBlock,Exit.then]);first|(refine bodyPost_ret (results_none rfl _ _ _) rfl ?_)|(refine bodyPost_end (results_none rfl _ _ _) rfl ?_))
 all_goals exact⟨rfl,by have:=h3.1;simpa [Al]using this,(unhide HA).trans (h1.2.trans (h2.2.trans h3.2))⟩
set_option maxHeartbeats 1000000 in
theorem F8r (w0:World) (B b:Nat) (x:XR) (sv:Value) (t l:List UInt8) (w:World) (hk:x.k=3) (hi:IW w0 B b x sv t) (hB:Below B w0 w) (hb:Bl B b l w) (hl:l.length+([40]++t++[41]).length<=1000000000) :
  Calls Tryz.prog 79 #[.pointer (some ⟨b,0,none⟩),.agg (T4 x sv)] w fun e w'=>e=.returned (.tuple #[])/\Bw B b w (l++([40]++t++[41])) w':=by
 have hbl:=hb.lt;have hge:=hb.2;obtain⟨k,a,op,vk,vn,vc,vs,tb,nm,nt,tk,ts,knl,kn,kc⟩:=x;dsimp only at hk hl ⊢;subst hk
 try simp only[Af,Ac,Ai]at hl
 have hA:=(Kp.refl B b w).alloc hge (.cells (T4 ⟨3,a,op,vk,vn,vc,vs,tb,nm,nt,tk,ts,knl,kn,kc⟩ sv) 31);have hL:=bH.new w ⟨3,a,op,vk,vn,vc,vs,tb,nm,nt,tk,ts,knl,kn,kc⟩ sv;have HA:=hide hA;have HL:=hide hL;have HI:=hide hi;clear hA hL hi;unfold T4;unfold T4 at HA
 go_enter Tryz.func79,Tryz.ntmps79
 go_wp2_with (first
  |(go_at_call 161;refine(vL h2.1 ?_).mono ?_;(·first|(simp;done)|(simp;omega)|omega);rintro e w3 ⟨rfl,h3⟩)
  |(go_at_call 162;refine(unhide HI _ _ ((hB.trans (unhide HA).1).trans (h1.2).1) h1.1 ?_).mono ?_;(·first|(simp;done)|(simp;omega)|omega);rintro e w2 ⟨rfl,h2⟩)
  |(go_at_call 161;refine(wL (hb.alloc _) ?_).mono ?_;(·first|(simp;done)|(simp;omega)|omega);rintro e w1 ⟨rfl,h1⟩;have L1:=(unhide HL).kept (h1.2) (by omega);obtain⟨q0,q1,q2,q3,q4,q5,q6,q7,q8,q9,q10,q11,q12⟩:=bH.facts L1))
 all_goals((try simp only[Exit.inBlock,Exit.then]);first|(refine bodyPost_ret (results_none rfl _ _ _) rfl ?_)|(refine bodyPost_end (results_none rfl _ _ _) rfl ?_))
 all_goals exact⟨rfl,by have:=h3.1;simpa [Al]using this,(unhide HA).trans (h1.2.trans (h2.2.trans h3.2))⟩
set_option maxHeartbeats 1000000 in
theorem F6a (w0:World) (B b:Nat) (x:XR) (sv:Value) (t l:List UInt8) (w:World) (hk:x.k=4) (hi:IW w0 B b x sv t) (hB:Below B w0 w) (hb:Bl B b l w) (hl:l.length+([40]++t++[41]).length<=1000000000) :
  Calls Tryz.prog 79 #[.pointer (some ⟨b,0,none⟩),.agg (T4 x sv)] w fun e w'=>e=.returned (.tuple #[])/\Bw B b w (l++([40]++t++[41])) w':=by
 have hbl:=hb.lt;have hge:=hb.2;obtain⟨k,a,op,vk,vn,vc,vs,tb,nm,nt,tk,ts,knl,kn,kc⟩:=x;dsimp only at hk hl ⊢;subst hk
 try simp only[Af,Ac,Ai]at hl
 have hA:=(Kp.refl B b w).alloc hge (.cells (T4 ⟨4,a,op,vk,vn,vc,vs,tb,nm,nt,tk,ts,knl,kn,kc⟩ sv) 31);have hL:=bH.new w ⟨4,a,op,vk,vn,vc,vs,tb,nm,nt,tk,ts,knl,kn,kc⟩ sv;have HA:=hide hA;have HL:=hide hL;have HI:=hide hi;clear hA hL hi;unfold T4;unfold T4 at HA
 go_enter Tryz.func79,Tryz.ntmps79
 go_wp2_with (first
  |(go_at_call 161;refine(vL h2.1 ?_).mono ?_;(·first|(simp;done)|(simp;omega)|omega);rintro e w3 ⟨rfl,h3⟩)
  |(go_at_call 162;refine(unhide HI _ _ ((hB.trans (unhide HA).1).trans (h1.2).1) h1.1 ?_).mono ?_;(·first|(simp;done)|(simp;omega)|omega);rintro e w2 ⟨rfl,h2⟩)
  |(go_at_call 161;refine(wL (hb.alloc _) ?_).mono ?_;(·first|(simp;done)|(simp;omega)|omega);rintro e w1 ⟨rfl,h1⟩;have L1:=(unhide HL).kept (h1.2) (by omega);obtain⟨q0,q1,q2,q3,q4,q5,q6,q7,q8,q9,q10,q11,q12⟩:=bH.facts L1))
 all_goals((try simp only[Exit.inBlock,Exit.then]);first|(refine bodyPost_ret (results_none rfl _ _ _) rfl ?_)|(refine bodyPost_end (results_none rfl _ _ _) rfl ?_))
 all_goals exact⟨rfl,by have:=h3.1;simpa [Al]using this,(unhide HA).trans (h1.2.trans (h2.2.trans h3.2))⟩
set_option maxHeartbeats 1000000 in
theorem F48 (w0:World) (B b:Nat) (x:XR) (sv:Value) (t l:List UInt8) (w:World) (hk:x.k=5) (hi:IW w0 B b x sv t) (hB:Below B w0 w) (hb:Bl B b l w) (hl:l.length+(x.op++[40]++t++[41]).length<=1000000000) :
  Calls Tryz.prog 79 #[.pointer (some ⟨b,0,none⟩),.agg (T4 x sv)] w fun e w'=>e=.returned (.tuple #[])/\Bw B b w (l++(x.op++[40]++t++[41])) w':=by
 have hbl:=hb.lt;have hge:=hb.2;obtain⟨k,a,op,vk,vn,vc,vs,tb,nm,nt,tk,ts,knl,kn,kc⟩:=x;dsimp only at hk hl ⊢;subst hk
 try simp only[Af,Ac,Ai]at hl
 have hA:=(Kp.refl B b w).alloc hge (.cells (T4 ⟨5,a,op,vk,vn,vc,vs,tb,nm,nt,tk,ts,knl,kn,kc⟩ sv) 31);have hL:=bH.new w ⟨5,a,op,vk,vn,vc,vs,tb,nm,nt,tk,ts,knl,kn,kc⟩ sv;have HA:=hide hA;have HL:=hide hL;have HI:=hide hi;clear hA hL hi;unfold T4;unfold T4 at HA
 go_enter Tryz.func79,Tryz.ntmps79
 go_wp2_with (first
  |(go_at_call 161;refine(vL h2.1 ?_).mono ?_;(·first|(simp;done)|(simp;omega)|omega);rintro e w3 ⟨rfl,h3⟩)
  |(go_at_call 162;refine(unhide HI _ _ ((hB.trans (unhide HA).1).trans (h0.2.trans h1.2).1) h1.1 ?_).mono ?_;(·first|(simp;done)|(simp;omega)|omega);rintro e w2 ⟨rfl,h2⟩)
  |(go_at_call 161;refine(wL h0.1 ?_).mono ?_;(·first|(simp;done)|(simp;omega)|omega);rintro e w1 ⟨rfl,h1⟩;have L1:=(unhide HL).kept (h0.2.trans h1.2) (by omega);obtain⟨q0,q1,q2,q3,q4,q5,q6,q7,q8,q9,q10,q11,q12⟩:=bH.facts L1)
  |(go_at_call 159;refine(eP _ (hb.alloc _) ?_).mono ?_;(·first|(simp;done)|(simp;omega)|omega);rintro e w1 ⟨rfl,h0⟩))
 all_goals((try simp only[Exit.inBlock,Exit.then]);first|(refine bodyPost_ret (results_none rfl _ _ _) rfl ?_)|(refine bodyPost_end (results_none rfl _ _ _) rfl ?_))
 all_goals exact⟨rfl,by have:=h3.1;simpa [Al]using this,(unhide HA).trans (h0.2.trans (h1.2.trans (h2.2.trans h3.2)))⟩
set_option maxHeartbeats 1000000 in
theorem F8i (w0:World) (B b:Nat) (x:XR) (sv:Value) (t l:List UInt8) (w:World) (hk:x.k=6) (hi:IW w0 B b x sv t) (hB:Below B w0 w) (hb:Bl B b l w) (hl:l.length+([67,65,83,84]++[40]++t++[41]).length<=1000000000) :
  Calls Tryz.prog 79 #[.pointer (some ⟨b,0,none⟩),.agg (T4 x sv)] w fun e w'=>e=.returned (.tuple #[])/\Bw B b w (l++([67,65,83,84]++[40]++t++[41])) w':=by
 have hbl:=hb.lt;have hge:=hb.2;obtain⟨k,a,op,vk,vn,vc,vs,tb,nm,nt,tk,ts,knl,kn,kc⟩:=x;dsimp only at hk hl ⊢;subst hk
 try simp only[Af,Ac,Ai]at hl
 have hA:=(Kp.refl B b w).alloc hge (.cells (T4 ⟨6,a,op,vk,vn,vc,vs,tb,nm,nt,tk,ts,knl,kn,kc⟩ sv) 31);have hL:=bH.new w ⟨6,a,op,vk,vn,vc,vs,tb,nm,nt,tk,ts,knl,kn,kc⟩ sv;have HA:=hide hA;have HL:=hide hL;have HI:=hide hi;clear hA hL hi;unfold T4;unfold T4 at HA
 go_enter Tryz.func79,Tryz.ntmps79
 go_wp2_with (first
  |(go_at_call 161;refine(vL h2.1 ?_).mono ?_;(·first|(simp;done)|(simp;omega)|omega);rintro e w3 ⟨rfl,h3⟩)
  |(go_at_call 162;refine(unhide HI _ _ ((hB.trans (unhide HA).1).trans (h0.2.trans h1.2).1) h1.1 ?_).mono ?_;(·first|(simp;done)|(simp;omega)|omega);rintro e w2 ⟨rfl,h2⟩)
  |(go_at_call 161;refine(wL h0.1 ?_).mono ?_;(·first|(simp;done)|(simp;omega)|omega);rintro e w1 ⟨rfl,h1⟩;have L1:=(unhide HL).kept (h0.2.trans h1.2) (by omega);obtain⟨q0,q1,q2,q3,q4,q5,q6,q7,q8,q9,q10,q11,q12⟩:=bH.facts L1)
  |(go_at_call 159;refine(eP _ (hb.alloc _) ?_).mono ?_;(·first|(simp;done)|(simp;omega)|omega);rintro e w1 ⟨rfl,h0⟩))
 all_goals((try simp only[Exit.inBlock,Exit.then]);first|(refine bodyPost_ret (results_none rfl _ _ _) rfl ?_)|(refine bodyPost_end (results_none rfl _ _ _) rfl ?_))
 all_goals exact⟨rfl,by have:=h3.1;simpa [Al]using this,(unhide HA).trans (h0.2.trans (h1.2.trans (h2.2.trans h3.2)))⟩
theorem F6s (B b:Nat)(x:XR)(A:Option Addr)(l:List UInt8)(c:Nat)(w:World)(hk:x.k=5)(hb:Bl B b l w)(hl:l.length+([42]:List UInt8).length<=1000000000) :
  Calls Tryz.prog 162 #[.pointer (some ⟨b,0,none⟩),.agg (T4 x (.slice A 0 c))] w fun e w'=>e=.returned (.tuple #[])/\Bw B b w (l++[42]) w':=by
 have hbl:=hb.lt;have hge:=hb.2;obtain⟨k,a,op,vk,vn,vc,vs,tb,nm,nt,tk,ts,knl,kn,kc⟩:=x;dsimp only at hk hl ⊢;subst hk;simp only[Ac,Ai]at hl;have hA:=(Kp.refl B b w).alloc hge (.cells (T4 ⟨5,a,op,vk,vn,vc,vs,tb,nm,nt,tk,ts,knl,kn,kc⟩ (.slice A 0 c)) 31);have HA:=hide hA;clear hA;unfold T4;unfold T4 at HA
 go_enter Tryz.func162,Tryz.ntmps162
 go_wp2_with (first
  |(go_at_call 161;refine(D94 (hb.alloc _) ?_).mono ?_;(·first|(simp;done)|(simp;omega)|omega);rintro e w1 ⟨rfl,h1⟩))
 all_goals((try simp only[Exit.inBlock,Exit.then]);first|(refine bodyPost_ret (results_none rfl _ _ _) rfl ?_)|(refine bodyPost_end (results_none rfl _ _ _) rfl ?_))
 all_goals exact⟨rfl,h1.1,(unhide HA).trans h1.2⟩
theorem pE {e:XR}(h:zV e=true):e.k=0/\kY e.vk e.vn e.vc e.vs=true\/e.k=1\/e.k=2\/e.k=3\/e.k=4\/e.k=5\/e.k=6/\tyB e.tk e.ts=true:=by
 unfold zV at h
 by_cases h0:e.k=0
 ·rw[A4 (by rw[h0];rfl)]at h;exact .inl ⟨h0,(Bc.1 h).1⟩
 rw[B1 (beq_eq_false_iff_ne.2 h0)]at h
 by_cases h1:e.k=1
 ·exact .inr (.inl h1)
 rw[B1 (beq_eq_false_iff_ne.2 h1)]at h
 by_cases h2:e.k=2
 ·exact .inr (.inr (.inl h2))
 rw[B1 (beq_eq_false_iff_ne.2 h2)]at h
 by_cases h3:e.k=3
 ·exact .inr (.inr (.inr (.inl h3)))
 rw[B1 (beq_eq_false_iff_ne.2 h3)]at h
 by_cases h4:e.k=4
 ·exact .inr (.inr (.inr (.inr (.inl h4))))
 rw[B1 (beq_eq_false_iff_ne.2 h4)]at h
 by_cases h5:e.k=5
 ·exact .inr (.inr (.inr (.inr (.inr (.inl h5)))))
 rw[B1 (beq_eq_false_iff_ne.2 h5)]at h
 by_cases h6:e.k=6
 ·rw[A4 (by rw[h6];rfl)]at h;exact .inr (.inr (.inr (.inr (.inr (.inr ⟨h6,(Bc.1 h).1⟩)))))
 rw[B1 (beq_eq_false_iff_ne.2 h6)]at h
 cases h
theorem qZ {k:Int}{op:List UInt8}{n:Nat}(h:A2m k op n=true):(k=3->n=2)/\(k=2\/k=4\/k=6->n=1)/\(k=5->n=1\/n=0)/\(k=0\/k=1->n=0):=by
 unfold A2m at h;refine⟨fun e=>?_,fun e=>?_,fun e=>?_,fun e=>?_⟩
 ·subst e
  have:(n:Int)=2:=by simpa using h
  omega
 ·have:(n:Int)=1:=by rcases e with rfl|rfl|rfl<;>simpa using h
  omega
 ·subst e
  have:(n:Int)=1\/(n:Int)=0/\op=L0:=by simpa using h
  omega
 ·have:(n:Int)=0:=by rcases e with rfl|rfl<;>simpa using h
  omega
theorem gN {α:Type}{l:List α}(h:l.length=1):∃a,l=[a]:=List.length_eq_one_iff.1 h
theorem C46 {α:Type}{l:List α}(h:l.length=2):∃a b,l=[a,b]:=by
 match l,h with
 |[a,b],_=>exact⟨a,b,rfl⟩
theorem E7m (M0:C4)(hW:Ws M0.w)(hng:F6<=M0.w.heap.size):∀(n D:Nat) (x:XR) (t:TX) (sv:Value),er D x=some t->S3 n t=true->inG n t=true->B7 M0 (.sl x.knl 13 x.kn x.kc) sv->∀b,KW M0.w M0.w.heap.size b x sv (D3 n t)
 |0,D,x,t,sv,h,hr,hi,hv,b=>by cases hr
 |n+1,0,x,t,sv,h,hr,hi,hv,b=>by cases h
 |n+1,D+1,x,t,sv,h,hr,hi,hv,b=>fun l w hB hb hl=>by
  obtain⟨xs,ts,-,hn,hc,hm,rfl,hlen⟩:=mQ h;rw[jL (hn.trans hlen.symm)]at hr;obtain⟨ho,hall⟩:=Bc.1 hr;obtain⟨ho,hkid⟩:=Bc.1 ho;obtain⟨hvn,hin⟩:=Bc.1 (show(mG x.vn&&ts.all (inG n))=true from hi);obtain⟨k3,k1,k5,k0⟩:=qZ hkid;have hWw:Ws w:=D4 _ _ (fun c hc=>hB.block c (As hc hng)) hW;have hnw:F6<=w.heap.size:=Aw hng hB.size
  have kid:∀(i:Nat) (y:XR),xs[i]? =some y->∃(ti:TX) (u:Value) (kb ko c:Nat),ts[i]? =some ti/\sv=.slice (some ⟨kb,ko,none⟩) x.kn c/\x.kn<=c/\kb<M0.w.heap.size/\Kf M0.w kb (ko+i * 13) (T4 y u)/\∀b,KW M0.w M0.w.heap.size b y u (D3 n ti):=fun i y hy=>by
   obtain⟨ti,h1,h2⟩:=J8 hm i y hy;obtain⟨u,⟨kb,ko,c,h3,h4,h5,h6⟩,h7⟩:=F09 hv hn hc hy;exact⟨ti,u,kb,ko,c,h1,h3,h4,h5,h6,E7m M0 hW hng n D y ti u h2 (Bg.1 hall ti (Bi h1)) (Bg.1 hin ti (Bi h1)) h7⟩
  rcases pE ho with⟨hk,hlit⟩|hk|hk|hk|hk|hk|⟨hk,hty⟩
  ·have e:D3 (n+1) (.mk x.k x.op x.vk x.vn x.vc x.vs x.tb x.nm x.nt x.tk x.ts ts)=vI x.vk x.vn x.vc x.vs:=by rw[hk];rfl
   rw[e]at hl ⊢;exact E3b _ b x sv _ l w hk (E3k hlit hvn) hWw hnw hb hl
  ·have e:D3 (n+1) (.mk x.k x.op x.vk x.vn x.vc x.vs x.tb x.nm x.nt x.tk x.ts ts)=A01 x.tb x.nm:=by rw[hk];rfl
   rw[e]at hl ⊢;exact E42 _ b x sv l w hk hb hl
  ·have h1:=k1 (.inl hk);obtain⟨y,rfl⟩:=gN (hn.symm.trans h1);obtain⟨t0,rfl⟩:=gN (hlen.trans (hn.symm.trans h1));obtain⟨ti,u,kb,ko,c,e1,rfl,hc1,hkb,hf,hkw⟩:=kid 0 y rfl;injection e1 with e1;subst e1;rw[h1]at hc1 ⊢
   have e:D3 (n+1) (.mk x.k x.op x.vk x.vn x.vc x.vs x.tb x.nm x.nt x.tk x.ts [t0])=[40]++(x.op++[32]++D3 n t0)++[41]:=by rw[hk];rfl
   rw[e]at hl ⊢;exact F8z M0.w _ b x _ _ l w hk (fun l w hB hb hl=>F8h M0.w _ b x y u _ l kb ko c w hk hkb hf hc1 (hkw b) hB hb hl) hB hb hl
  ·have h1:=k3 hk;obtain⟨y,y1,rfl⟩:=C46 (hn.symm.trans h1);obtain⟨t0,t1,rfl⟩:=C46 (hlen.trans (hn.symm.trans h1));obtain⟨ti,u,kb,ko,c,e1,rfl,hc1,hkb,hf,hkw⟩:=kid 0 y rfl;obtain⟨tj,u1,kb',ko',c',e2,e3,-,-,hf1,hkw1⟩:=kid 1 y1 rfl;injection e1 with e1;injection e2 with e2;subst e1 e2;injection e3 with e3 _ e4;injection e3 with e3;injection e3 with e5 e6;subst e5 e6;rw[h1]at hc1 ⊢
   have e:D3 (n+1) (.mk x.k x.op x.vk x.vn x.vc x.vs x.tb x.nm x.nt x.tk x.ts [t0,t1])=[40]++(D3 n t0++([32]++x.op++[32])++D3 n t1)++[41]:=by rw[hk];rfl
   rw[e]at hl ⊢;exact F8r M0.w _ b x _ _ l w hk (fun l w hB hb hl=>F9g M0.w _ b x y y1 u u1 _ _ l kb ko c w hk hf hf1 (hkw b) (hkw1 b) hkb (by omega) hB hb hl) hB hb hl
  ·have h1:=k1 (.inr (.inl hk));obtain⟨y,rfl⟩:=gN (hn.symm.trans h1);obtain⟨t0,rfl⟩:=gN (hlen.trans (hn.symm.trans h1));obtain⟨ti,u,kb,ko,c,e1,rfl,hc1,hkb,hf,hkw⟩:=kid 0 y rfl;injection e1 with e1;subst e1;rw[h1]at hc1 ⊢
   cases hnt:x.nt with
   |false =>
    have e:D3 (n+1) (.mk x.k x.op x.vk x.vn x.vc x.vs x.tb x.nm false x.tk x.ts [t0])=[40]++(D3 n t0++[32,73,83,32]++[78,85,76,76])++[41]:=by rw[hk];show []++[40]++(D3 n t0++[32,73,83,32]++[]++[78,85,76,76])++[41]=_;simp
    rw[hnt,e]at hl;rw[e];exact F6a M0.w _ b x _ _ l w hk (fun l w hB hb hl=>F4d M0.w _ b x y u _ l kb ko c w hk hnt hf (hkw b) hkb hc1 hB hb hl) hB hb hl
   |true =>
    have e:D3 (n+1) (.mk x.k x.op x.vk x.vn x.vc x.vs x.tb x.nm true x.tk x.ts [t0])=[40]++(D3 n t0++[32,73,83,32]++[78,79,84,32]++[78,85,76,76])++[41]:=by rw[hk];rfl
    rw[hnt,e]at hl;rw[e];exact F6a M0.w _ b x _ _ l w hk (fun l w hB hb hl=>F67 M0.w _ b x y u _ l kb ko c w hk hnt hf (hkw b) hkb hc1 hB hb hl) hB hb hl
  ·rcases k5 hk with h1|h1
   ·obtain⟨y,rfl⟩:=gN (hn.symm.trans h1);obtain⟨t0,rfl⟩:=gN (hlen.trans (hn.symm.trans h1));obtain⟨ti,u,kb,ko,c,e1,rfl,hc1,hkb,hf,hkw⟩:=kid 0 y rfl;injection e1 with e1;subst e1;rw[h1]at hc1 ⊢
    have e:D3 (n+1) (.mk x.k x.op x.vk x.vn x.vc x.vs x.tb x.nm x.nt x.tk x.ts [t0])=x.op++[40]++D3 n t0++[41]:=by rw[hk];rfl
    rw[e]at hl ⊢;have:=F48 M0.w _ b x _ (D3 n t0) l w hk (fun l w hB hb hl=>F8t M0.w _ b x y u _ l kb ko c w hk hf (hkw b) hkb hc1 hB hb hl) hB hb (by simpa [Al]using hl);simpa [Al]using this
   ·obtain rfl:=Cg.1 (hn.symm.trans h1);obtain rfl:=Cg.1 (hlen.trans (hn.symm.trans h1));simp only[B7]at hv;obtain⟨A,c,us,rfl,-⟩:=hv;rw[h1]
    have e:D3 (n+1) (.mk x.k x.op x.vk x.vn x.vc x.vs x.tb x.nm x.nt x.tk x.ts [])=x.op++[40]++[42]++[41]:=by rw[hk];rfl
    rw[e]at hl ⊢;have:=F48 M0.w _ b x (.slice A 0 c) [42] l w hk (fun l w hB hb hl=>F6s _ b x A l c w hk hb hl) hB hb (by simpa [Al]using hl);simpa [Al]using this
  ·have h1:=k1 (.inr (.inr hk));obtain⟨y,rfl⟩:=gN (hn.symm.trans h1);obtain⟨t0,rfl⟩:=gN (hlen.trans (hn.symm.trans h1));obtain⟨ti,u,kb,ko,c,e1,rfl,hc1,hkb,hf,hkw⟩:=kid 0 y rfl;injection e1 with e1;subst e1;rw[h1]at hc1 ⊢
   have e:D3 (n+1) (.mk x.k x.op x.vk x.vn x.vc x.vs x.tb x.nm x.nt x.tk x.ts [t0])=[67,65,83,84]++[40]++(D3 n t0++([32,65,83,32]++tyN x.tk x.ts))++[41]:=by rw[hk];rfl
   rw[e]at hl ⊢;have:=F8i M0.w _ b x _ (D3 n t0++([32,65,83,32]++tyN x.tk x.ts)) l w hk (fun l w hB hb hl=>F90 M0.w _ b x y u _ _ l kb ko c w hk hf (hkw b) (fun w hB=>E9h hty (D4 _ _ (fun c hc=>hB.block c (As hc hng)) hW) (Aw hng hB.size)) hkb hc1 hB hb hl) hB hb (by simpa [Al]using hl);simpa [Al]using this
def tXS (f:XR->Option (List UInt8)):D5:=⟨fun xs k=>match xs with|[xe]=>lT xe fun e=>(f e).bind fun s=>k (.str s)|_=>none,false⟩
theorem A7o (f:XR->Option (List UInt8)):(tXS f).nat:=by
 intro R xs k;simp only[tXS];split
 ·simp only[F3,Ad,Aa]
 ·rfl
def txD (x:XR):Option (List UInt8):=(er 6000 x).bind fun t=>bif S3 60 t&&(inG 60 t&&decide ((D3 60 t).length<=1000000000))then some (D3 60 t)else none
theorem D0q {M:C4}{x:XR}{sv:Value}{t:TX}(hW:Ws M.w)(hng:F6<=M.w.heap.size)(h:er 6000 x=some t)(hr:S3 60 t=true)(hi:inG 60 t=true)(hl:(D3 60 t).length<=1000000000)(hv:B7 M (.sl x.knl 13 x.kn x.kc) sv) :
  Calls Tryz.prog 35 #[.agg (T4 x sv)] M.w fun e w'=>e=.returned (.string ⟨(D3 60 t).toArray⟩)/\Below M.w.heap.size M.w w':=by
 obtain⟨w,U,y⟩:=M;have hb1:Below w.heap.size w (w.alloc (.cells (T4 x sv) 31)):=(Below.refl _ _).alloc (Ak _) _;have hm:L4 ⟨w,U,y⟩ ⟨w.alloc (.cells (T4 x sv) 31),U,y⟩ none:=L4.world hb1
 have hsz:(w.alloc (.cells (T4 x sv) 31)).heap.size=w.heap.size+1:=by simp
 have hex:=E7m ⟨w.alloc (.cells (T4 x sv) 31),U,y⟩ (D4 _ _ (fun c hc=>hb1.block c (As hc hng)) hW) (by rw[hsz];exact Nat.le_succ_of_le hng) 60 6000 x t sv h hr hi (B7.mono hm.le _ _ hv) (w.alloc (.cells (T4 x sv) 31)).heap.size []
  ((w.alloc (.cells (T4 x sv) 31)).alloc (.cells #[.pointer none,.slice none 0 0] 128)) ((Below.refl _ _).alloc (Ak _) _) ⟨Lib.IsBuilderF.of (Lib.fresh_isBuilder TB T8 _),by simp⟩ (by simpa using hl)
 rw[Cd]at hex;have hst:=fun(w':World) (h:Bl (w.alloc (.cells (T4 x sv) 31)).heap.size (w.alloc (.cells (T4 x sv) 31)).heap.size (D3 60 t) w')=>E1t h;rw[hsz]at hex hst;show Calls _ _ _ w fun e w'=>_/\Below w.heap.size w w';have HE:=hide hex;have HS:=hide hst;clear hex hst hv hm h hr hi hl hW hng;generalize D3 60 t=r at *;obtain⟨k,a,op,vk,vn,vc,vs,tb,nm,nt,tk,ts,knl,kn,kc⟩:=x;unfold T4 at HE hb1 hsz ⊢
 go_enter Tryz.func35,Tryz.ntmps35
 go_wp2_with (first
  |(go_at_call 80;refine(unhide HS _ h1.1).mono ?_;rintro e w2 ⟨rfl,h2⟩)
  |(go_at_call 79;refine(unhide HE).mono ?_;rintro e w1 ⟨rfl,h1⟩))
 all_goals go_ret
 all_goals exact⟨rfl,(hb1.alloc (by simp) _).trans ((h1.2.1.mono (by omega)).trans (h2.2.1.mono (by omega)))⟩
theorem E9d (fr:Int->Int->Int->List UInt8->Option Bool)(fu:Nat)(a n c:Int)(s:List UInt8) :
 C6 (F8 [(47,tvB fr)] [] []) I4 fu false Tryz.f166 [.agg [.int .i64 a,.int .i64 n,.int .i64 c,.str s]]=(fr a n c s).bind fun b=>bif b then some (zT ⟨a,n,c,s⟩)else some (zT ⟨0,0,0,[]⟩):=by kernel_rfl
theorem C6p:D8 F6 Ws 166 (tvv tA):=C2s D4 (A0 A9h A2) A7 (h:=I4) Tryz.func166 rfl (by decide) fun a n c s r h=>⟨0,(E9d wV 0 a n c s).trans (by
 unfold tA kI at h;obtain⟨b,hb,h⟩:=Ab.1 h;rw[hb,Aa]
 cases b with
 |true=>injection h with h;subst h;rfl
 |false=>injection h with h;subst h;rfl)⟩
theorem E1j:D8 F6 Ws 167 (tDp prD):=O3 (sC (B36 C5b)) (C13 _) rfl fun xs r h=>by
 simp only[tDp]at h;split at h
 ·rename_i n m;obtain⟨s,hs,h⟩:=Ab.1 h;unfold prD at hs;obtain⟨hi,hs⟩:=B8 hs;injection hs with hs;subst hs;simp only[vX];rw[hi];exact h
 ·cases h
def slB {R:Type}(s:List UInt8)(lo hi:Int)(k:List UInt8->Option R):Option R:=bif decide (0<=hi)&&decide (hi<=(s.length:Int))then bif decide (0<=lo)&&decide (lo<=(hi.toNat:Int))then k ((s.take hi.toNat).drop lo.toNat)else none else none
noncomputable def C9h:Func:=Tryz.f90
def B41:B4:=⟨[],[(1,⟨[(3,false),(5,false),(6,false)],[3]⟩),(3,⟨[(3,false),(7,false),(8,false)],[3]⟩)]⟩
def v4c (v:cX):List TV:=[(.int .i64 v.kind,0),(.int .i64 v.n,0),(.int .i64 v.scale,0),(.str v.s,0)]
def B4n (v:cX)(x:List UInt8)(i:Int):St:=frame 100 [(3,(.ptr 3 0,0)),(5,(.str x,0)),(6,(.int .i64 i,0))] [(3,v4c v)]
def C1n (v:cX)(x:List UInt8)(i:Int):St:=frame 100 [(3,(.ptr 3 0,0)),(7,(.str x,0)),(8,(.int .i64 i,0))] [(3,v4c v)]
section
variable (fv:Int->Int->Int->List UInt8->Option cX) (fd:Int->Int->Option (List UInt8))
noncomputable def B4q:K6:=F8 [(166,tvv fv),(167,tDp fd)] [] []
noncomputable def E63 (fu n:Nat)(st:St):Option PV:=N3 (B4q fv fd) B41 fu false C9h [1,1,0,1,0,1,1,1,1,1,1,1,0,1,0,1,0] 1 n st
noncomputable def E2c (fu n:Nat)(st:St):Option PV:=N3 (B4q fv fd) B41 fu false C9h [1,1,0,1,0,1,1,1,1,1,1,1,1,1,0,1,0,1,0] 3 n st
theorem E2u (fu:Nat)(a n c:Int)(s:List UInt8):C6 (B4q fv fd) B41 fu false C9h [.agg [.int .i64 a,.int .i64 n,.int .i64 c,.str s]]=
 (fv a n c s).bind fun v=>bif v.kind==1 then(bif v.n==1 then some (.str [84,82,85,69])else some (.str [70,65,76,83,69]))else bif v.kind==2 then(fd v.n 0).bind fun r=>some (.str r)else
  bif v.kind==3 then((fd v.n v.scale).bind fun r=>bif v.scale==0 then Q8 r [46] fun z=>some (.str z)else some (.str r))else
  bif v.kind==4 then E63 fv fd fu fu (B4n v [39] 0)else bif v.kind==5 then E2c fv fd fu fu (C1n v [88,39] 0)else some (.str [78,85,76,76]):=L9.trans (by kernel_rfl)
theorem B1q (fu:Nat)(v:cX)(x:List UInt8)(i:Int)(K:St->Option PV) :
 P1 (B4q fv fd) B41 fu false C9h [1,1,0,1,0,1,1,1,1,1,1,1,0,1,0,1,0] (B4n v x i) (fun st=>C2 (B41.loop.lookup 1) st K)=
  bif decide (i<(v.s.length:Int))then Z5 v.s i fun c=>bif(c.toNat:Int)==39 then Q8 x [39] fun y=>slB v.s i (IntKind.i64.wrap (i+1)) fun z=>Q8 y z fun y=>K (B4n v y (IntKind.i64.wrap (i+1)))
   else slB v.s i (IntKind.i64.wrap (i+1)) fun z=>Q8 x z fun y=>K (B4n v y (IntKind.i64.wrap (i+1)))
  else Q8 x [39] fun y=>some (.str y):=(mB (by kernel_rfl)).trans (by kernel_rfl)
theorem B69 (fu:Nat)(v:cX)(x:List UInt8)(i:Int)(K:St->Option PV) :
 P1 (B4q fv fd) B41 fu false C9h [1,1,0,1,0,1,1,1,1,1,1,1,1,1,0,1,0,1,0] (C1n v x i) (fun st=>C2 (B41.loop.lookup 3) st K)=
  bif decide (i<(v.s.length:Int))then Z5 v.s i fun c1=>Z5 v.s i fun c2=>slB hxD (IntKind.u8.wrap ((c1.toNat:Int).tdiv 16)) (IntKind.u8.wrap (IntKind.u8.wrap ((c2.toNat:Int).tdiv 16)+1)) fun p =>
   Z5 v.s i fun c3=>Z5 v.s i fun c4=>slB hxD ((c3.toNat:Int).tmod 16) (IntKind.u8.wrap ((c4.toNat:Int).tmod 16+1)) fun q=>Q8 p q fun r=>Q8 x r fun y=>K (C1n v y (IntKind.i64.wrap (i+1)))
  else Q8 x [39] fun y=>some (.str y):=(mB (by kernel_rfl)).trans (by kernel_rfl)
end
def D3f (f:Int->Int->Option (List UInt8)):D5:=⟨fun xs k=>match xs with|[.agg [.int .i64 a,.int .i64 b]]=>(f a b).bind fun s=>k (.str s)|_=>none,false⟩
theorem D3l (f:Int->Int->Option (List UInt8)):(D3f f).nat:=by
 intro R xs k;simp only[D3f];split
 ·simp only[Ad,Aa]
 ·rfl
def tDg (f:Int->Option (List UInt8)):D5:=⟨fun xs k=>match xs with|[.int .i64 a]=>(f a).bind fun s=>k (.str s)|_=>none,false⟩
theorem E0w (f:Int->Option (List UInt8)):(tDg f).nat:=by
 intro R xs k;simp only[tDg];split
 ·simp only[Ad,Aa]
 ·rfl
section
variable (fg:Int->Option (List UInt8)) (fu:Nat) (s:Int)
def D5y:List (FuncId×D5):=[(168,tDg fg)]
theorem D05:C6 (en (D5y fg)) I4 fu false Tryz.f91 [.agg [.int .i64 1,.int .i64 s]]=some (.str [66,79,79,76]):=by kernel_rfl
theorem D2h:C6 (en (D5y fg)) I4 fu false Tryz.f91 [.agg [.int .i64 2,.int .i64 s]]=some (.str [73,78,84]):=by kernel_rfl
theorem C9f:C6 (en (D5y fg)) I4 fu false Tryz.f91 [.agg [.int .i64 4,.int .i64 s]]=some (.str [84,69,88,84]):=by kernel_rfl
theorem D4n:C6 (en (D5y fg)) I4 fu false Tryz.f91 [.agg [.int .i64 5,.int .i64 s]]=some (.str [66,89,84,69,83]):=by kernel_rfl
theorem D1q:C6 (en (D5y fg)) I4 fu false Tryz.f91 [.agg [.int .i64 3,.int .i64 s]]=(fg s).bind fun r=>Q8 [68,69,67,73,77,65,76,40] r fun y=>Q8 y [41] fun z=>some (.str z):=by kernel_rfl
end
structure FRt where
 ft:XR->Option (List UInt8)
 fp:Int->Int->Int->List UInt8->Option (List UInt8)
 fy:Int->Int->Option (List UInt8)
noncomputable def fRt:Func:=Tryz.f46
def hRt:B4:=⟨[],[(0,⟨[(1,false),(3,true),(7,false),(8,false),(9,false)],[1]⟩)]⟩
noncomputable def E0j (F:FRt):K6:=F8 [(46,tXS F.ft),(90,tvS F.fp),(91,D3f F.fy)] [] []
def E29 (e:XR)(no:Option Bool)(lo:Nat)(co:List PV)(i:Int):St:=frame 103 [(1,(.ptr 1 0,0)),(3,(.sl no 1 lo co,108)),(7,(.sl e.knl 13 e.kn e.kc,0)),(8,(.int .i64 e.kn,0)),(9,(.int .i64 i,0))] [(1,e.cells.map fun x=>(x,0))]
noncomputable def rtL (F:FRt)(fu n:Nat)(st:St):Option PV:=N3 (E0j F) hRt fu false fRt [1,1,0,1,0] 0 n st
theorem F1t (F:FRt)(fu:Nat)(e:XR):C6 (E0j F) hRt fu false fRt [.agg e.cells]=rtL F fu fu (E29 e (some true) 0 [] 0):=L9.trans (by kernel_rfl)
def iV (F:FRt)(e:XR)(lo:Nat)(co:List PV):Option PV :=
 bif e.k==0 then(F.fp e.vk e.vn e.vc e.vs).bind fun r=>some (.str r)else
 bif e.k==1 then(bif e.tb==[]then some (.str e.nm)else Q8 e.tb [46] fun a=>Q8 a e.nm fun b=>some (.str b))else
 bif e.k==2 then(Q8 [40] e.op fun a=>Q8 a [32] fun b=>ixT lo co 0 fun x=>Q8 b x fun c=>Q8 c [41] fun d=>some (.str d))else
 bif e.k==3 then(ixT lo co 0 fun x=>Q8 [40] x fun a=>Q8 a [32] fun b=>Q8 b e.op fun c=>Q8 c [32] fun d=>ixT lo co 1 fun y=>Q8 d y fun g=>Q8 g [41] fun h=>some (.str h))else
 bif e.k==4 then(bif e.nt then ixT lo co 0 fun x=>Q8 [40] x fun a=>Q8 a [32,73,83,32,78,79,84,32,78,85,76,76,41] fun b=>some (.str b)else ixT lo co 0 fun x=>Q8 [40] x fun a=>Q8 a [32,73,83,32,78,85,76,76,41] fun b=>some (.str b))else
 bif e.k==5 then(bif(lo:Int)==0 then some (.str [67,79,85,78,84,40,42,41])else Q8 e.op [40] fun a=>ixT lo co 0 fun x=>Q8 a x fun b=>Q8 b [41] fun c=>some (.str c))else
 ixT lo co 0 fun x=>Q8 [67,65,83,84,40] x fun a=>Q8 a [32,65,83,32] fun b=>(F.fy e.tk e.ts).bind fun n=>Q8 b n fun c=>Q8 c [41] fun d=>some (.str d)
theorem C3n (F:FRt)(fu:Nat)(e:XR)(no:Option Bool)(lo:Nat)(co:List PV)(i:Int)(K:St->Option PV) :
 P1 (E0j F) hRt fu false fRt [1,1,0,1,0] (E29 e no lo co i) (fun st=>C2 (hRt.loop.lookup 0) st K)=
  bif decide (i<(e.kn:Int))then xAt e.kn e.kc i fun x=>(F.ft x).bind fun s=>oC 16 lo (K (E29 e (no.map (·&& false)) (lo+1) (co++[.str s]) (IntKind.i64.wrap (i+1))))else iV F e lo co:=(mB (by kernel_rfl)).trans (by kernel_rfl)
def A57 (f:XR->Int->Option Int):D5:=⟨fun xs k=>match xs with|[xe,.int .i64 d]=>lT xe fun e=>(f e d).bind fun n=>k (.int .i64 n)|_=>none,false⟩
theorem A39 (f:XR->Int->Option Int):(A57 f).nat:=by
 intro R xs k;simp only[A57];split
 ·simp only[F3,Ad,Aa]
 ·rfl
noncomputable def fSz:Func:=Tryz.f17
def hSz:B4:=⟨[],[(0,⟨[(1,false),(5,false),(48,false),(49,false),(50,false)],[]⟩)]⟩
noncomputable def F08 (f:XR->Int->Option Int):K6:=F8 [(17,A57 f)] [] []
def E68 (e:XR)(d n i:Int):St:=frame 64 [(1,(.int .i64 d,0)),(5,(.int .i64 n,0)),(48,(.sl e.knl 13 e.kn e.kc,0)),(49,(.int .i64 e.kn,0)),(50,(.int .i64 i,0))] []
noncomputable def szL (f:XR->Int->Option Int)(fu n:Nat)(st:St):Option PV:=N3 (F08 f) hSz fu false fSz [1,1,1,0,1,0] 0 n st
def mxI (a b:Int):Int:=if b>a then b else a
def B00 (e:XR):Bool:=decide ((3000:Int)<mxI (mxI (mxI (mxI (e.kn:Int) e.op.length) e.tb.length) e.nm.length) e.vs.length)
def sz0 (e:XR):Int:=IntKind.i64.wrap (IntKind.i64.wrap (IntKind.i64.wrap (IntKind.i64.wrap (1+(e.op.length:Int))+(e.tb.length:Int))+(e.nm.length:Int))+(e.vs.length:Int))
theorem C3l (f:XR->Int->Option Int)(fu:Nat)(e:XR)(d n i:Int)(K:St->Option PV) :
 P1 (F08 f) hSz fu false fSz [1,1,1,0,1,0] (E68 e d n i) (fun st=>C2 (hSz.loop.lookup 0) st K)=
  bif decide (i<(e.kn:Int))then xAt e.kn e.kc i fun x=>bif decide ((3000:Int)<n)then some (.int .i64 3001)else(f x (IntKind.i64.wrap (d-1))).bind fun m=>K (E68 e d (IntKind.i64.wrap (n+m)) (IntKind.i64.wrap (i+1)))else some (.int .i64 n):=(mB (by kernel_rfl)).trans (by kernel_rfl)
theorem B9z (f:XR->Int->Option Int)(fu:Nat)(e:XR)(d:Int):C6 (F08 f) hSz fu false fSz [.agg e.cells,.int .i64 d]=
 bif(bif d==0 then true else B00 e)then some (.int .i64 3001)else szL f fu fu (E68 e d (sz0 e) 0):=L9.trans (by kernel_rfl)
theorem A1a {R:Type}{s:List UInt8}{i:Nat}{c:UInt8}{k:List UInt8->Option R}(h:s[i]? =some c):slB s (i:Int) ((i+1:Nat):Int) k=k [c]:=by
 obtain⟨hi,hc⟩:=Aj.1 h;unfold slB;rw[A4 (by simp only[Ae,decide_eq_true_eq];omega),A4 (by simp only[Ae,decide_eq_true_eq];omega),At,At];congr 1
 have e:s.take (i+1)=s.take i++[c]:=by rw[Ce hi,hc]
 rw[e,List.drop_append_of_le_length (by rw[Cf];omega),Bb (by rw[Cf];omega)];rfl
theorem D5q (s:List UInt8)(c:UInt8):dbl (s++[c])=dbl s++(if c=39 then [39,39]else [c]):=by
 unfold dbl;rw[Ex,Bo,Fe,Bf]
section
variable (fv:Int->Int->Int->List UInt8->Option cX) (fd:Int->Int->Option (List UInt8)) (fu:Nat) (v:cX)
theorem B1w (hs:v.s.length<=1000):∀(k i m:Nat),i+k=v.s.length->k<m->E63 fv fd fu m (B4n v (39::dbl (v.s.take i)) (i:Int))=some (.str (qt (dbl v.s)))
 |k,i,0,_,h=>by omega
 |0,i,m+1,hi,_=>by
  have hl:=nK v.s;unfold E63;rw[B6,B1q,B1 (decide_eq_false (by omega)),Cy (by omega),E5 (by simp only[Ac,Ai];omega)];rfl
 |k+1,i,m+1,hi,hm=>by
  have hc:=Ag (l:=v.s) (i:=i) (by omega);have ih:=B1w hs k (i+1) m (by omega) (by omega);have ht:v.s.take (i+1)=v.s.take i++[v.s[i]'(by omega)]:=Ce (by omega);rw[ht]at ih;generalize v.s[i]'(by omega)=c at hc ih;have hl:=nK (v.s.take i);rw[Cf]at hl;rw[D5q]at ih;unfold E63 at ih ⊢;rw[B6,B1q,A4 (decide_eq_true (by omega)),F0 hc,show((c.toNat:Int)==39)=(c==39)from jG c 39,B2 (by omega) (by omega),show(i:Int)+1=((i+1:Nat):Int)by omega]
  by_cases h39:c=39
  ·subst h39;rw[A4 (by rfl),E5 (by simp only[Ac,Ai];omega),A1a hc,E5 (by simp only[Af,Ac,Ai];omega)];rw[if_pos rfl]at ih;simp only[Bk,Al,Cd]at ih ⊢;exact ih
  ·rw[B1 (beq_eq_false_iff_ne.2 h39),A1a hc,E5 (by simp only[Ac,Ai];omega)];rw[if_neg h39]at ih;exact ih
theorem E6r:∀n:Fin 16,hxD[n.val]? =some (hxN n.val):=by decide
theorem q16:∀n:Fin 256,IntKind.u8.wrap ((n.val:Int).tdiv 16)=((n.val/16:Nat):Int):=by decide
theorem F8w:∀n:Fin 256,IntKind.u8.wrap (((n.val/16:Nat):Int)+1)=((n.val/16+1:Nat):Int):=by decide
theorem r16:∀n:Fin 256,((n.val:Int).tmod 16)=((n.val%16:Nat):Int):=by decide
theorem F95:∀n:Fin 256,IntKind.u8.wrap (((n.val%16:Nat):Int)+1)=((n.val%16+1:Nat):Int):=by decide
theorem C4d (s:List UInt8)(c:UInt8):eQ (s++[c])=eQ s++[hxN (c.toNat/16),hxN (c.toNat%16)]:=by
 unfold eQ;rw[Ex,Bo,Fe,Bf]
theorem B4c (hs:v.s.length<=1000):∀(k i m:Nat),i+k=v.s.length->k<m->E2c fv fd fu m (C1n v (88::39::eQ (v.s.take i)) (i:Int))=some (.str (88::qt (eQ v.s)))
 |k,i,0,_,h=>by omega
 |0,i,m+1,hi,_=>by
  have hl:=jX v.s;unfold E2c;rw[B6,B69,B1 (decide_eq_false (by omega)),Cy (by omega),E5 (by simp only[Ac,Ai];omega)];rfl
 |k+1,i,m+1,hi,hm=>by
  have hc:=Ag (l:=v.s) (i:=i) (by omega);have ih:=B4c hs k (i+1) m (by omega) (by omega);have ht:v.s.take (i+1)=v.s.take i++[v.s[i]'(by omega)]:=Ce (by omega);rw[ht]at ih;generalize v.s[i]'(by omega)=c at hc ih;have hl:=jX (v.s.take i);rw[Cf]at hl;have hv:=c.toNat_lt;rw[C4d]at ih;unfold E2c at ih ⊢
  rw[B6,B69,A4 (decide_eq_true (by omega)),F0 hc,F0 hc,q16 ⟨c.toNat,hv⟩,F8w ⟨c.toNat,hv⟩,A1a (E6r ⟨c.toNat/16,by omega⟩),F0 hc,F0 hc,r16 ⟨c.toNat,hv⟩,F95 ⟨c.toNat,hv⟩,A1a (E6r ⟨c.toNat%16,by omega⟩),
   E5 (by simp only[Ac,Ai];omega),E5 (by simp only[Af,Ac,Ai];omega),B2 (by omega) (by omega),show(i:Int)+1=((i+1:Nat):Int)by omega]
  exact ih
end
def D2s (a n c:Int)(s:List UInt8):Option (List UInt8):=bif kY a n c s&&mG n then some (vI a n c s)else none
theorem E2o:D8 F6 Ws 90 (tvS D2s):=C16 D4 (A0 C6p (A0 E1j A2)) A7 (h:=B41) Tryz.func90 rfl (by decide) fun a n c s r h=>by
 unfold D2s at h;obtain⟨hb,h⟩:=B8 h;obtain⟨hl,hn⟩:=Bc.1 hb;injection h with h;subst h;refine⟨s.length+1,(E2u tA prD _ a n c s).trans ?_⟩;have hr:=hC hl;have hs:=yG hr
 have hv:tA a n c s=some ⟨a,n,c,s⟩:=by
  unfold tA kI wV;rw[A4 (decide_eq_true (by omega)),Aa,hr];rfl
 have hp:∀m,prD n m=some (tG n m):=fun m=>by
  unfold prD;rw[hn];rfl
 rw[hv,Aa];dsimp only;unfold vI
 cases h1:a==1 with
 |true=>cases n==1<;>rfl
 |false =>
  rw[cond_false,cond_false]
  cases h2:a==2 with
  |true=>rw[cond_true,cond_true,hp];rfl
  |false =>
   rw[cond_false,cond_false]
   cases h3:a==3 with
   |true =>
    have:a=3:=by simpa using h3
    subst this;have hc:=yH hl;rw[cond_true,cond_true,hp,Aa,beq_eq_false_iff_ne.2 (show c≠0 by omega),cond_false]
   |false =>
    rw[cond_false,cond_false]
    cases h4:a==4 with
    |true =>
     rw[cond_true,cond_true];exact B1w tA prD _ ⟨a,n,c,s⟩ (by show s.length<=1000;omega) s.length 0 (s.length+1) (by show 0+s.length=s.length;omega) (Dy _)
    |false =>
     rw[cond_false,cond_false]
     cases h5:a==5 with
     |true =>
      rw[cond_true,cond_true];exact B4c tA prD _ ⟨a,n,c,s⟩ (by show s.length<=1000;omega) s.length 0 (s.length+1) (by show 0+s.length=s.length;omega) (Dy _)
     |false=>rfl
def dgD (n:Int):Option (List UInt8):=bif mG n then some (dS n.natAbs)else none
theorem F26:D8 F6 Ws 168 (tDg dgD):=O3 (sC (B36 A7d)) (E0w _) rfl fun xs r h=>by
 simp only[tDg]at h;split at h
 ·rename_i n;obtain⟨s,hs,h⟩:=Ab.1 h;unfold dgD at hs;obtain⟨hi,hs⟩:=B8 hs;injection hs with hs;subst hs;simp only[pU];rw[hi];exact h
 ·cases h
def D8o (k s:Int):Option (List UInt8):=bif tyB k s then some (tyN k s)else none
theorem E8y {s:Int}(h:zY s=true):dS s.natAbs=tG s 0:=by
 have:0<=s/\s<=6:=by simpa [zY]using h
 obtain⟨n,rfl⟩:∃n:Nat,s=n:=⟨s.toNat,by omega⟩
 have hn:n<=6:=by omega
 match n,hn with
 |0,_=>decide
 |1,_=>decide
 |2,_=>decide
 |3,_=>decide
 |4,_=>decide
 |5,_=>decide
 |6,_=>decide
theorem F29:D8 F6 Ws 91 (D3f D8o):=by
 refine oI D4 (A0 F26 A2) (h:=I4) Tryz.func91 rfl (by decide) (D3l _) fun xs r h=>?_;simp only[D3f]at h;split at h
 ·rename_i k s;obtain⟨x,hx,h⟩:=Ab.1 h;injection h with h;subst h;unfold D8o at hx;obtain⟨ht,hx⟩:=B8 hx;injection hx with hx;subst hx;refine⟨0,?_⟩;rcases rM ht with⟨rfl,h3⟩|rfl|rfl|rfl|rfl
  ·have hl:=C1z h3
   have hi:mG s=true:=by
    have:0<=s/\s<=6:=by simpa [zY]using h3
    exact aK.2 (by omega)
   refine(D1q dgD 0 s).trans ?_;unfold dgD;rw[hi,cond_true,Aa,E8y h3,E5 (by simp only[Ac,Ai];omega),E5 (by simp only[Af,Ac,Ai];omega)];rfl
  ·exact D05 dgD 0 s
  ·exact D2h dgD 0 s
  ·exact C9f dgD 0 s
  ·exact D4n dgD 0 s
 ·cases h
theorem D5p {f:FuncId}{g:XR->Option (List UInt8)}(hg:∀x,g x=none):D8 F6 Ws f (tXS g) where
 nat:=A7o _
 call:=fun M xs vs r hW hng hgo hr h=>by
  exfalso;simp only[tXS]at h;split at h
  ·obtain⟨e,-,h⟩:=I5 h;rw[hg]at h
   cases h
  ·cases h
theorem C80 {f:FuncId}{g:XR->Int->Option Int}(hg:∀x d,g x d=none):D8 F6 Ws f (A57 g) where
 nat:=A39 _
 call:=fun M xs vs r hW hng hgo hr h=>by
  exfalso;simp only[A57]at h;split at h
  ·obtain⟨e,-,h⟩:=I5 h;rw[hg]at h
   cases h
  ·cases h
def rtX (n:Nat)(x:XR):Option (List UInt8):=(er (n+5940) x).bind fun t=>bif S3 n t&&(inG n t&&decide ((D3 n t).length<=1000000000))then some (D3 n t)else none
theorem C1f (F:FRt)(fu:Nat)(e:XR)(l:List XR)(h1:e.kn=l.length)(h2:e.kc=l.flatMap XR.cells)(hl:l.length<=1000000){ss:List (List UInt8)}(hm:F7 F.ft l=some ss):∀(k i m:Nat) (no:Option Bool),i+k=l.length->k<m->
  rtL F fu m (E29 e no i ((ss.take i).flatMap pB) (i:Int))=iV F e ss.length (ss.flatMap pB)
 |k,i,0,no,_,h=>by omega
 |0,i,m+1,no,hi,_=>by
  have hlen:=E6 hm;unfold rtL;rw[B6,C3n,B1 (decide_eq_false (by omega)),Cy (by omega),show i=ss.length by omega]
 |k+1,i,m+1,no,hi,hm'=>by
  have hc:=Ag (l:=l) (i:=i) (by omega);generalize l[i]=x at hc;obtain⟨s,h3,h4⟩:=J8 hm i x hc;have hlen:=E6 hm
  have ht:ss.take (i+1)=ss.take i++[s]:=by
   obtain⟨h5,h6⟩:=Aj.1 h3;rw[Ce h5,h6]
  have ih:=C1f F fu e l h1 h2 hl hm k (i+1) m (no.map (·&& false)) (by omega) (by omega);rw[ht,Ex,Bo,Fe,Bf]at ih;unfold rtL at ih ⊢;rw[B6,C3n,A4 (decide_eq_true (by omega)),h1,h2,kT hc,h4,Aa];unfold oC;rw[A4 (by simp only[Ae,decide_eq_true_eq];omega),B2 (by omega) (by omega),show(i:Int)+1=((i+1:Nat):Int)by omega];exact ih
theorem C55 {R:Type}{a:List UInt8}{l:List (List UInt8)}{K:List UInt8->Option R}:ixT (a::l).length ((a::l).flatMap pB) 0 K=K a:=B9f (l:=a::l) (i:=0) rfl
theorem F8n {R:Type}{a b:List UInt8}{l:List (List UInt8)}{K:List UInt8->Option R}:ixT (a::b::l).length ((a::b::l).flatMap pB) 1 K=K b:=B9f (l:=a::b::l) (i:=1) rfl
theorem A8r {l:List (FuncId×D5)}(hl:E0 F6 Ws l){h:B4}{f:FuncId}{fn:Func}(hf:Tryz.prog.funcs[f]? =some fn)(hb:fn.body.isSome=true)(hname:fn.name≠ "runtime.NumGoroutine"){g:XR->Option (List UInt8)}(hr:∀(e:XR) (r:List UInt8),g e=some r->∃fu,C6 (F8 l [] []) h fu false fn [.agg e.cells]=some (.str r)):D8 F6 Ws f (tXS g) :=
 bG D4 hl A7 B3 (h:=h) hf hb hname (A7o g) fun xs r h=>by
  simp only[tXS]at h;split at h
  ·obtain⟨e,he,h1⟩:=I5 h;obtain⟨u,hu,h2⟩:=Ab.1 h1;injection h2 with h2;subst he h2;exact hr e u hu
  ·cases h
def C9a (n:Nat):FRt:=⟨rtX n,D2s,D8o⟩
theorem D5l:∀n:Nat,D8 F6 Ws 46 (tXS (rtX n))
 |0=>D5p fun x=>by
  unfold rtX
  cases er (0+5940) x with
  |none=>rfl
  |some t=>rfl
 |n+1 =>
  have ih:=D5l n
  A8r (A0 ih (A0 E2o (A0 F29 A2))) (h:=hRt) Tryz.func46 rfl (by decide) fun x u hu=>by
   unfold rtX at hu;obtain⟨t,ht,hu⟩:=Ab.1 hu;obtain⟨hb,hu⟩:=B8 hu;injection hu with hu;subst hu;obtain⟨hr,hb⟩:=Bc.1 hb;obtain⟨hin,hb⟩:=Bc.1 hb
   have hl:(D3 (n+1) t).length<=1000000000:=by simpa using hb
   rw[show n+1+5940=(n+5940)+1 by omega]at ht;obtain⟨xs,ts,hsm,hn,hc,hm,rfl,hlen⟩:=mQ ht;rw[jL (hn.trans hlen.symm)]at hr;obtain⟨ho,hall⟩:=Bc.1 hr;obtain⟨ho,hkid⟩:=Bc.1 ho;obtain⟨hvn,hin⟩:=Bc.1 (show(mG x.vn&&ts.all (inG n))=true from hin);obtain⟨k3,k1,k5,k0⟩:=qZ hkid
   have hxl:xs.length<=1000000:=by
    unfold sG at hsm;simp only[Ae,decide_eq_true_eq]at hsm;omega
   have kid:∀(i:Nat) (y:XR),xs[i]? =some y->∃ti:TX,ts[i]? =some ti/\((D3 n ti).length<=1000000000->rtX n y=some (D3 n ti)):=fun i y hy=>by
    obtain⟨ti,h1,h2⟩:=J8 hm i y hy;refine⟨ti,h1,fun hle=>?_⟩;unfold rtX
    rw[h2,Aa,A4 (by
     rw[Bg.1 hall ti (Bi h1),Bg.1 hin ti (Bi h1),decide_eq_true hle]
     rfl)]
   have run:∀ss:List (List UInt8),F7 (rtX n) xs=some ss->C6 (E0j (C9a n)) hRt (xs.length+1) false fRt [.agg x.cells]=iV (C9a n) x ss.length (ss.flatMap pB):=fun ss hss =>
    (F1t (C9a n) _ x).trans (C1f (C9a n) _ x xs hn hc hxl hss xs.length 0 (xs.length+1) (some true) (by omega) (Dy _))
   refine⟨xs.length+1,?_⟩;rcases pE ho with⟨hk,hlit⟩|hk|hk|hk|hk|hk|⟨hk,hty⟩
   ·have e:D3 (n+1) (.mk x.k x.op x.vk x.vn x.vc x.vs x.tb x.nm x.nt x.tk x.ts ts)=vI x.vk x.vn x.vc x.vs:=by rw[hk];rfl
    obtain rfl:=Cg.1 (hn.symm.trans (k0 (.inl hk)));refine(run [] rfl).trans ?_;unfold iV;rw[A4 (by rw[hk];rfl),e];show(D2s _ _ _ _).bind _=_;unfold D2s;rw[hlit,hvn];rfl
   ·have e:D3 (n+1) (.mk x.k x.op x.vk x.vn x.vc x.vs x.tb x.nm x.nt x.tk x.ts ts)=A01 x.tb x.nm:=by rw[hk];rfl
    obtain rfl:=Cg.1 (hn.symm.trans (k0 (.inr hk)));refine(run [] rfl).trans ?_;unfold iV;rw[e]at hl ⊢;rw[hk];unfold A01 at hl ⊢;rw[B1 (by rfl),A4 (by rfl)]
    cases hb:x.tb==[]with
    |true=>rfl
    |false =>
     rw[hb,cond_false]at hl;rw[cond_false,cond_false,E5 (by simp only[Af,Ac,Ai]at hl ⊢;omega),E5 (by simp only[Af,Ac,Ai]at hl ⊢;omega)]
   ·have h1:=k1 (.inl hk);obtain⟨y,rfl⟩:=gN (hn.symm.trans h1);obtain⟨t0,rfl⟩:=gN (hlen.trans (hn.symm.trans h1));obtain⟨ti,e1,hkt⟩:=kid 0 y rfl;injection e1 with e1;subst e1
    have e:D3 (n+1) (.mk x.k x.op x.vk x.vn x.vc x.vs x.tb x.nm x.nt x.tk x.ts [t0])=[40]++(x.op++[32]++D3 n t0)++[41]:=by rw[hk];rfl
    rw[e]at hl ⊢;simp only[Af,Ac,Ai]at hl;refine(run [D3 n t0] (by rw[K7,hkt (by omega)];rfl)).trans ?_;unfold iV;rw[hk];rw[B1 (by rfl),B1 (by rfl),A4 (by rfl),E5 (by simp only[Ac,Ai];omega),E5 (by simp only[Af,Ac,Ai];omega),C55,E5 (by simp only[Af,Ac,Ai];omega),E5 (by simp only[Af,Ac,Ai];omega)];simp only[Al]
   ·have h1:=k3 hk;obtain⟨y,y1,rfl⟩:=C46 (hn.symm.trans h1);obtain⟨t0,t1,rfl⟩:=C46 (hlen.trans (hn.symm.trans h1));obtain⟨ti,e1,hkt⟩:=kid 0 y rfl;obtain⟨tj,e2,hkt1⟩:=kid 1 y1 rfl;injection e1 with e1;injection e2 with e2;subst e1 e2
    have e:D3 (n+1) (.mk x.k x.op x.vk x.vn x.vc x.vs x.tb x.nm x.nt x.tk x.ts [t0,t1])=[40]++(D3 n t0++([32]++x.op++[32])++D3 n t1)++[41]:=by rw[hk];rfl
    rw[e]at hl ⊢;simp only[Af,Ac,Ai]at hl;refine(run [D3 n t0,D3 n t1] (by rw[K7,hkt (by omega),K7,hkt1 (by omega)];rfl)).trans ?_;unfold iV;rw[hk]
    rw[B1 (by rfl),B1 (by rfl),B1 (by rfl),A4 (by rfl),C55,E5 (by simp only[Af,Ac,Ai];omega),E5 (by simp only[Af,Ac,Ai];omega),E5 (by simp only[Af,Ac,Ai];omega),E5 (by simp only[Af,Ac,Ai];omega),F8n,
     E5 (by simp only[Af,Ac,Ai];omega),E5 (by simp only[Af,Ac,Ai];omega)]
    simp only[Al]
   ·have h1:=k1 (.inr (.inl hk));obtain⟨y,rfl⟩:=gN (hn.symm.trans h1);obtain⟨t0,rfl⟩:=gN (hlen.trans (hn.symm.trans h1));obtain⟨ti,e1,hkt⟩:=kid 0 y rfl;injection e1 with e1;subst e1
    have e:D3 (n+1) (.mk x.k x.op x.vk x.vn x.vc x.vs x.tb x.nm x.nt x.tk x.ts [t0])=[40]++(D3 n t0++[32,73,83,32]++(bif x.nt then [78,79,84,32]else [])++[78,85,76,76])++[41]:=by rw[hk];rfl
    rw[e]at hl ⊢;simp only[Af,Ac,Ai]at hl;refine(run [D3 n t0] (by rw[K7,hkt (by omega)];rfl)).trans ?_;unfold iV;rw[hk];rw[B1 (by rfl),B1 (by rfl),B1 (by rfl),B1 (by rfl),A4 (by rfl)]
    cases hnt:x.nt with
    |true =>
     rw[hnt]at hl;simp only[cond_true,Ac,Ai]at hl;rw[cond_true,C55,E5 (by simp only[Af,Ac,Ai];omega),E5 (by simp only[Af,Ac,Ai];omega)];simp
    |false =>
     rw[hnt]at hl;simp only[cond_false,Ac,Ai]at hl;rw[cond_false,C55,E5 (by simp only[Af,Ac,Ai];omega),E5 (by simp only[Af,Ac,Ai];omega)];simp
   ·rcases k5 hk with h1|h1
    ·obtain⟨y,rfl⟩:=gN (hn.symm.trans h1);obtain⟨t0,rfl⟩:=gN (hlen.trans (hn.symm.trans h1));obtain⟨ti,e1,hkt⟩:=kid 0 y rfl;injection e1 with e1;subst e1
     have e:D3 (n+1) (.mk x.k x.op x.vk x.vn x.vc x.vs x.tb x.nm x.nt x.tk x.ts [t0])=x.op++[40]++D3 n t0++[41]:=by rw[hk];rfl
     rw[e]at hl ⊢;simp only[Af,Ac,Ai]at hl;refine(run [D3 n t0] (by rw[K7,hkt (by omega)];rfl)).trans ?_;unfold iV;rw[hk];rw[B1 (by rfl),B1 (by rfl),B1 (by rfl),B1 (by rfl),B1 (by rfl),A4 (by rfl),B1 (by rfl),E5 (by simp only[Af,Ac,Ai];omega),C55,E5 (by simp only[Af,Ac,Ai];omega),E5 (by simp only[Af,Ac,Ai];omega)]
    ·obtain rfl:=Cg.1 (hn.symm.trans h1);obtain rfl:=Cg.1 (hlen.trans (hn.symm.trans h1))
     have hop:x.op=L0:=by
      unfold A2m at hkid;rw[hk,h1]at hkid;simpa using hkid
     have e:D3 (n+1) (.mk x.k x.op x.vk x.vn x.vc x.vs x.tb x.nm x.nt x.tk x.ts [])=[67,79,85,78,84,40,42,41]:=by rw[hk,hop];rfl
     rw[e];refine(run [] rfl).trans ?_;unfold iV;rw[hk];rfl
   ·have h1:=k1 (.inr (.inr hk));obtain⟨y,rfl⟩:=gN (hn.symm.trans h1);obtain⟨t0,rfl⟩:=gN (hlen.trans (hn.symm.trans h1));obtain⟨ti,e1,hkt⟩:=kid 0 y rfl;injection e1 with e1;subst e1
    have e:D3 (n+1) (.mk x.k x.op x.vk x.vn x.vc x.vs x.tb x.nm x.nt x.tk x.ts [t0])=[67,65,83,84]++[40]++(D3 n t0++([32,65,83,32]++tyN x.tk x.ts))++[41]:=by rw[hk];rfl
    rw[e]at hl ⊢;simp only[Af,Ac,Ai]at hl;refine(run [D3 n t0] (by rw[K7,hkt (by omega)];rfl)).trans ?_;unfold iV;rw[hk]
    have hty':(C9a n).fy x.tk x.ts=some (tyN x.tk x.ts):=by show D8o _ _=_;unfold D8o;rw[hty];rfl
    rw[B1 (by rfl),B1 (by rfl),B1 (by rfl),B1 (by rfl),B1 (by rfl),B1 (by rfl),C55,E5 (by simp only[Af,Ac,Ai];omega),E5 (by simp only[Af,Ac,Ai];omega),hty',Aa,E5 (by simp only[Af,Ac,Ai];omega),E5 (by simp only[Af,Ac,Ai];omega)];simp only[Al];rfl
def szG (f:XR->Option Int):Int->List XR->Option Int
 |n,[]=>some n
 |n,x::l=>bif decide ((3000:Int)<n)then some 3001 else(f x).bind fun m=>szG f (n+m) l
def szN (e:XR):Int:=1+(e.op.length:Int)+(e.tb.length:Int)+(e.nm.length:Int)+(e.vs.length:Int)
def szS:Nat->XR->Option Int
 |0,_=>some 3001
 |d+1,e=>bif B00 e then some 3001 else(bE 13 xrG e.kn e.kc).bind fun l=>szG (szS d) (szN e) l
theorem A91 {e:XR}(h:B00 e=false):e.kn<=3000/\e.op.length<=3000/\e.tb.length<=3000/\e.nm.length<=3000/\e.vs.length<=3000:=by
 unfold B00 mxI at h;have h:=of_decide_eq_false h;split at h<;>split at h<;>split at h<;>split at h<;>omega
theorem F0t {e:XR}(h:B00 e=false):sz0 e=szN e:=by
 obtain⟨h1,h2,h3,h4,h5⟩:=A91 h;unfold sz0 szN;rw[B2 (x:=1+(e.op.length:Int)) (by omega) (by omega),B2 (x:=1+(e.op.length:Int)+(e.tb.length:Int)) (by omega) (by omega),B2 (x:=1+(e.op.length:Int)+(e.tb.length:Int)+(e.nm.length:Int)) (by omega) (by omega),B2 (by omega) (by omega)]
theorem A5o {f:XR->Option Int}{B:Int}(hf:∀x m,f x=some m->0<=m/\m<=B)(hB:3001<=B):∀(l:List XR) (n r:Int),0<=n->n<=3000+B->szG f n l=some r->0<=r/\r<=3000+B
 |[],n,r,h0,h1,h=>by
  injection h with h;omega
 |x::l,n,r,h0,h1,h=>by
  rw[szG]at h
  by_cases h3:3000<n
  ·rw[A4 (decide_eq_true h3)]at h;injection h with h;omega
  ·rw[B1 (decide_eq_false h3)]at h;obtain⟨m,hm,h⟩:=Ab.1 h;obtain⟨h4,h5⟩:=hf x m hm;exact A5o hf hB l (n+m) r (by omega) (by omega) h
theorem rJ:∀(d:Nat) (e:XR) (n:Int),szS d e=some n->0<=n/\n<=13000+3000 * (d:Int)
 |0,e,n,h=>by
  injection h with h;omega
 |d+1,e,n,h=>by
  rw[szS]at h
  cases hb:B00 e with
  |true =>
   rw[hb]at h;injection h with h;omega
  |false =>
   rw[hb,cond_false]at h;obtain⟨l,-,h⟩:=Ab.1 h;obtain⟨h1,h2,h3,h4,h5⟩:=A91 hb;have:=A5o (fun x m hx=>rJ d x m hx) (by omega) l (szN e) n (by unfold szN;omega) (by unfold szN;omega) h;omega
theorem C07 (D:Nat)(hD:D<=1000)(fu:Nat)(e:XR)(l:List XR)(h1:e.kn=l.length)(h2:e.kc=l.flatMap XR.cells)(hl:l.length<=3000):∀(k i m:Nat) (n r:Int),i+k=l.length->k<m->0<=n->n<=100000000->szG (szS D) n (l.drop i)=some r->
  szL (fun x d=>if d=(D:Int)then szS D x else none) fu m (E68 e ((D+1:Nat):Int) n (i:Int))=some (.int .i64 r)
 |k,i,0,n,r,_,h,_,_,_=>by omega
 |0,i,m+1,n,r,hi,_,_,_,h=>by
  rw[Bb (by omega),szG]at h;injection h with h;subst h;unfold szL;rw[B6,C3l,B1 (decide_eq_false (by omega))]
 |k+1,i,m+1,n,r,hi,hm,h0,hn,h=>by
  have hc:=Ag (l:=l) (i:=i) (by omega);have hd:l.drop i=l[i]'(by omega)::l.drop (i+1):=List.drop_eq_getElem_cons (by omega);generalize l[i]'(by omega)=x at hc hd;rw[hd,szG]at h;unfold szL;rw[B6,C3l,A4 (decide_eq_true (by omega)),h1,h2,kT hc]
  by_cases h3:3000<n
  ·rw[A4 (decide_eq_true h3)]at h;injection h with h;subst h;rw[A4 (decide_eq_true h3)]
  ·rw[B1 (decide_eq_false h3)]at h;obtain⟨q,hq,h⟩:=Ab.1 h;obtain⟨h4,h5⟩:=rJ D x q hq;have ih:=C07 D hD fu e l h1 h2 hl k (i+1) m (n+q) r (by omega) (by omega) (by omega) (by omega) h;unfold szL at ih;rw[B1 (decide_eq_false h3),B2 (x:=((D+1:Nat):Int)-1) (by omega) (by omega),if_pos (by omega),hq,Aa,B2 (x:=n+q) (by omega) (by omega),B2 (by omega) (by omega),show(i:Int)+1=((i+1:Nat):Int)by omega];exact ih
theorem E7n:∀D:Nat,D<=1000->D8 F6 Ws 17 (A57 fun x d=>if d=(D:Int)then szS D x else none)
 |0,_=>bG D4 (A0 (C80 (g:=fun _ _=>none) fun _ _=>rfl) A2) A7 B3 (h:=hSz) Tryz.func17 rfl (by decide) (A39 _) fun xs r h=>by
  simp only[A57]at h;split at h
  ·rename_i xe d;obtain⟨e,he,h1⟩:=I5 h;subst he;obtain⟨q,hq,h2⟩:=Ab.1 h1;injection h2 with h2;subst h2;split at hq
   ·rename_i hd;subst hd;injection hq with hq;subst hq;exact⟨0,(B9z _ 0 e 0).trans rfl⟩
   ·cases hq
  ·cases h
 |D+1,hD=>bG D4 (A0 (E7n D (by omega)) A2) A7 B3 (h:=hSz) Tryz.func17 rfl (by decide) (A39 _) fun xs r h=>by
  simp only[A57]at h;split at h
  ·rename_i xe d;obtain⟨e,he,h1⟩:=I5 h;subst he;obtain⟨q,hq,h2⟩:=Ab.1 h1;injection h2 with h2;subst h2;split at hq
   ·rename_i hd;subst hd;rw[szS]at hq
    cases hb:B00 e with
    |true =>
     rw[hb]at hq;injection hq with hq;subst hq;refine⟨0,(B9z _ 0 e _).trans ?_⟩;rw[hb,A4 (by cases((D+1:Nat):Int)==0<;>rfl)]
    |false =>
     rw[hb,cond_false]at hq;obtain⟨l,hl,hq⟩:=Ab.1 hq;obtain⟨e1,e2⟩:=T7 jS hl;obtain⟨h1,h2,h3,h4,h5⟩:=A91 hb;refine⟨l.length+1,(B9z _ _ e _).trans ?_⟩;rw[hb,B1 (by rw[beq_eq_false_iff_ne.2 (by omega)];rfl),F0t hb];exact C07 D (by omega) _ e l e1 e2 (by omega) l.length 0 (l.length+1) (szN e) q (by omega) (Dy _) (by unfold szN;omega) (by unfold szN;omega) hq
   ·cases hq
  ·cases h
def szD (e:XR)(d:Int):Option Int:=if d=((70:Nat):Int)then szS 70 e else none
theorem D3m:D8 F6 Ws 17 (A57 szD):=E7n 70 (by omega)
def lPX (fr:XR->Option Bool)(ft:XR->Option (List UInt8)):List (FuncId×D5):=[(23,tXB fr),(35,tXS ft)]
def pxO (fr:XR->Option Bool)(ft:XR->Option (List UInt8))(e:XR):Option (List UInt8):=(fr e).bind fun b=>bif !b then some []else ft e
theorem E90 (fr:XR->Option Bool)(ft:XR->Option (List UInt8))(fu:Nat)(e:XR):C6 (F8 (lPX fr ft) [] []) I4 fu false Tryz.f18 [.agg e.cells]=(fr e).bind fun b=>bif !b then some (.str [])else(ft e).bind fun s=>some (.str s):=by kernel_rfl
def lRX (fr:XR->Int->Option Bool)(ft:XR->Option (List UInt8)):List (FuncId×D5):=[(20,C6d fr),(46,tXS ft)]
theorem E9l (fr:XR->Int->Option Bool)(ft:XR->Option (List UInt8))(fu:Nat)(e:XR):C6 (F8 (lRX fr ft) [] []) I4 fu false Tryz.f19 [.agg e.cells]=(fr e 0).bind fun b=>bif !b then some (.str [])else(ft e).bind fun s=>some (.str s):=by kernel_rfl
theorem D1a {fr:XR->Option Bool}{ft:XR->Option (List UInt8)}{e:XR}{r:List UInt8}(h:pxO fr ft e=some r):((fr e).bind fun b=>bif !b then some (.str [])else(ft e).bind fun s=>some (.str s))=some (.str r:PV):=by
 unfold pxO at h;obtain⟨b,hb,h⟩:=Ab.1 h;rw[hb,Aa]
 cases b with
 |false=>injection h with h;subst h;rfl
 |true =>
  rw[Au,cond_false]at h ⊢;rw[h];rfl
theorem uO:D8 F6 Ws 35 (tXS txD) where
 nat:=A7o _
 call:=fun M xs vs r hW hng hg hr h=>by
  simp only[tXS]at h;split at h
  ·obtain⟨x,hx,h1⟩:=I5 h;subst hx;obtain⟨u,hu,h2⟩:=Ab.1 h1;injection h2 with h2;subst h2;unfold txD at hu;obtain⟨t,ht,hu⟩:=Ab.1 hu;obtain⟨hb,hu⟩:=B8 hu;injection hu with hu;subst hu;obtain⟨hr1,hb⟩:=Bc.1 hb;obtain⟨hin,hb⟩:=Bc.1 hb;obtain⟨v,rfl,hv⟩:=A23 hr;obtain⟨sv,rfl,hs⟩:=D37 hv;refine .inr ⟨enters_of Tryz.func35 (by kernel_rfl) rfl _ _,(D0q hW hng ht hr1 hin (by simpa using hb) hs).mono ?_⟩
   rintro e w' ⟨rfl,h1⟩
   exact⟨_,rfl,M.U,L4.world h1,by simp only[B7],fun h=>by cases h⟩
  ·cases h
def pxT:XR->Option (List UInt8):=pxO rgX txD
theorem D1f:D8 F6 Ws 18 (tXS pxT):=A8r (A0 xH (A0 uO A2)) (h:=I4) Tryz.func18 rfl (by decide) fun e r h=>⟨0,(E90 _ _ 0 e).trans (D1a h)⟩
def rxT:XR->Option (List UInt8):=pxO (fun e=>uF 6000 e 0) (rtX 60)
theorem F0r:D8 F6 Ws 19 (tXS rxT):=A8r (A0 B75 (A0 (D5l 60) A2)) (h:=I4) Tryz.func19 rfl (by decide) fun e r h=>⟨0,(E9l _ _ 0 e).trans (D1a h)⟩
def bd (t:TR):TR:=⟨t.k,0,t.t,t.vk,t.vn,t.vc,t.vs⟩
def Lx (P:UInt8->Prop)(s:List UInt8)(ts:List TR):Prop:=∀(i:Nat) (rest:List UInt8),(∀c,rest.head? =some c->P c)->∃A:List TR,A.map bd=ts/\rR i (s++rest)=C8n A (rR (i+s.length) rest)
theorem D5u (A B:List TR)(o:Nat ⊕ List TR):C8n A (C8n B o)=C8n (A++B) o:=by
 cases o with
 |inl a=>rfl
 |inr l=>simp only[C8n,Al]
theorem Lx.app {P Q:UInt8->Prop}{s s':List UInt8}{ts ts':List TR}(h:Lx P s ts)(h':Lx Q s' ts')(hs:∀c,s'.head? =some c->P c)(hn:s'≠[]):Lx Q (s++s') (ts++ts'):=fun i rest hr=>by
 obtain⟨B,hB,eB⟩:=h' (i+s.length) rest hr
 obtain⟨A,hA,eA⟩:=h i (s'++rest) (fun c hc=>hs c (by
  cases s' with
  |nil=>exact absurd rfl hn
  |cons a s'=>exact hc))
 refine⟨A++B,by rw[Dv,hA,hB],?_⟩;rw[Al,eA,eB,D5u,Af,Nat.add_assoc]
theorem Lx.weak {P Q:UInt8->Prop}{s:List UInt8}{ts:List TR}(h:Lx P s ts)(hq:∀c,Q c->P c):Lx Q s ts:=fun i rest hr=>h i rest fun c hc=>hq c (hr c hc)
theorem Lx.sp:Lx (fun _=>True) [32] []:=fun i rest _=>⟨[],rfl,by
 show rR i (32::rest)=C8n [] (rR (i+1) rest);rw[E08 (.inl rfl)]
 cases rR (i+1) rest<;>rfl⟩
theorem Lx.tok {P:UInt8->Prop}{c:UInt8}{s:List UInt8}{t:TR}(hb:¬zK c)(ha:bd t=t)(h:∀rest,(∀d,rest.head? =some d->P d)->fU (c::s++rest)=some (t,(c::s).length)):Lx P (c::s) [t]:=fun i rest hr=>by
 refine⟨[E8d i (t,(c::s).length)],?_,?_⟩
 ·show [bd (E8d i (t,(c::s).length))]=[t];rw[<-ha];rfl
 ·have h1:=h rest hr;rw[Bk]at h1 ⊢;rw[D2g hb h1];show F4r _ (rR (i+(c::s).length) ((c::s++rest).drop (c::s).length))=_;rw[List.drop_left]
  cases rR (i+(c::s).length) rest<;>rfl
def S8 (w:List UInt8):TR:=⟨3,0,w,0,0,0,[]⟩
def Z7 (w:List UInt8):TR:=⟨1,0,w,0,0,0,[]⟩
def nmT (w:List UInt8):TR:=⟨0,0,w,0,0,0,[]⟩
theorem C6y {c:UInt8}{t:List UInt8}(h1:c≠39)(h2:c≠88)(h3:J2 c=false)(h4:P3 c=false)(h5:Y4 c=false):fU (c::t)=jU (c::t):=by
 rw[fU,if_neg h1,if_neg (fun h=>h2 h.1),if_neg (by rw[h3];decide),if_neg (by rw[h4];decide),if_neg (by rw[h5];simp)]
theorem Lx.sign1 {c:UInt8}(h:c∈[40,41,42,43,45,46,47,37]):Lx (fun _=>True) [c] [S8 [c]]:=by
 have:(¬zK c)/\c≠39/\c≠88/\J2 c=false/\P3 c=false/\Y4 c=false/\sgC c=true/\∀d,D1 sg2 [c,d]=false:=by
  simp only[Be,Cz,or_false]at h;rcases h with rfl|rfl|rfl|rfl|rfl|rfl|rfl|rfl<;>exact⟨by decide,by decide,by decide,by decide,by decide,by decide,by decide,fun d=>by simp[D1,sg2]⟩
 obtain⟨h0,h1,h2,h3,h4,h5,h6,h7⟩:=this;refine Lx.tok h0 rfl fun rest _=>?_;rw[Bk,Cd,C6y h1 h2 h3 h4 h5]
 cases rest with
 |nil=>show(bif sgC c then _ else _)=_;rw[h6];rfl
 |cons d t=>show(bif D1 sg2 [c,d]then _ else bif sgC c then _ else _)=_;rw[h7,h6];rfl
theorem Lx.cmp {w:List UInt8}(h:w∈bN):Lx (fun c=>c=32) w [S8 w]:=by
 simp only[bN,Be,Cz,or_false]at h
 have fin:∀(c:UInt8) (s:List UInt8),¬zK c->(∀rest,fU (c::s++32::rest)=some (S8 (c::s),(c::s).length))->fU (c::s)=some (S8 (c::s),(c::s).length)->Lx (fun c=>c=32) (c::s) [S8 (c::s)]:=fun c s hb h1 h2=>Lx.tok hb rfl fun rest hr=>by
  cases rest with
  |nil=>rw[Bf];exact h2
  |cons d rest =>
   have:=hr d rfl;subst this;exact h1 rest
 rcases h with rfl|rfl|rfl|rfl|rfl|rfl<;>exact fin _ _ (by decide) (fun rest=>rfl) rfl
theorem yJ {p:UInt8->Bool}:∀(w rest:List UInt8),(∀c∈w,p c=true)->(∀c,rest.head? =some c->p c=false)->(w++rest).takeWhile p=w
 |[],[],_,_=>rfl
 |[],c::rest,_,h=>by rw[Cd,Da,if_neg (by rw[h c rfl];decide)]
 |c::w,rest,hw,h=>by rw[Bk,Da,if_pos (hw c (An ..)),yJ w rest (fun d hd=>hw d (Ap _ hd)) h]
theorem Lx.key {c:UInt8}{w:List UInt8}(hw:∀d∈c::w,P3 d=true)(h88:c≠88)(hk:D1 R7 (c::w)=true):Lx (fun d=>P3 d=false) (c::w) [Z7 (c::w)]:=by
 have hg:=hw c (An ..)
 have hc:65<=c.toNat/\c.toNat<=90:=by
  unfold P3 at hg;simp only[Ae,decide_eq_true_eq]at hg;omega
 have hb:¬zK c:=by rintro(rfl|rfl)<;>simp at hc
 have h39:c≠39:=by rintro rfl;simp at hc
 have hd:J2 c=false:=by
  unfold J2;rw[decide_eq_false (show ¬((c.toNat:Int)<=57)by omega),Ch]
 refine Lx.tok hb rfl fun rest hr=>?_;rw[Bk,fU,if_neg h39,if_neg (fun h=>h88 h.1),if_neg (by rw[hd];decide),if_pos hg,<-Bk,yJ (c::w) rest hw hr,hk];rfl
theorem B44:∀(w:List UInt8) (i:Nat),nmL i w=true->∀c∈w,Y4 c=true
 |[],_,_,c,h=>by cases h
 |d::w,i,h,c,hc=>by
  rw[nmL,Ae]at h;rcases Be.1 hc with rfl|hc
  ·have h1:=h.1;unfold nmC at h1;simp only[Cc,Ae,decide_eq_true_eq,bne_iff_ne,beq_iff_eq]at h1;unfold Y4;rcases h1 with⟨h1,h2⟩|⟨-,h1|h1⟩
   ·rw[decide_eq_true (show(97:Int)<=(c.toNat:Int)by omega),decide_eq_true (show(c.toNat:Int)<=122 by omega)];rfl
   ·cases(!(decide (97<=(c.toNat:Int))&&decide ((c.toNat:Int)<=122)))with
    |false=>rfl
    |true=>rw[cond_true,Cc];right;simp;omega
   ·cases(!(decide (97<=(c.toNat:Int))&&decide ((c.toNat:Int)<=122)))with
    |false=>rfl
    |true=>rw[cond_true,Cc];left;unfold J2;simp only[Ae,decide_eq_true_eq];omega
  ·exact B44 w (i+1) h.2 c hc
theorem Lx.name {w:List UInt8}(h:M9 w=true):Lx (fun d=>Y4 d=false) w [nmT w]:=by
 unfold M9 at h;obtain⟨h1,h2⟩:=Bc.1 h;simp only[Ae,decide_eq_true_eq]at h2;have hs:=B44 w 0 h1;rcases w with _|⟨c,w⟩
 ·simp at h2
 have hc:97<=c.toNat/\c.toNat<=122:=by
  rw[nmL,Ae]at h1;have h1:=h1.1;unfold nmC at h1;simp only[Cc,Ae,decide_eq_true_eq,bne_iff_ne,beq_iff_eq,ne_eq,not_true_eq_false,false_and,or_false]at h1;exact h1
 have hb:¬zK c:=by rintro(rfl|rfl)<;>simp at hc
 have h39:c≠39:=by rintro rfl;simp at hc
 have h88:c≠88:=by rintro rfl;simp at hc
 have h95:c≠95:=by rintro rfl;simp at hc
 have hd:J2 c=false:=by
  unfold J2;rw[decide_eq_false (show ¬((c.toNat:Int)<=57)by omega),Ch]
 have hg:P3 c=false:=by
  unfold P3;rw[decide_eq_false (show ¬((c.toNat:Int)<=90)by omega),Ch]
 refine Lx.tok hb rfl fun rest hr=>?_;rw[Bk,fU,if_neg h39,if_neg (fun h=>h88 h.1),if_neg (by rw[hd];decide),if_neg (by rw[hg];decide),if_pos ⟨hs c (An ..),h95⟩,<-Bk,yJ (c::w) rest hs hr,decide_eq_true h2.2];rfl
theorem F0a (c:UInt8):J2 c=gW c:=by
 unfold J2 gW;congr 1
 ·exact decide_eq_decide.2 (by omega)
 ·exact decide_eq_decide.2 (by omega)
theorem D14 {n sc:Int}(h0:0<=n)(hn:mG n=true)(hs:dZ sc=true):∃D F:List UInt8,D≠[]/\(∀c∈D,J2 c=true)/\(∀c∈F,J2 c=true)/\((sc.toNat=0/\tG n sc=D)\/(F≠[]/\tG n sc=D++46::F)):=by
 rw[aK]at hn;have hs':=iS.1 hs;have hd:=mF (N:=n.natAbs) (by omega);have hp:=(yC (k:=sc.toNat) hd.1).1;have hpl:=A9j (dS n.natAbs) sc.toNat;have hl:0<(dS n.natAbs).length:=Dt.2 hd.2.1;have hm:decide (n<0)=false:=decide_eq_false (by omega);unfold tG xA;rw[hs,cond_true,hm,cond_false,Cd];generalize nF (dS n.natAbs) sc.toNat=p at *
 have hall:∀c∈p,J2 c=true:=fun c hc=>by rw[F0a];exact Bg.1 hp c hc
 unfold A3y
 by_cases hk:0<sc.toNat
 ·refine⟨p.take (p.length-sc.toNat),p.drop (p.length-sc.toNat),?_,fun c hc=>hall c (List.mem_of_mem_take hc),fun c hc=>hall c (List.mem_of_mem_drop hc),.inr ⟨?_,?_⟩⟩
  ·intro e;have:=congrArg Bn e;rw[Cf]at this;simp at this;omega
  ·intro e;have:=congrArg Bn e;rw[Ax]at this;simp at this;omega
  ·rw[decide_eq_true hk,cond_true,Al];rfl
 ·refine⟨p,[],?_,hall,fun c hc=>(by cases hc),.inl ⟨by omega,by rw[decide_eq_false hk];rfl⟩⟩;intro e
  have h9:p.length=0:=by rw[e];rfl
  omega
def eJ (c:UInt8):Prop:=c=32\/c=41
theorem B2n {D rest:List UInt8}(hD:∀c∈D,J2 c=true)(hr:∀c,rest.head? =some c->eJ c):H9 (D++rest)=D:=by
 have h1:(D++rest).takeWhile J2=D:=yJ D rest hD fun c hc=>by rcases hr c hc with rfl|rfl<;>rfl
 unfold H9;rw[h1,List.drop_left]
 match rest,hr with
 |[],_=>rfl
 |[v],_=>rfl
 |v::w::t,hr =>
  show(bif v==46&&J2 w then _ else _)=_;rcases hr v rfl with rfl|rfl<;>rfl
theorem B2i {D F rest:List UInt8}(hD:∀c∈D,J2 c=true)(hF:∀c∈F,J2 c=true)(hn:F≠[])(hr:∀c,rest.head? =some c->eJ c):H9 (D++46::F++rest)=D++46::F:=by
 have h1:(D++(46::F++rest)).takeWhile J2=D:=yJ D _ hD fun c hc=>by
  have:(46:UInt8)=c:=by simpa using hc
  subst this;rfl
 rw[Al];unfold H9;rw[h1,List.drop_left]
 cases F with
 |nil=>exact absurd rfl hn
 |cons f F =>
  have hf:=hF f (An ..)
  have h2:(f::F++rest).takeWhile J2=f::F:=yJ (f::F) rest hF fun c hc=>by rcases hr c hc with rfl|rfl<;>rfl
  show(bif(46:UInt8)==46&&J2 f then D++46::(f::F++rest).takeWhile J2 else D)=_;rw[hf,h2];rfl
theorem Lx.num {n sc:Int}(h0:0<=n)(hn:mG n=true)(hs:dZ sc=true):Lx eJ (tG n sc) [jI (n,sc.toNat)]:=by
 have hp:=C54 hn hs;obtain⟨D,F,hD0,hD,hF,hc⟩:=D14 h0 hn hs
 have ht:∀rest,(∀c,rest.head? =some c->eJ c)->H9 (tG n sc++rest)=tG n sc:=fun rest hr=>by
  rcases hc with⟨-,e⟩|⟨hF0,e⟩
  ·rw[e];exact B2n hD hr
  ·rw[e];exact B2i hD hF hF0 hr
 obtain⟨c,s,e,hg⟩:∃c s,tG n sc=c::s/\J2 c=true:=by
  cases D with
  |nil=>exact absurd rfl hD0
  |cons d D =>
   rcases hc with⟨-,e⟩|⟨-,e⟩
   ·exact⟨d,D,e,hD d (An ..)⟩
   ·exact⟨d,D++46::F,e,hD d (An ..)⟩
 rw[e]at ht hp ⊢
 have hb:¬zK c:=by rintro(rfl|rfl)<;>cases hg
 have h39:c≠39:=by rintro rfl;cases hg
 have h88:c≠88:=by rintro rfl;cases hg
 refine Lx.tok hb (by unfold jI;cases decide (0<(n,sc.toNat).2)<;>rfl) fun rest hr=>?_;have ht':=ht rest hr;rw[Bk]at ht' ⊢;rw[fU,if_neg h39,if_neg (fun h=>h88 h.1),if_pos hg,ht',hp];rfl
theorem Lx.text {s:List UInt8}(h:G9 4 0 0 s=true):Lx eJ (qt (dbl s)) [A3q ⟨4,0,0,s⟩]:=by
 refine Lx.tok (by decide) rfl fun rest hr=>?_
 have hq:=B16 (B0t s) (x:=rest) (by
  intro e
  rcases hr 39 e with e|e<;>exact absurd e (by decide))
 have e:(39::(dbl s++[39]))++rest=39::(dbl s++39::rest):=by simp
 rw[e,fU,if_pos rfl,hq,Aa];unfold A06;rw[h];simp
theorem A98:∀n:Fin 16,bW (hxN n.val)=(n.val:Int)/\hxN n.val≠39:=by decide
theorem B5v:∀s:List UInt8,eN (eQ s)=some s
 |[]=>rfl
 |c::s=>by
  have hc:=c.toNat_lt;have h1:=(A98 ⟨c.toNat/16,by omega⟩).1;have h2:=(A98 ⟨c.toNat%16,by omega⟩).1;simp only at h1 h2;show eN (hxN (c.toNat/16)::hxN (c.toNat%16)::eQ s)=_;rw[eN,h1,h2,decide_eq_false (by omega),decide_eq_false (by omega),B5v s];show some (UInt8.ofNat (16 * ((c.toNat/16:Nat):Int).toNat+((c.toNat%16:Nat):Int).toNat)::s)=some (c::s);rw[At,At,Nat.div_add_mod];simp
theorem B24:∀u:List UInt8,(∀c∈u,c≠39)->Dbl u u
 |[],_=>.nil
 |c::u,h=>.c (h c (An ..)) (B24 u fun d hd=>h d (Ap _ hd))
theorem F0b (s:List UInt8):∀c∈eQ s,c≠39:=fun c hc=>by
 unfold eQ at hc;rw[List.mem_flatMap]at hc;obtain⟨v,-,hv⟩:=hc;have hlt:=v.toNat_lt;simp only[Be,Cz,or_false]at hv;rcases hv with rfl|rfl
 ·exact(A98 ⟨v.toNat/16,by omega⟩).2
 ·exact(A98 ⟨v.toNat%16,by omega⟩).2
theorem Lx.bytes {s:List UInt8}(h:G9 5 0 0 s=true):Lx eJ (88::qt (eQ s)) [A3q ⟨5,0,0,s⟩]:=by
 refine Lx.tok (by decide) rfl fun rest hr=>?_
 have hq:=B16 (B24 _ (F0b s)) (x:=rest) (by
  intro e
  rcases hr 39 e with e|e<;>exact absurd e (by decide))
 have e:(88::qt (eQ s))++rest=88::39::(eQ s++39::rest):=by simp[qt]
 rw[e,fU,if_neg (by decide),if_pos ⟨rfl,rfl⟩,List.tail_cons,hq,Aa];unfold zW;rw[B5v];dsimp only;rw[h];simp[qt]
def A9d (a n c:Int)(s:List UInt8):TR:=bif a==1 then(bif n==1 then Z7 sA else Z7 kW)else bif a==2||a==3 then jI (n,c.toNat)else bif a==4 then A3q ⟨4,0,0,s⟩else bif a==5 then A3q ⟨5,0,0,s⟩else Z7 O7
theorem D8g {a n c:Int}{s:List UInt8}(h:kY a n c s=true)(ha:a=2\/a=3):0<=n:=by
 have hr:=hC h;unfold kY at h;rw[hr,cond_true]at h
 by_cases hn:0<=n
 ·exact hn
 ·have e:(bif !(bif a==2 then true else a==3)then true else decide (0<=n))=false:=by
   rw[decide_eq_false hn];rcases ha with rfl|rfl<;>rfl
  rw[e,cond_false]at h
  cases h
theorem Lx.lit {a n c:Int}{s:List UInt8}(h:kY a n c s=true)(hn:mG n=true):Lx eJ (vI a n c s) [A9d a n c s]:=by
 have hr:=hC h
 have hg:∀d,eJ d->P3 d=false:=fun d hd=>by rcases hd with rfl|rfl<;>rfl
 have key:∀(d:UInt8) (w:List UInt8),(∀x∈d::w,P3 x=true)->d≠88->D1 R7 (d::w)=true->Lx eJ (d::w) [Z7 (d::w)]:=fun d w h1 h2 h3=>(Lx.key h1 h2 h3).weak hg
 by_cases h1:a=1
 ·subst h1;show Lx eJ (bif n==1 then [84,82,85,69]else [70,65,76,83,69]) [bif n==1 then Z7 sA else Z7 kW]
  cases n==1 with
  |true=>exact key _ _ (by decide) (by decide) (by decide)
  |false=>exact key _ _ (by decide) (by decide) (by decide)
 by_cases h2:a=2
 ·subst h2
  have hc:c=0:=by
   have:c=0/\s=[]:=by simpa [G9]using hr
   exact this.1
  subst hc;show Lx eJ (tG n 0) [jI (n,(0:Int).toNat)];exact Lx.num (D8g h (.inl rfl)) hn (by decide)
 by_cases h3:a=3
 ·subst h3
  have hc:zY c=true:=by
   have:s=[]/\zY c=true:=by simpa [G9]using hr
   exact this.2
  show Lx eJ (tG n c) [jI (n,c.toNat)];exact Lx.num (D8g h (.inr rfl)) hn hc
 by_cases h4:a=4
 ·subst h4
  have:n=0/\c=0:=by
   have:n=0/\c=0/\s.length<=200/\Lib.validD s=true:=by simpa [G9]using hr
   exact⟨this.1,this.2.1⟩
  obtain⟨rfl,rfl⟩:=this;exact Lx.text hr
 by_cases h5:a=5
 ·subst h5
  have:n=0/\c=0:=by
   have:n=0/\c=0/\s.length<=200:=by simpa [G9]using hr
   exact⟨this.1,this.2.1⟩
  obtain⟨rfl,rfl⟩:=this;exact Lx.bytes hr
 have e1:vI a n c s=[78,85,76,76]:=by
  unfold vI;rw[beq_eq_false_iff_ne.2 h1,beq_eq_false_iff_ne.2 h2,beq_eq_false_iff_ne.2 h3,beq_eq_false_iff_ne.2 h4,beq_eq_false_iff_ne.2 h5];rfl
 have e2:A9d a n c s=Z7 O7:=by
  unfold A9d;rw[beq_eq_false_iff_ne.2 h1,beq_eq_false_iff_ne.2 h2,beq_eq_false_iff_ne.2 h3,beq_eq_false_iff_ne.2 h4,beq_eq_false_iff_ne.2 h5];rfl
 rw[e1,e2];exact key _ _ (by decide) (by decide) (by decide)
end Go.Proofs.YtkpfigikffphdaaGreatDoor
end
