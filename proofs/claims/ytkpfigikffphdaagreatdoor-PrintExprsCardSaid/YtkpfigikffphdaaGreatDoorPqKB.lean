/-
  Lemmas, part K2: what the claim needs of the texts of wip/tpl.
-/
import Derived.Lib.SmallJoins
import Derived.Lib.SplitLaws
import Derived.Test.YtkpfigikffphdaaGreatDoorPqKA
set_option linter.unusedVariables false
set_option linter.unusedSimpArgs false
open Bool renaming and_eq_true→Ae,not_false→Ar,not_true→Au,true_and→Ba,false_eq_true→Bp,or_eq_true→Cc,and_false→Ch,or_false→Co,false_and→Cs,false_or→Cv,eq_iff_iff→Df,or_eq_false_iff→Ef,and_true→Eo,or_true→Fq
open Eq renaming trans→Cw
open Int renaming toNat_natCast→At
open List renaming length_cons→Ac,length_append→Af,getElem?_eq_getElem→Ag,length_nil→Ai,getElem?_eq_some_iff→Aj,append_assoc→Al,mem_cons_self→An,mem_cons_of_mem→Ap,drop_eq_getElem_cons→Av,length_drop→Ax,drop_of_length_le→Bb,mem_cons→Be,append_nil→Bf,all_eq_true→Bg,getElem?_append_right→Bj,cons_append→Bk,length→Bn,flatMap_cons→Bo,drop_zero→Bt,getElem?_cons_succ→Bz,nil_append→Cd,take_succ_eq_append_getElem→Ce,length_take→Cf,all_cons→Ci,any_cons→Cj,take_of_length_le→Cy,takeWhile_cons→Da,drop_succ_cons→Db,size_toArray→Dd,head?_drop→Dl,take_length→Do,exists_cons_of_ne_nil→Dq,drop_drop→Dr,length_pos_iff→Dt,map_append→Dv,head?_cons→Eb,take_succ_cons→Ek,flatMap_append→Ex,mem_singleton→Ey,all_append→Fi,dropWhile_cons→Fm
open Nat renaming le_refl→Ak,lt_of_lt_of_le→As,le_trans→Aw,zero_le→Bh,zero_add→Bm,div_lt_iff_lt_mul→En
open Option renaming bind_some→Aa,bind_eq_some_iff→Ab,bind_assoc→Ad,map_eq_some_iff→Am,map_some→Aq
open Option.some renaming injEq→Ah
open UInt8 renaming ofNat→Bq,toNat_inj→Du,ofNat_toNat→Fa,toNat_ofNat_of_lt'→Fj
section
namespace Go.Proofs.YtkpfigikffphdaaGreatDoor
open Go.RowKit
def D3q (w:World)(name:String):Prop:=∃tp p,w.var? Tryz.prog name=some #[.iface tp p]
def We (w:World):Prop:=Wd w/\D3q w "strconv.ErrSyntax" /\D3q w "strconv.ErrRange"
theorem A85:Tryz.prog.globalNamed "strconv.ErrSyntax" =some 8:=by kernel_rfl
theorem B93:Tryz.prog.globalNamed "strconv.ErrRange" =some 9:=by kernel_rfl
def NGe:Nat:=max sN (max (8+1) (9+1))
theorem D6s:sN<=NGe:=by unfold NGe;omega
theorem B2o {w:World}{name:String}{g:Nat}(hg:Tryz.prog.globalNamed name=some g)(h:D3q w name):g+1<=w.heap.size:=by
 obtain⟨tp,p,h⟩:=h;unfold World.var? at h;rw[hg]at h;simp only[Aa]at h;rcases e:w.heap[g]? with _|o
 ·rw[e]at h;cases h
 ·exact(Array.getElem?_eq_some_iff.1 e).1
theorem E46 {w:World}(h:We w):NGe<=w.heap.size:=by
 have h1:=D9l h.1;have h2:=B2o A85 h.2.1;have h3:=B2o B93 h.2.2;unfold NGe;omega
theorem F7b:Y0 NGe We:=by
 intro w w' h hW;refine⟨lE w w' (fun b hb=>h b (As hb D6s)) hW.1,?_,?_⟩
 ·obtain⟨tp,p,hv⟩:=hW.2.1;refine⟨tp,p,?_⟩;rw[<-hv];unfold World.var?;rw[A85];simp only[Aa];rw[h _ (of_decide_eq_true (by kernel_rfl))]
 ·obtain⟨tp,p,hv⟩:=hW.2.2;refine⟨tp,p,?_⟩;rw[<-hv];unfold World.var?;rw[B93];simp only[Aa];rw[h _ (of_decide_eq_true (by kernel_rfl))]
theorem A3g {W V:World->Prop}(h:∀w,V w->W w){f:FuncId}{p:D5}(hp:D8 sN W f p):D8 NGe V f p where
 nat:=hp.nat
 call:=fun M xs vs r hW hng=>hp.call M xs vs r (h _ hW) (Aw D6s hng)
theorem F1l:∀w,We w->Wd w:=fun w h=>h.1
def Z5 {R:Type}(s:List UInt8)(i:Int)(K:UInt8->Option R):Option R:=bif decide (0<=i)&&decide (i<(s.length:Int))then s[i.toNat]?.bind K else none
theorem F0 {R:Type}{s:List UInt8}{i:Nat}{c:UInt8}{K:UInt8->Option R}(h:s[i]? =some c):Z5 s (i:Int) K=K c:=by
 have:=(Aj.1 h).1;unfold Z5;rw[A4 (by rw[decide_eq_true (by omega),decide_eq_true (by omega)];rfl),At,h];rfl
def gW (c:UInt8):Bool:=decide (48<=c.toNat)&&decide (c.toNat<=57)
def iD (s:List UInt8):Bool:=s.all gW&&!(s==[])
def C91:B4:=⟨[],[(0,⟨[(0,false),(5,false),(6,false)],[]⟩)]⟩
def C2t (s:List UInt8)(n i:Int):St:=frame 22 [(0,(.str s,0)),(5,(.int .i64 n,0)),(6,(.int .i64 i,0))] []
noncomputable def vY (fu n:Nat)(st:St):Option PV:=N3 (en []) C91 fu false Tryz.f249 [1,0,1,0] 0 n st
theorem E19 (fu:Nat)(s:List UInt8):C6 (en []) C91 fu false Tryz.f249 [.str s]=vY fu fu (C2t s (s.length:Int) 0):=by kernel_rfl
theorem B4a (fu:Nat)(s:List UInt8)(n i:Int)(K:St->Option PV) :
 P1 (en []) C91 fu false Tryz.f249 [1,0,1,0] (C2t s n i) (fun st=>C2 (C91.loop.lookup 0) st K)=
 bif decide (i<n)then Z5 s i fun v=>bif !decide ((v.toNat:Int)<48)then Z5 s i fun v=>bif decide (57<(v.toNat:Int))then some (.bool false)else K (C2t s n (IntKind.i64.wrap (i+1)))else some (.bool false)
 else some (.bool (!(s==[]))):=by kernel_rfl
theorem B22 (fu:Nat)(s:List UInt8)(hs:s.length<=10000):∀(m i n:Nat),i+m=s.length->m<n->vY fu n (C2t s (s.length:Int) (i:Int))=some (.bool ((s.drop i).all gW&&!(s==[])))
 |m,i,0,_,h=>by omega
 |0,i,n+1,hi,hn=>by
  unfold vY;rw[B6,B4a,B1 (decide_eq_false (by omega)),Bb (by omega)];rfl
 |m+1,i,n+1,hi,hn=>by
  unfold vY;have hc:=Ag (l:=s) (i:=i) (by omega);rw[B6,B4a,A4 (decide_eq_true (by omega)),F0 hc,F0 hc,B2 (by omega) (by omega),Av (by omega),Ci];generalize s[i]=c;have ih:=B22 fu s hs m (i+1) n (by omega) (by omega);unfold vY at ih;unfold gW
  by_cases h1:48<=c.toNat
  ·rw[A4 (by rw[decide_eq_false (by omega)];rfl),decide_eq_true h1]
   by_cases h2:c.toNat<=57
   ·rw[B1 (decide_eq_false (by omega)),decide_eq_true h2];exact ih
   ·rw[A4 (decide_eq_true (by omega)),decide_eq_false h2];rfl
  ·rw[B1 (by rw[decide_eq_true (by omega)];rfl),decide_eq_false h1];rfl
def wM:D5:=⟨fun xs k=>match xs with|[.str s]=>bif decide (s.length<=5000)then k (.bool (iD s))else none|_=>none,false⟩
theorem C71:D8 sN Wd 249 wM:=by
 refine oI lE A2 (h:=C91) Tryz.func249 rfl (by decide) ?_ ?_
 ·intro R xs k;simp only[wM];split
  ·exact J7
  ·rfl
 ·intro xs r h;simp only[wM]at h;split at h
  ·rename_i s;rcases hb:decide (s.length<=5000)with _|_<;>rw[hb]at h
   ·cases h
   ·simp only[cond_true,Ah]at h;subst h;simp only[decide_eq_true_eq]at hb;refine⟨10000,(E19 10000 s).trans ?_⟩;exact B22 10000 s (by omega) s.length 0 10000 (by omega) (by omega)
  ·cases h
def iG (s:List UInt8):Bool:=s.head? ==some 45
def jQ:D5:=⟨fun xs k=>match xs with|[.str s,.str [45]]=>k (.bool (iG s))|_=>none,false⟩
theorem D7i (s:List UInt8):C6 (en []) ⟨[],[]⟩ 0 false Tryz.f242 [.str s,.str [45]]=
 bif decide (1<=(s.length:Int))then bif decide (1<=(s.length:Int))then some (.bool ((s.take 1).drop 0==[45]))else none else some (.bool false):=by kernel_rfl
theorem A8l:D8 sN Wd 242 jQ:=by
 refine oI lE A2 (h:=⟨[],[]⟩) Tryz.func242 rfl (by decide) ?_ ?_
 ·intro R xs k;simp only[jQ];split<;>rfl
 ·intro xs r h;simp only[jQ]at h;split at h
  ·rename_i s;refine⟨0,(D7i s).trans ?_⟩;rw[<-h]
   cases s with
   |nil=>rfl
   |cons c t =>
    rw[A4 (decide_eq_true (by simp;omega)),A4 (decide_eq_true (by simp;omega))];simp[iG]
  ·cases h
def noM (s:List UInt8):List UInt8:=bif iG s then s.drop 1 else s
def mM:D5:=⟨fun xs k=>match xs with|[.str s,.str [45]]=>k (.tuple [.str (noM s),.bool (iG s)])|_=>none,false⟩
theorem C92 (s:List UInt8):C6 (en [(242,jQ)]) ⟨[],[]⟩ 0 false Tryz.f217 [.str s,.str [45]]=
 bif !iG s then some (.tuple [.str s,.bool false])else bif decide (1<=(s.length:Int))then some (.tuple [.str ((s.take s.length).drop 1),.bool true])else none:=by kernel_rfl
theorem D27:D8 sN Wd 217 mM:=by
 refine oI lE (A0 A8l A2) (h:=⟨[],[]⟩) Tryz.func217 rfl (by decide) ?_ ?_
 ·intro R xs k;simp only[mM];split<;>rfl
 ·intro xs r h;simp only[mM]at h;split at h
  ·rename_i s;refine⟨0,(C92 s).trans ?_⟩;rw[<-h];unfold noM
   cases hm:iG s
   ·rfl
   ·have:s≠[]:=by intro e;subst e;cases hm
    have hl:0<s.length:=Dt.2 this;simp only[Au,cond_false,cond_true];rw[A4 (decide_eq_true (by omega)),Do]
  ·cases h
theorem C58 (s:List UInt8):C6 (en [(217,mM)]) ⟨[],[]⟩ 0 false Tryz.f164 [.str s,.str [45]]=some (.tuple [.str (noM s),.bool (iG s)]):=by kernel_rfl
theorem C05:D8 sN Wd 164 mM:=by
 refine oI lE (A0 D27 A2) (h:=⟨[],[]⟩) Tryz.func164 rfl (by decide) ?_ ?_
 ·intro R xs k;simp only[mM];split<;>rfl
 ·intro xs r h;simp only[mM]at h;split at h
  ·rename_i s;exact⟨0,(C58 s).trans h⟩
  ·cases h
def uC (c:UInt8):Bool:=!(c==46)
def Q0 (s:List UInt8):List UInt8:=s.takeWhile uC
def cO (s:List UInt8):List UInt8:=(s.dropWhile uC).drop 1
def bV (s:List UInt8):Bool:=s.any fun c=>c==46
theorem D55 (s:List UInt8):∀i,bJ 46 i s=bif bV s then((i+(Q0 s).length:Nat):Int)else -1:=by
 induction s with
 |nil=>intro i;rfl
 |cons c s ih =>
  intro i;unfold bJ bV Q0
  by_cases h:c=46
  ·subst h;simp[uC]
  ·have h1:¬((c.toNat:Int)=46):=by
    intro e;apply h;apply Du.1;simp only[UInt8.reduceToNat];omega
   have h2:(c==46)=false:=by simpa using h
   rw[decide_eq_false h1,cond_false,ih];simp only[Cj,h2,Cv,Da,uC,Ar,if_true,Ac];unfold bV Q0 uC
   cases s.any fun c=>c==46<;>simp<;>omega
def jT:D5:=⟨fun xs k=>match xs with|[.str s,.int .u8 c]=>bif decide (0<=c)&&decide (c<=255)then k (.int .i64 (bJ c 0 s))else none|_=>none,false⟩
theorem B6r (s:List UInt8)(c:Int):C6 (en [(304,aC)]) ⟨[],[]⟩ 0 false Tryz.f295 [.str s,.int .u8 c]=bif decide (0<=c)&&decide (c<=255)then some (.int .i64 (bJ c 0 s))else none:=by kernel_rfl
theorem A9g:D8 sN Wd 295 jT:=by
 refine oI lE (A0 sZ A2) (h:=⟨[],[]⟩) Tryz.func295 rfl (by decide) ?_ ?_
 ·intro R xs k;simp only[jT];split
  ·exact J7
  ·rfl
 ·intro xs r h;simp only[jT]at h;split at h
  ·exact⟨0,(B6r _ _).trans h⟩
  ·cases h
def A0k:D5:=⟨fun xs k=>match xs with|[.str s,.str [46]]=>k (.int .i64 (bif [46]==s then 0 else bJ 46 0 s))|_=>none,false⟩
theorem C3s (s:List UInt8):C6 (en [(295,jT)]) ⟨[],[]⟩ 0 false Tryz.f276 [.str s,.str [46]]=bif(false||([46]==s))then some (.int .i64 0)else some (.int .i64 (bJ 46 0 s)):=by kernel_rfl
theorem C9o:D8 sN Wd 276 A0k:=by
 refine oI lE (A0 A9g A2) (h:=⟨[],[]⟩) Tryz.func276 rfl (by decide) ?_ ?_
 ·intro R xs k;simp only[A0k];split<;>rfl
 ·intro xs r h;simp only[A0k]at h;split at h
  ·rename_i s;refine⟨0,(C3s s).trans ?_⟩;rw[<-h]
   cases [46]==s<;>rfl
  ·cases h
def zD:D5:=⟨fun xs k=>match xs with|[.str s,.str [46]]=>bif decide (s.length<=5000)then k (.tuple [.str (Q0 s),.str (cO s),.bool (bV s)])else none|_=>none,false⟩
theorem D9r (s:List UInt8)(i:Int)(hi:(bif [46]==s then 0 else bJ 46 0 s)=i):C6 (en [(276,A0k)]) ⟨[],[]⟩ 0 false Tryz.f273 [.str s,.str [46]]=
  bif decide (0<=i)then bif decide (0<=i)&&decide (i<=(s.length:Int))then bif decide (0<=IntKind.i64.wrap (i+1))&&decide (IntKind.i64.wrap (i+1)<=(s.length:Int))then
   some (.tuple [.str ((s.take i.toNat).drop 0),.str ((s.take s.length).drop (IntKind.i64.wrap (i+1)).toNat),.bool true])else none else none
  else some (.tuple [.str s,.str [],.bool false]):=by
 subst hi
 kernel_rfl
theorem F12 (s:List UInt8):(bif [46]==s then 0 else bJ 46 0 s)=bif bV s then(((Q0 s).length:Nat):Int)else -1:=by
 by_cases h:[46]=s
 ·subst h;rfl
 ·have:([46]==s)=false:=by simpa using h
  rw[this,cond_false,D55];simp
theorem oW {s:List UInt8}(h:bV s=false):Q0 s=s/\cO s=[]:=by
 induction s with
 |nil=>exact⟨rfl,rfl⟩
 |cons c s ih =>
  unfold bV at h;simp only[Cj,Ef]at h;obtain⟨i1,i2⟩:=ih h.2
  have hn:uC c=true:=by unfold uC;rw[h.1];rfl
  unfold Q0 cO at *;rw[Da,Fm,hn];simp only[if_true,i1,i2];exact⟨trivial,trivial⟩
theorem A4i {s:List UInt8}(h:bV s=true):s=Q0 s++46::cO s/\(Q0 s).length<s.length:=by
 induction s with
 |nil=>cases h
 |cons c s ih =>
  unfold Q0 cO;rw[Da,Fm]
  by_cases hc:c=46
  ·subst hc;simp[uC]
  ·have hn:uC c=true:=by unfold uC;simpa using hc
   have h2:bV s=true:=by
    unfold bV at h ⊢;simp only[Cj,Cc,beq_iff_eq]at h;rcases h with h|h
    ·exact(hc h).elim
    ·exact h
   obtain⟨i1,i2⟩:=ih h2;rw[hn];simp only[if_true,Bk,Ac];unfold Q0 cO at i1;unfold Q0 at i2;exact⟨congrArg (c :: ·) i1,by omega⟩
theorem E32:D8 sN Wd 273 zD:=by
 refine oI lE (A0 C9o A2) (h:=⟨[],[]⟩) Tryz.func273 rfl (by decide) ?_ ?_
 ·intro R xs k;simp only[zD];split
  ·exact J7
  ·rfl
 ·intro xs r h;simp only[zD]at h;split at h
  ·rename_i s;rcases hb:decide (s.length<=5000)with _|_<;>rw[hb]at h
   ·cases h
   ·simp only[cond_true,Ah]at h;subst h;simp only[decide_eq_true_eq]at hb;refine⟨0,(D9r s _ (F12 s)).trans ?_⟩
    cases hc:bV s
    ·obtain⟨e1,e2⟩:=oW hc;rw[e1,e2];rfl
    ·obtain⟨e1,e2⟩:=A4i hc;simp only[cond_true];have hw:IntKind.i64.wrap (((Q0 s).length:Int)+1)=((Q0 s).length:Int)+1:=B2 (by omega) (by omega);rw[A4 (decide_eq_true (by omega)),A4 (by rw[decide_eq_true (by omega),decide_eq_true (by omega)];rfl)];simp only[hw];rw[A4 (by rw[decide_eq_true (by omega),decide_eq_true (by omega)];rfl),Do,Bt,At,show((((Q0 s).length:Nat):Int)+1).toNat=(Q0 s).length+1 by omega]
     have t1:s.take (Q0 s).length=Q0 s:=by
      conv=>lhs;arg 2;rw[e1]
      exact List.take_left
     have t2:s.drop ((Q0 s).length+1)=cO s:=by
      conv=>lhs;arg 2;rw[e1]
      rw[show Q0 s++46::cO s=(Q0 s++[46])++cO s by simp];exact List.drop_left' (by simp)
     rw[t1,t2]
  ·cases h
theorem D06 (s:List UInt8):C6 (en [(273,zD)]) ⟨[],[]⟩ 0 false Tryz.f248 [.str s,.str [46]]=bif decide (s.length<=5000)then some (.tuple [.str (Q0 s),.str (cO s),.bool (bV s)])else none:=by kernel_rfl
theorem E8l:D8 sN Wd 248 zD:=by
 refine oI lE (A0 E32 A2) (h:=⟨[],[]⟩) Tryz.func248 rfl (by decide) ?_ ?_
 ·intro R xs k;simp only[zD];split
  ·exact J7
  ·rfl
 ·intro xs r h;simp only[zD]at h;split at h
  ·exact⟨0,(D06 _).trans h⟩
  ·cases h
def D3v {R:Type}(s:List UInt8)(A:Int->Option R)(B:Option R)(C:Int->Option R):Option R :=
 match Lib.atoiAll s with
 |.ok v=>A v
 |.range=>C (Lib.atoiSat s)
 |_=>B
def B05:D5:=⟨fun xs k=>match xs with|[.str s]=>bif decide (s.length<=10000)then D3v s (fun v=>k (.tuple [.int .i64 v,.nilIface])) (k (.tuple [.int .i64 0,.iface 284 .nptr])) (fun v=>k (.tuple [.int .i64 v,.iface 284 .nptr]))else none|_=>none,false⟩
theorem D8z:D8 NGe We 250 B05:=by
 refine W7 Tryz.func250 (by kernel_rfl) (by decide) ?_ rfl ?_
 ·intro R xs k;simp only[B05];split
  ·rename_i s;unfold D3v
   cases decide (s.length<=10000)
   ·rfl
   ·simp only[cond_true]
    cases Lib.atoiAll s<;>rfl
  ·rfl
 ·intro xs r M vs hW h hr;simp only[B05]at h;split at h
  ·rename_i s;rcases hb:decide (s.length<=10000)with _|_<;>rw[hb]at h
   ·cases h
   ·simp only[cond_true]at h;simp only[decide_eq_true_eq]at hb;obtain⟨v,rfl,h1⟩:=A23 hr;simp only[B7]at h1;subst h1
    have hsz:(ByteArray.mk s.toArray).size<=10000:=by show s.toArray.size<=10000;simpa using hb
    obtain⟨_,⟨t1,q1,e1⟩,⟨t2,q2,e2⟩⟩:=hW;unfold D3v at h
    cases ha:Lib.atoiAll s<;>rw[ha]at h<;>dsimp only at h
    ·rename_i n;simp only[Ah]at h;subst h;refine(Any.strconv_Atoi_ok Tryz.laysC172 ⟨s.toArray⟩ (by omega) n (by simpa using ha) M.w).mono ?_
     rintro e w' ⟨rfl,hw⟩
     refine⟨_,rfl,?_,fun U' _=>?_⟩
     ·rcases hw with rfl|⟨t,rfl⟩
      ·exact Below.refl _ _
      ·exact Go.Joins.below_bytesWorld _ _ _ _ (Ak _)
     ·simp only[B7,K9];exact⟨[_,_],rfl,_,_,rfl,rfl,_,_,rfl,rfl,rfl⟩
    ·simp only[Ah]at h;subst h;refine(Any.strconv_Atoi_syntax_var Tryz.laysC172 ⟨s.toArray⟩ (by omega) (by simpa using ha) t1 q1 M.w e1).mono ?_
     rintro e w' ⟨N,rfl,_,_,hbl⟩
     refine⟨_,rfl,hbl,fun U' _=>?_⟩;simp only[B7,K9];exact⟨[_,_],rfl,_,_,rfl,rfl,_,_,rfl,⟨_,rfl,_,rfl⟩,rfl⟩
    ·simp only[Ah]at h;subst h;refine(Any.strconv_Atoi_range_var Tryz.laysC172 ⟨s.toArray⟩ (by omega) (by simpa using ha) t2 q2 M.w e2).mono ?_
     rintro e w' ⟨N,rfl,_,_,hbl⟩
     refine⟨_,rfl,hbl,fun U' _=>?_⟩;simp only[B7,K9];exact⟨[_,_],rfl,_,_,rfl,rfl,_,_,rfl,⟨_,rfl,_,rfl⟩,rfl⟩
  ·cases h
end Go.Proofs.YtkpfigikffphdaaGreatDoor
namespace Go.Proofs.YtkpfigikffphdaaGreatDoor
open Go.RowKit
def yE (a:Nat)(l:List UInt8):Nat:=l.foldl (fun a c=>a * 10+(c.toNat-48)) a
def fZ (l:List UInt8):Nat:=yE 0 l
theorem C28:∀(l:List UInt8) (a:Nat),a<=yE a l
 |[],a=>Ak _
 |c::l,a=>Aw (by omega) (C28 l (a * 10+(c.toNat-48)))
theorem F52:∀(l:List UInt8) (a:Nat),l.all gW=true->a<18446744073709551616->Lib.parseUint10 a l=if yE a l<18446744073709551616 then .ok (yE a l)else .range
 |[],a,_,h=>by
  show Lib.NumEnd.ok a=if a<_ then _ else _
  rw[if_pos h];rfl
 |c::l,a,hd,h=>by
  rw[Ci,Ae]at hd;have hc:=hd.1;unfold gW at hc;simp only[Ae,decide_eq_true_eq]at hc;have e:yE a (c::l)=yE (a * 10+(c.toNat-48)) l:=rfl;have hge:=C28 l (a * 10+(c.toNat-48));unfold Lib.parseUint10;rw[if_pos hc,e]
  by_cases h1:1844674407370955162<=a
  ·rw[if_pos h1,if_neg (by omega)]
  ·rw[if_neg h1]
   by_cases h2:18446744073709551616<=a * 10+(c.toNat-48)
   ·rw[if_pos h2,if_neg (by omega)]
   ·rw[if_neg h2];exact F52 l _ hd.2 (by omega)
theorem B1j {d:List UInt8}{m:Bool}(hd:d.all gW=true)(hne:d≠[]):Lib.atoiAll ((bif m then [45]else [])++d)=bif T3 (gD (fZ d) m)then .range else .ok (gD (fZ d) m):=by
 have hp:Lib.parseMag d=if fZ d<18446744073709551616 then .ok (fZ d)else .range:=by
  unfold Lib.parseMag;rw[if_neg hne];exact F52 d 0 hd (by decide)
 cases m
 ·obtain⟨c,r,rfl⟩:=Dq hne;rw[Ci,Ae]at hd;have hc:=hd.1;unfold gW at hc;simp only[Ae,decide_eq_true_eq]at hc;rw[cond_false,Cd,Lib.atoiAll_plain c r (by omega) (by omega),hp];generalize fZ (c::r)=N;unfold gD T3;rw[cond_false,decide_eq_false (show ¬(N:Int)< -9223372036854775808 by omega),Cv]
  by_cases h:N<18446744073709551616
  ·rw[if_pos h];unfold Lib.signless
   by_cases k:9223372036854775807<(N:Int)
   ·rw[decide_eq_true k];simp only[cond_true];rw[if_pos (by omega)]
   ·rw[decide_eq_false k];simp only[cond_false];rw[if_neg (by omega)]
  ·rw[if_neg h,decide_eq_true (by omega)];rfl
 ·rw[cond_true,List.singleton_append,Lib.atoiAll_minus,hp];generalize fZ d=N;unfold gD T3;rw[cond_true,decide_eq_false (show ¬9223372036854775807 < -(N:Int)by omega),Co]
  by_cases h:N<18446744073709551616
  ·rw[if_pos h];unfold Lib.signed
   by_cases k:-(N:Int)< -9223372036854775808
   ·rw[decide_eq_true k];simp only[cond_true];rw[if_pos (by omega)]
   ·rw[decide_eq_false k];simp only[cond_false];rw[if_neg (by omega)]
  ·rw[if_neg h,decide_eq_true (by omega)];rfl
def A5d (w r:List UInt8)(pt:Bool):Bool:=!iD w||(decide (1<w.length)&&(w.head? ==some 48))||(pt&&(!iD r||decide (6<r.length)))
def A8o (w r:List UInt8)(pt m:Bool):Option (Int×Nat) :=
 bif A5d w r pt then none else bif T3 (gD (fZ (w++r)) m)||(gD (fZ (w++r)) m==0&&m)then none else some (gD (fZ (w++r)) m,r.length)
def S5 (s:List UInt8):Option (Int×Nat):=A8o (Q0 (noM s)) (cO (noM s)) (bV (noM s)) (iG s)
def A2o (o:Option (Int×Nat)):PV:=.tuple [.int .i64 (o.elim 0 fun p=>p.1),.int .i64 (o.elim 0 fun p=>(p.2:Int)),.bool o.isSome]
def iE:Option PV:=some (.tuple [.int .i64 0,.int .i64 0,.bool false])
def C1j (w r:List UInt8)(m:Bool)(pre:List UInt8):Option PV :=
 bif decide (pre.length+w.length<=9223372036854775807)then bif decide ((pre++w).length+r.length<=9223372036854775807)then bif decide ((pre++w++r).length<=10000)then
  D3v (pre++w++r) (fun n=>bif n==0&&m then iE else some (.tuple [.int .i64 n,.int .i64 (r.length:Int),.bool true])) iE (fun _=>iE)
 else none else none else none
def D74 (w r:List UInt8)(m:Bool):Option PV:=bif m then C1j w r m [45]else C1j w r m []
def E3i {R:Type}(s:List UInt8)(k:Bool->Option R):Option R:=bif decide (s.length<=5000)then k (iD s)else none
def D5z {R:Type}(Q L pt X:Bool)(I:(Bool->Option R)->Option R)(D:(Bool->Option R)->Option R)(F T:Option R):Option R :=
 bif !!Q&&L then I fun z=>bif !z&&pt then D fun d=>bif !d||X then F else T else bif !z&&pt then none else bif !z&&pt then none else bif !z&&pt then none else bif z||(pt&&false)then F else T
 else bif !!Q&&L then none else
  bif !(!Q||(L&&false))&&pt then D fun d=>bif !d||X then F else T else
  bif !(!Q||(L&&false))&&pt then none else bif !(!Q||(L&&false))&&pt then none else bif !(!Q||(L&&false))&&pt then none else
  bif !Q||(L&&false)||(pt&&false)then F else T
theorem D3g {R:Type}{Q L pt X z d:Bool}{I D:(Bool->Option R)->Option R}{F T:Option R}(hI:L=true->∀K,I K=K z)(hD:∀K,D K=K d):D5z Q L pt X I D F T=bif !Q||(L&&z)||(pt&&(!d||X))then F else T:=by
 unfold D5z;simp only[hD]
 cases L
 ·cases Q<;>cases pt<;>cases d<;>cases X<;>rfl
 ·simp only[hI rfl]
  cases Q<;>cases pt<;>cases d<;>cases X<;>cases z<;>rfl
def yQ (b:List UInt8)(m:Bool):Option PV :=
 bif decide (b.length<=5000)then
  E3i (Q0 b) fun Q=>D5z Q (decide (1<((Q0 b).length:Int))) (bV b) (decide (6<((cO b).length:Int))) (fun K=>Z5 (Q0 b) 0 fun v=>K ((v.toNat:Int)==48)) (E3i (cO b)) iE (D74 (Q0 b) (cO b) m)
 else none
noncomputable def D69:List (FuncId×D5):=[(164,mM),(248,zD),(249,wM),(250,B05)]
theorem C82:E0 NGe We D69:=A0 (A3g F1l C05) (A0 (A3g F1l E8l) (A0 (A3g F1l C71) (A0 D8z A2)))
theorem C7p (s:List UInt8):C6 (en D69) ⟨[],[]⟩ 0 false Tryz.f220 [.str s]=yQ (noM s) (iG s):=by kernel_rfl
theorem D90 (s:List UInt8):(noM s).length<=s.length:=by unfold noM;cases iG s<;>simp
theorem E33 (s:List UInt8):(Q0 s).length+(cO s).length<=s.length:=by
 cases h:bV s
 ·obtain⟨e1,e2⟩:=oW h;rw[e1,e2];simp
 ·have:=congrArg Bn (A4i h).1;simp only[Af,Ac]at this;omega
theorem mD {s:List UInt8}:iD s=true↔s.all gW=true/\s≠[]:=by unfold iD;simp
theorem E06 {w r:List UInt8}{m:Bool}(hw:iD w=true)(hr:r.all gW=true)(hl:w.length+r.length<=5000) :
  D74 w r m=some (A2o (bif T3 (gD (fZ (w++r)) m)||(gD (fZ (w++r)) m==0&&m)then none else some (gD (fZ (w++r)) m,r.length))):=by
 rw[mD]at hw
 have hd:(w++r).all gW=true:=by rw[Fi,hw.1,hr];rfl
 have hne:w++r≠[]:=by simp[hw.2]
 have key:C1j w r m (bif m then [45]else [])=some (A2o (bif T3 (gD (fZ (w++r)) m)||(gD (fZ (w++r)) m==0&&m)then none else some (gD (fZ (w++r)) m,r.length))):=by
  have hpl:(bif m then [45]else []:List UInt8).length<=1:=by cases m<;>simp
  unfold C1j;rw[A4 (decide_eq_true (by omega)),A4 (decide_eq_true (by simp only[Af];omega)),A4 (decide_eq_true (by simp only[Af];omega)),Al];unfold D3v;rw[B1j hd hne]
  cases ho:T3 (gD (fZ (w++r)) m)
  ·simp only[cond_false,Cv]
   cases hz:gD (fZ (w++r)) m==0&&m
   ·rfl
   ·rfl
  ·rfl
 unfold D74
 cases m
 ·exact key
 ·exact key
theorem B47 {R:Type}{w:List UInt8}{K:UInt8->Option R}(c:UInt8)(t:List UInt8)(h:w=c::t):Z5 w 0 K=K c:=by
 subst h;exact F0 (i:=0) rfl
theorem B90 {s:List UInt8}(hs:s.length<=4000):yQ (noM s) (iG s)=some (A2o (S5 s)):=by
 have h1:=D90 s;have h2:=E33 (noM s);unfold yQ S5 A8o;generalize noM s=b at *
 have hz:decide (1<((Q0 b).length:Int))=true->∀(K:Bool->Option PV),(Z5 (Q0 b) 0 fun v=>K ((v.toNat:Int)==48))=K ((Q0 b).head? ==some 48):=by
  intro hL K;simp only[decide_eq_true_eq]at hL;obtain⟨c,t,e⟩:=Dq (show Q0 b≠[]by intro e;rw[e]at hL;simp at hL);rw[B47 c t e,e];congr 1;simp only[Eb];rw[Df];simp only[beq_iff_eq,Ah];constructor
  ·intro k;apply Du.1;simp only[UInt8.reduceToNat];omega
  ·intro k;subst k;rfl
 have hD:∀(x:List UInt8),x.length<=5000->∀(K:Bool->Option PV),E3i x K=K (iD x):=by
  intro x hx K;unfold E3i;exact A4 (decide_eq_true hx)
 rw[A4 (decide_eq_true (by omega)),hD _ (by omega),D3g hz (hD (cO b) (by omega))]
 have eL:decide (1<((Q0 b).length:Int))=decide (1<(Q0 b).length):=by congr 1;simp only[eq_iff_iff];omega
 have eX:decide (6<((cO b).length:Int))=decide (6<(cO b).length):=by congr 1;simp only[eq_iff_iff];omega
 rw[eL,eX];have eb:(!iD (Q0 b)||decide (1<(Q0 b).length)&&(Q0 b).head? ==some 48||bV b&&(!iD (cO b)||decide (6<(cO b).length)))=A5d (Q0 b) (cO b) (bV b):=rfl;rw[eb]
 cases hb:A5d (Q0 b) (cO b) (bV b)
 ·simp only[cond_false];unfold A5d at hb;simp only[Ef]at hb
  have hw:iD (Q0 b)=true:=by have:=hb.1.1;simpa using this
  have hr:(cO b).all gW=true:=by
   cases hc:bV b
   ·rw[(oW hc).2];rfl
   ·have:=hb.2;rw[hc,Ba,Ef]at this
    have h3:iD (cO b)=true:=by simpa using this.1
    exact(mD.1 h3).1
  exact E06 hw hr (by omega)
 ·rfl
def A0o:D5:=⟨fun xs k=>match xs with|[.str s]=>bif decide (s.length<=4000)then k (A2o (S5 s))else none|_=>none,false⟩
theorem D4b:D8 NGe We 220 A0o:=by
 refine oI F7b C82 (h:=⟨[],[]⟩) Tryz.func220 rfl (by decide) ?_ ?_
 ·intro R xs k;simp only[A0o];split
  ·exact J7
  ·rfl
 ·intro xs r h;simp only[A0o]at h;split at h
  ·rename_i s;rcases hb:decide (s.length<=4000)with _|_<;>rw[hb]at h
   ·cases h
   ·simp only[decide_eq_true_eq]at hb;exact⟨0,(C7p s).trans ((B90 hb).trans h)⟩
  ·cases h
end Go.Proofs.YtkpfigikffphdaaGreatDoor
namespace Go.Proofs.YtkpfigikffphdaaGreatDoor
open Go.RowKit
def hRP:B4:=⟨[],[(0,⟨[(0,false),(5,false),(6,false),(7,false),(8,false),(9,false)],[]⟩)]⟩
noncomputable def lRP:List (FuncId×D5):=[(108,B0k),(107,C00)]
theorem F0c:E0 sN Wd lRP:=A0 E4c (A0 F2e A2)
def frP (s:List UInt8)(i:Int)(m:Bool)(nl:Option Bool)(l:Nat)(c:List PV)(pt f:Int):St :=
 frame 111 [(0,(.str s,0)),(5,(.int .i64 i,0)),(6,(.bool m,0)),(7,(.sl nl 1 l c,0)),(8,(.int .i64 pt,0)),(9,(.int .i64 f,0))] []
noncomputable def kP (fu n:Nat)(st:St):Option PV:=N3 (en lRP) hRP fu false Tryz.f57 [1,1,1,1,1,1,1,0,0] 0 n st
theorem F19 (fu:Nat)(s:List UInt8):C6 (en lRP) hRP fu false Tryz.f57 [.str s]=
 bif !(s==[])then Z5 s 0 fun v=>bif(v.toNat:Int)==45 then kP fu fu (frP s 1 ((v.toNat:Int)==45) (some true) 0 [] (-1) 1)else kP fu fu (frP s 0 ((v.toNat:Int)==45) (some true) 0 [] (-1) 0)
 else kP fu fu (frP s 0 false (some true) 0 [] (-1) 0):=by kernel_rfl
def F46 {R:Type}(l0:Nat)(c0:List PV)(m:Bool)(k:Int->Bool->Option R):Option R:=(vE l0 c0).bind fun X=>bif decide (D9 X<=5000)then k (C8g (gD X m)) (!T3 (gD X m))else none
def E14 (m:Bool)(l:Nat)(c:List PV)(sc:Int):Option PV :=
 F14 l c fun N=>F46 (D9 N) (L6 N) m fun V B=>bif !B||(V==0&&m)then iE else some (.tuple [.int .i64 V,.int .i64 sc,.bool true])
def E1v (s:List UInt8)(m:Bool)(l:Nat)(c:List PV)(f wh sc:Int):Option PV :=
 bif !(wh==f)&&decide (IntKind.i64.wrap (f+1)<wh)then Z5 s f fun v=>bif(v.toNat:Int)==48 then iE else E14 m l c sc
 else bif !(wh==f)&&decide (IntKind.i64.wrap (f+1)<wh)then none else bif wh==f||(decide (IntKind.i64.wrap (f+1)<wh)&&false)then iE else E14 m l c sc
def E1i (s:List UInt8)(m:Bool)(l:Nat)(c:List PV)(pt f wh:Int):Option PV :=
 bif decide (0<=pt)then bif IntKind.i64.wrap (IntKind.i64.wrap ((s.length:Int)-pt)-1)==0||decide (6<IntKind.i64.wrap (IntKind.i64.wrap ((s.length:Int)-pt)-1))then iE else E1v s m l c f wh (IntKind.i64.wrap (IntKind.i64.wrap ((s.length:Int)-pt)-1))
 else E1v s m l c f wh 0
def B6z (s:List UInt8)(m:Bool)(l:Nat)(c:List PV)(pt f i:Int):Option PV:=bif decide (0<=pt)then E1i s m l c pt f pt else E1i s m l c pt f i
theorem C0x (fu:Nat)(s:List UInt8)(i:Int)(m:Bool)(nl:Option Bool)(l:Nat)(c:List PV)(pt f:Int)(K:St->Option PV) :
 P1 (en lRP) hRP fu false Tryz.f57 [1,1,1,1,1,1,1,0,0] (frP s i m nl l c pt f) (fun st=>C2 (hRP.loop.lookup 0) st K)=
 bif decide (i<(s.length:Int))then Z5 s i fun v=>bif(v.toNat:Int)==46&&decide (pt<0)&&decide (f<i)then K (frP s (IntKind.i64.wrap (i+1)) m nl l c i f)else
  Z5 s i fun v=>bif !decide ((v.toNat:Int)<48)then Z5 s i fun v=>bif decide (57<(v.toNat:Int))then iE else Z5 s i fun v=>room 1 l (K (frP s (IntKind.i64.wrap (i+1)) m ((some false).map (·&& (l==0))) (1+l) (.int .i64 (IntKind.i64.wrap (IntKind.u8.wrap ((v.toNat:Int)-48)))::c) pt f))else iE
 else B6z s m l c pt f i:=by kernel_rfl
def ptI:Option Nat->Int
 |none=>-1
 |some p=>p
def yA (f:Nat):List UInt8->Nat->Option Nat->List Nat->Option (Option Nat×List Nat)
 |[],_,pt,ds=>some (pt,ds)
 |c::l,i,pt,ds=>bif c==46&&pt.isNone&&decide (f<i)then yA f l (i+1) (some i) ds else bif gW c then yA f l (i+1) pt ((c.toNat-48)::ds)else none
theorem A0s (fu:Nat)(s:List UInt8)(hs:s.length<=4000)(m:Bool)(f:Nat):∀(k i n:Nat) (nl:Option Bool) (pt:Option Nat) (ds:List Nat),i+k=s.length->k<n->ds.length<=i->
  kP fu n (frP s (i:Int) m nl ds.length (I7 ds) (ptI pt) (f:Int))=match yA f (s.drop i) i pt ds with|none=>iE|some (pt',ds')=>B6z s m ds'.length (I7 ds') (ptI pt') (f:Int) (s.length:Int)
 |k,i,0,_,_,_,_,h,_=>by omega
 |0,i,n+1,nl,pt,ds,hi,hn,hd=>by
  unfold kP;rw[B6,C0x,B1 (decide_eq_false (by omega)),Bb (by omega),show i=s.length by omega];rfl
 |k+1,i,n+1,nl,pt,ds,hi,hn,hd=>by
  unfold kP;have hc:=Ag (l:=s) (i:=i) (by omega);rw[B6,C0x,A4 (decide_eq_true (by omega)),F0 hc,F0 hc,F0 hc,F0 hc,B2 (x:=(i:Int)+1) (by omega) (by omega),Av (by omega),yA,A0a (by omega)];generalize s[i]=c
  have ec:((c.toNat:Int)==46)=(c==46):=by
   rw[Df];simp only[beq_iff_eq];constructor
   ·intro e;apply Du.1;simp only[UInt8.reduceToNat];omega
   ·intro e;subst e;rfl
  have ep:decide (ptI pt<0)=pt.isNone:=by cases pt with
   |none=>rfl
   |some p=>exact decide_eq_false (show ¬((p:Nat):Int)<0 by omega)
  have ef:decide ((f:Int)<(i:Int))=decide (f<i):=by congr 1;simp only[eq_iff_iff];omega
  rw[ec,ep,ef]
  cases hx:c==46&&pt.isNone&&decide (f<i)
  ·simp only[cond_false]
   by_cases h1:48<=c.toNat
   ·rw[A4 (by rw[decide_eq_false (by omega)];rfl)]
    by_cases h2:c.toNat<=57
    ·have hD:gW c=true:=by unfold gW;rw[decide_eq_true h1,decide_eq_true h2];rfl
     rw[B1 (decide_eq_false (by omega)),hD,cond_true];have ih:=A0s fu s hs m f k (i+1) n ((some false).map (·&& (ds.length==0))) pt ((c.toNat-48)::ds) (by omega) (by omega) (by simp;omega);unfold kP at ih;rw[<-ih]
     have e1:IntKind.i64.wrap (IntKind.u8.wrap ((c.toNat:Int)-48))=((c.toNat-48:Nat):Int):=by
      have:IntKind.u8.wrap ((c.toNat:Int)-48)=(c.toNat:Int)-48:=by
       have e8:∀x:Int,IntKind.u8.wrap x=x%256:=fun x=>by simp only[IntKind.wrap];rfl
       rw[e8];omega
      rw[this,B2 (by omega) (by omega)];omega
     rw[e1,show 1+ds.length=((c.toNat-48)::ds).length by simp;omega];rfl
    ·have hD:gW c=false:=by unfold gW;rw[decide_eq_false h2,Ch]
     rw[A4 (decide_eq_true (by omega)),hD,cond_false]
   ·have hD:gW c=false:=by unfold gW;rw[decide_eq_false h1];rfl
    rw[B1 (by rw[decide_eq_true (by omega)];rfl),hD,cond_false]
  ·simp only[cond_true];have ih:=A0s fu s hs m f k (i+1) n nl (some i) ds (by omega) (by omega) (by omega);unfold kP at ih;exact ih
def lH (w:List UInt8)(ds:List Nat):List Nat:=w.foldl (fun ds c=>(c.toNat-48)::ds) ds
def zS:List Nat->Nat
 |[]=>0
 |d::l=>d+10 * zS l
theorem A3m:∀(w:List UInt8) (ds:List Nat),(lH w ds).length=ds.length+w.length
 |[],ds=>by simp[lH]
 |c::w,ds=>by
  have:=A3m w ((c.toNat-48)::ds);simp only[lH,List.foldl_cons,Ac]at this ⊢;omega
theorem A2t:∀(w:List UInt8) (ds:List Nat),zS (lH w ds)=yE (zS ds) w
 |[],ds=>rfl
 |c::w,ds=>by
  have:=A2t w ((c.toNat-48)::ds);simp only[lH,yE,List.foldl_cons,zS]at this ⊢;rw[this,show c.toNat-48+10 * zS ds=zS ds * 10+(c.toNat-48)by omega]
theorem A8s:∀(w:List UInt8) (ds:List Nat),w.all gW=true->(∀d∈ds,d<10)->∀d∈lH w ds,d<10
 |[],ds,_,h=>h
 |c::w,ds,hw,h=>by
  rw[Ci,Ae]at hw;have hc:=hw.1;unfold gW at hc;simp only[Ae,decide_eq_true_eq]at hc;refine A8s w ((c.toNat-48)::ds) hw.2 ?_;intro d hd;rcases Be.1 hd with rfl|hd
  ·omega
  ·exact h d hd
theorem D1p (w r:List UInt8)(ds:List Nat):lH (w++r) ds=lH r (lH w ds):=by simp[lH]
theorem B6y:∀{ds:List Nat},(∀d∈ds,d<10)->A04 (I7 ds)=some (zS ds)
 |[],_=>rfl
 |d::ds,h=>by
  have hd:=h d (An ..);show(if 0<=(d:Int)/\(d:Int)<10 then(A04 (I7 ds)).map fun n=>(d:Int).toNat+10 * n else none)=_;rw[if_pos (by omega),B6y (fun x hx=>h x (Ap _ hx))];rfl
theorem B78 {c:UInt8}(h:gW c=true):(c==46)=false:=by
 unfold gW at h;simp only[Ae,decide_eq_true_eq]at h;rw[beq_eq_false_iff_ne];intro e;subst e;simp at h
theorem kB (f:Nat):∀(w t:List UInt8) (i:Nat) (pt:Option Nat) (ds:List Nat),w.all gW=true->yA f (w++t) i pt ds=yA f t (i+w.length) pt (lH w ds)
 |[],t,i,pt,ds,_=>rfl
 |c::w,t,i,pt,ds,h=>by
  rw[Ci,Ae]at h;rw[Bk,yA,B78 h.1,h.1];simp only[Cs,cond_false,cond_true];rw[kB f w t (i+1) pt _ h.2,Ac,show i+1+w.length=i+(w.length+1)by omega];rfl
theorem vW (f:Nat):∀(w t:List UInt8) (i:Nat) (pt:Option Nat) (ds:List Nat),w.all gW=false->(pt.isSome=true\/bV w=false)->yA f (w++t) i pt ds=none
 |[],t,i,pt,ds,h,_=>by cases h
 |c::w,t,i,pt,ds,h,hp=>by
  rw[Bk,yA]
  have h46:(c==46&&pt.isNone&&decide (f<i))=false:=by
   rcases hp with hp|hp
   ·cases pt with
    |none=>cases hp
    |some p=>simp
   ·unfold bV at hp;simp only[Cj,Ef]at hp;rw[hp.1];rfl
  rw[h46,cond_false]
  cases hc:gW c
  ·rfl
  ·rw[cond_true];rw[Ci,hc,Ba]at h;refine vW f w t (i+1) pt _ h ?_;rcases hp with hp|hp
   ·exact .inl hp
   ·unfold bV at hp ⊢;simp only[Cj,Ef]at hp;exact .inr hp.2
theorem E57 (s:List UInt8):bV (Q0 s)=false:=by
 unfold bV Q0;rw[List.any_eq_false];intro c hc;have:=Bg.1 (List.all_takeWhile (p:=uC) (l:=s)) c hc;unfold uC at this;simpa using this
theorem F24 {R:Type}{ds:List Nat}{k:Nat->Option R}(h:∀d∈ds,d<10)(hl:ds.length<=6000):F14 ds.length (I7 ds) k=k (zS ds):=by
 unfold F14;rw[B6y h];exact A4 (by simp[I7,hl])
theorem C6q {ds:List Nat}(h:∀d∈ds,d<10):D9 (zS ds)<=ds.length:=by
 have:=(wU (B6y h)).2;rw[show(I7 ds).length=ds.length by simp[I7]]at this;exact(cC _ _).2 this
def C4r (N:Nat)(m:Bool)(sc:Int):Option PV:=bif T3 (gD N m)||(gD N m==0&&m)then iE else some (.tuple [.int .i64 (gD N m),.int .i64 sc,.bool true])
theorem E1f {ds:List Nat}{m:Bool}{sc:Int}(h:∀d∈ds,d<10)(hl:ds.length<=5000):E14 m ds.length (I7 ds) sc=C4r (zS ds) m sc:=by
 have:=C6q h;unfold E14 C4r;rw[F24 h (by omega)];unfold F46;rw[oK];simp only[Aa];rw[A4 (decide_eq_true (by omega)),Bool.not_not];unfold C8g
 cases T3 (gD (zS ds) m)<;>rfl
theorem C0y {s:List UInt8}{ds:List Nat}{m:Bool}{f wh:Nat}{sc:Int}(h:∀d∈ds,d<10)(hl:ds.length<=5000)(hf:f<=1)(hw:f<=wh)(hw2:wh<=s.length)(hs:s.length<=4000) :
  E1v s m ds.length (I7 ds) (f:Int) (wh:Int) sc=bif decide (wh=f)||(decide (f+1<wh)&&(s[f]? ==some 48))then iE else C4r (zS ds) m sc:=by
 unfold E1v;rw[E1f h hl,B2 (by omega) (by omega)]
 by_cases e:wh=f
 ·subst e;rw[B1 (by simp),B1 (by simp),A4 (by simp),decide_eq_true rfl];rfl
 ·have e1:((wh:Int)==(f:Int))=false:=by rw[beq_eq_false_iff_ne];omega
  rw[e1,decide_eq_false e]
  by_cases k:f+1<wh
  ·have hc:=Ag (l:=s) (i:=f) (by omega);rw[A4 (by rw[decide_eq_true (by omega)];rfl),F0 hc,hc,decide_eq_true k];generalize s[f]=c
   have e2:((c.toNat:Int)==48)=(some c==some 48):=by
    rw[Df];simp only[beq_iff_eq,Ah];constructor
    ·intro e;apply Du.1;simp only[UInt8.reduceToNat];omega
    ·intro e;subst e;rfl
   rw[e2];rfl
  ·rw[B1 (by rw[decide_eq_false (by omega)];rfl),B1 (by rw[decide_eq_false (by omega)];rfl),decide_eq_false k];simp
theorem F4n (N:Nat)(m:Bool)(k:Nat):C4r N m (k:Int)=some (A2o (bif T3 (gD N m)||(gD N m==0&&m)then none else some (gD N m,k))):=by
 unfold C4r
 cases T3 (gD N m)||(gD N m==0&&m)<;>rfl
theorem B2k {s b:List UInt8}{m:Bool}{f:Nat}(hf:f<=1)(hs:s.length<=4000)(hb:s.length=f+b.length)(hd:s.drop f=b) :
  (match yA f b f none []with|none=>iE|some (pt',ds')=>B6z s m ds'.length (I7 ds') (ptI pt') (f:Int) (s.length:Int))=some (A2o (A8o (Q0 b) (cO b) (bV b) m)):=by
 have hh:s[f]? =b.head? :=by rw[<-hd,Dl]
 have no:∀d∈([]:List Nat),d<10:=fun d h=>by cases h
 cases hc:bV b
 ·obtain⟨e1,e2⟩:=oW hc;rw[e1,e2];unfold A8o A5d
  cases ha:b.all gW
  ·have:=vW f b [] f none [] ha (.inr hc);rw[Bf]at this
   have hdg:iD b=false:=by unfold iD;rw[ha];rfl
   rw[this,hdg];rfl
  ·have:=kB f b [] f none [] ha;rw[Bf]at this;have hp:=A8s b [] ha no;have hl:=A3m b [];simp only[Ai,Bm]at hl;rw[this];simp only[yA];show B6z s m _ _ (-1) _ _=_;unfold B6z E1i;rw[B1 (by decide),B1 (by decide),C0y hp (by omega) hf (by omega) (Ak _) hs,A2t,hh,Bf]
   have ed:iD b=!decide (s.length=f):=by
    unfold iD;rw[ha,Ba]
    cases b with
    |nil=>simp at hb;rw[decide_eq_true hb];rfl
    |cons c t=>rw[decide_eq_false (by simp at hb;omega)];rfl
   have el:decide (1<b.length)=decide (f+1<s.length):=by congr 1;simp only[eq_iff_iff];omega
   rw[ed,el,Bool.not_not];show(bif decide (s.length=f)||(decide (f+1<s.length)&&(b.head? ==some 48))then iE else C4r (fZ b) m 0)=some (A2o (bif decide (s.length=f)||(decide (f+1<s.length)&&b.head? ==some 48)||false then none else _));rw[Co]
   cases decide (s.length=f)||(decide (f+1<s.length)&&(b.head? ==some 48))
   ·exact F4n (fZ b) m 0
   ·rfl
 ·obtain⟨e1,e2⟩:=A4i hc;have hnA:=E57 b
  have hlen:b.length=(Q0 b).length+1+(cO b).length:=by
   conv=>lhs;rw[e1]
   simp only[Af,Ac];omega
  have hhd:∀c t,Q0 b=c::t->b.head? =some c:=by
   intro c t e;rw[e1,e];rfl
  generalize Q0 b=w at *;generalize cO b=r at *;unfold A8o A5d
  cases ha:w.all gW
  ·have hdg:iD w=false:=by unfold iD;rw[ha];rfl
   rw[e1,vW f w _ f none [] ha (.inr hnA),hdg];rfl
  ·rw[e1,kB f w _ f none [] ha,yA];simp only[beq_self_eq_true,Option.isNone_none,Ba]
   by_cases hw:w=[]
   ·subst hw;rw[decide_eq_false (by simp)];rfl
   ·have hwl:0<w.length:=Dt.2 hw;have hdw:iD w=true:=mD.2 ⟨ha,hw⟩;rw[decide_eq_true (by omega),cond_true,hdw]
    cases hr:r.all gW
    ·have:=vW f r [] (f+w.length+1) (some (f+w.length)) (lH w []) hr (.inl rfl);rw[Bf]at this
     have hdr:iD r=false:=by unfold iD;rw[hr];rfl
     rw[this,hdr];simp only[Ar,Bool.true_or,Eo,Fq,cond_true];rfl
    ·have:=kB f r [] (f+w.length+1) (some (f+w.length)) (lH w []) hr;rw[Bf]at this;rw[this,<-D1p]
     have hall:(w++r).all gW=true:=by rw[Fi,ha,hr];rfl
     have hp:=A8s (w++r) [] hall no;have hl:=A3m (w++r) [];simp only[Ai,Bm,Af]at hl;simp only[yA];show B6z s m _ _ (((f+w.length:Nat):Int)) _ _=_;unfold B6z E1i
     have hsc:IntKind.i64.wrap (IntKind.i64.wrap ((s.length:Int)-((f+w.length:Nat):Int))-1)=(r.length:Int):=by
      rw[B2 (x:=(s.length:Int)-_) (by omega) (by omega),B2 (by omega) (by omega)];omega
     rw[A4 (decide_eq_true (by omega)),A4 (decide_eq_true (by omega)),hsc,C0y hp (by omega) hf (by omega) (by omega) hs,A2t,hh]
     have edr:iD r=!decide (r.length=0):=by
      unfold iD;rw[hr,Ba]
      cases r with
      |nil=>rfl
      |cons c t=>rw[decide_eq_false (by simp)];rfl
     have e0:((r.length:Int)==0)=decide (r.length=0):=by
      rw[Df];simp only[beq_iff_eq,decide_eq_true_eq];omega
     have e6:decide (6<(r.length:Int))=decide (6<r.length):=by congr 1;simp only[eq_iff_iff];omega
     have ewf:decide (f+w.length=f)=false:=decide_eq_false (by omega)
     have e1w:decide (f+1<f+w.length)=decide (1<w.length):=by congr 1;simp only[eq_iff_iff];omega
     obtain⟨c,t,ew⟩:=Dq hw
     have eh:(w++46::r).head? =w.head? :=by rw[ew];rfl
     rw[hhd c t ew,edr,e0,e6,ewf,e1w,Bool.not_not]
     have eh2:w.head? =some c:=by rw[ew];rfl
     rw[eh2];simp only[Au,Cv,Ba]
     cases h1:decide (r.length=0)||decide (6<r.length)
     ·rw[cond_false,Co]
      cases h2:decide (1<w.length)&&some c==some 48
      ·exact F4n (fZ (w++r)) m r.length
      ·rfl
     ·rw[cond_true,Fq];rfl
theorem A6y {fu:Nat}{s:List UInt8}{m:Bool}(hs:s.length<=4000)(hfu:5000<=fu):kP fu fu (frP s 0 m (some true) 0 [] (-1) 0)=some (A2o (A8o (Q0 s) (cO s) (bV s) m)):=by
 have h1:=A0s fu s hs m 0 s.length 0 fu (some true) none [] (by omega) (by omega) (Ak _);rw[Bt]at h1;exact h1.trans (B2k (by omega) hs (by omega) Bt)
theorem C5r {fu:Nat}{c:UInt8}{t:List UInt8}{m:Bool}(hs:(c::t).length<=4000)(hfu:5000<=fu):kP fu fu (frP (c::t) 1 m (some true) 0 [] (-1) 1)=some (A2o (A8o (Q0 t) (cO t) (bV t) m)):=by
 have hl:(c::t).length=t.length+1:=rfl;have h1:=A0s fu (c::t) hs m 1 t.length 1 fu (some true) none [] (by omega) (by omega) (Bh _);have hd:(c::t).drop 1=t:=rfl;rw[hd]at h1;exact h1.trans (B2k (by omega) hs (by omega) hd)
theorem E8t {fu:Nat}{s:List UInt8}(hs:s.length<=4000)(hfu:5000<=fu):C6 (en lRP) hRP fu false Tryz.f57 [.str s]=some (A2o (S5 s)):=by
 rw[F19]
 cases s with
 |nil=>exact A6y hs hfu
 |cons c t =>
  rw[A4 (by rfl),B47 c t rfl];unfold S5 noM
  by_cases h:c=45
  ·subst h;have e:iG (45::t)=true:=rfl;have e2:(((45:UInt8).toNat:Int)==45)=true:=rfl;rw[e,e2,cond_true,cond_true];exact C5r hs hfu
  ·have e:iG (c::t)=false:=by unfold iG;simp[h]
   have e2:((c.toNat:Int)==45)=false:=by
    rw[beq_eq_false_iff_ne];intro k;apply h;apply Du.1;simp only[UInt8.reduceToNat];omega
   rw[e,e2,cond_false,cond_false];exact A6y hs hfu
def wC:D5:=⟨fun xs k=>match xs with|[.str s]=>bif decide (s.length<=4000)then k (A2o (S5 s))else none|_=>none,false⟩
theorem C4p:D8 sN Wd 57 wC:=by
 refine oI lE F0c (h:=hRP) Tryz.func57 rfl (by decide) ?_ ?_
 ·intro R xs k;simp only[wC];split
  ·exact J7
  ·rfl
 ·intro xs r h;simp only[wC]at h;split at h
  ·rename_i s;rcases hb:decide (s.length<=4000)with _|_<;>rw[hb]at h
   ·cases h
   ·simp only[decide_eq_true_eq]at hb;exact⟨10000,(E8t hb (by decide)).trans h⟩
  ·cases h
end Go.Proofs.YtkpfigikffphdaaGreatDoor
namespace Go.Proofs.YtkpfigikffphdaaGreatDoor
open Go.RowKit
theorem A80 {d:Nat}(h:d<10):(Bq (48+d)).toNat=48+d:=by simp;omega
theorem D04 {d:Nat}(h:d<10):gW (Bq (48+d))=true:=by
 unfold gW;rw[A80 h,decide_eq_true (by omega),decide_eq_true (by omega)];rfl
theorem D2c (a:Nat)(l:List UInt8)(c:UInt8):yE a (l++[c])=yE a l * 10+(c.toNat-48):=by simp[yE]
theorem D5w {l:List UInt8}{t:List UInt8}(h:l≠[]):(l++t).head? =l.head? :=by
 obtain⟨c,r,e⟩:=Dq h;rw[e];rfl
theorem A4p:∀(k u:Nat),u<10^(k+1)->(sQ (k+1) u).all gW=true/\sQ (k+1) u≠[]/\fZ (sQ (k+1) u)=u/\(sQ (k+1) u).length<=k+1/\(0<u->∀c,(sQ (k+1) u).head? =some c->c≠48)/\(1<(sQ (k+1) u).length->0<u)
 |k,u,hu=>by
  unfold sQ
  by_cases h:u<10
  ·rw[decide_eq_true h,cond_true];refine⟨by rw[Ci,D04 h];rfl,by simp,?_,by simp,?_,by simp⟩
   ·show 0 * 10+((Bq (48+u)).toNat-48)=u;rw[A80 h];omega
   ·intro hp c hc;simp only[Eb,Ah]at hc;subst hc;intro e;have:=congrArg UInt8.toNat e;rw[A80 h]at this;simp at this;omega
  ·rw[decide_eq_false h,cond_false]
   match k,hu with
   |0,hu=>simp at hu;omega
   |k+1,hu =>
    have hq:u/10<10^(k+1):=(En (by decide)).2 (by rw[Nat.pow_succ]at hu;exact hu);obtain⟨f1,f2,f3,f4,f5,f6⟩:=A4p k (u/10) hq;have hm:u%10<10:=Nat.mod_lt _ (by decide);refine⟨by rw[Fi,f1,Ci,D04 hm];rfl,by simp,?_,by simp;omega,?_,fun _=>by omega⟩
    ·unfold fZ at *;rw[D2c,f3,A80 hm];omega
    ·intro hp c hc;rw[D5w f2]at hc;exact f5 (by omega) c hc
def dS (N:Nat):List UInt8:=sQ 20 N
theorem mF {N:Nat}(h:N<10^20):(dS N).all gW=true/\dS N≠[]/\fZ (dS N)=N/\(dS N).length<=20/\(0<N->∀c,(dS N).head? =some c->c≠48)/\(1<(dS N).length->0<N):=A4p 19 N h
def nF (t:List UInt8)(k:Nat):List UInt8:=List.replicate (k+1-t.length) 48++t
def E4m (m:Bool)(t:List UInt8):Option PV:=bif m then bif decide (([45]:List UInt8).length+t.length<=9223372036854775807)then some (.str ([45]++t))else none else some (.str t)
def C3c (x:List UInt8)(sc:Int)(m:Bool):Option PV :=
 bif decide (0<sc)then
  bif decide (0<=IntKind.i64.wrap ((x.length:Int)-sc))&&decide (IntKind.i64.wrap ((x.length:Int)-sc)<=(x.length:Int))then
   bif decide (((x.take (IntKind.i64.wrap ((x.length:Int)-sc)).toNat).drop 0).length+([46]:List UInt8).length<=9223372036854775807)then
    bif decide (0<=IntKind.i64.wrap ((x.length:Int)-sc))&&decide (IntKind.i64.wrap ((x.length:Int)-sc)<=(x.length:Int))then
     bif decide ((((x.take (IntKind.i64.wrap ((x.length:Int)-sc)).toNat).drop 0)++[46]).length+((x.take x.length).drop (IntKind.i64.wrap ((x.length:Int)-sc)).toNat).length<=9223372036854775807)then
      E4m m (((x.take (IntKind.i64.wrap ((x.length:Int)-sc)).toNat).drop 0)++[46]++((x.take x.length).drop (IntKind.i64.wrap ((x.length:Int)-sc)).toNat))
     else none
    else none
   else none
  else none
 else E4m m x
def A3y (p:List UInt8)(k:Nat):List UInt8:=bif decide (0<k)then p.take (p.length-k)++[46]++p.drop (p.length-k)else p
def xA (N:Nat)(m:Bool)(k:Nat):List UInt8:=(bif m then [45]else [])++A3y (nF (dS N) k) k
theorem C1d {m:Bool}{t:List UInt8}(h:t.length<=10000):E4m m t=some (.str ((bif m then [45]else [])++t)):=by
 unfold E4m
 cases m
 ·rfl
 ·rw[cond_true,A4 (decide_eq_true (by simp;omega))];rfl
theorem B49 {x:List UInt8}{k:Nat}{m:Bool}(hk:k<x.length)(hx:x.length<=5000):C3c x (k:Int) m=some (.str ((bif m then [45]else [])++A3y x k)):=by
 unfold C3c A3y;have hw:IntKind.i64.wrap ((x.length:Int)-(k:Int))=(x.length:Int)-(k:Int):=B2 (by omega) (by omega)
 have ht:((x.length:Int)-(k:Int)).toNat=x.length-k:=by omega
 by_cases h:0<k
 ·rw[A4 (decide_eq_true (by omega)),decide_eq_true h,cond_true];simp only[hw,ht]
  have hb:(decide (0<=(x.length:Int)-(k:Int))&&decide ((x.length:Int)-(k:Int)<=(x.length:Int)))=true:=by rw[decide_eq_true (by omega),decide_eq_true (by omega)];rfl
  rw[hb,Do,Bt]
  have l1:(x.take (x.length-k)).length=x.length-k:=by rw[Cf];omega
  rw[cond_true,cond_true,A4 (decide_eq_true (by rw[l1];simp;omega)),A4 (decide_eq_true (by simp only[Af,l1,Ax,Ac,Ai];omega)),C1d (by simp only[Af,l1,Ax,Ac,Ai];omega)]
 ·rw[B1 (decide_eq_false (by omega)),decide_eq_false h,cond_false,C1d (by omega)]
theorem B2e {t:List UInt8}{k:Nat}(h:t.length<=k):nF (48::t) k=nF t k:=by
 unfold nF;rw[show k+1-t.length=(k+1-(48::t).length)+1 by simp only[Ac];omega,List.replicate_succ',Al];rfl
theorem wG {t:List UInt8}{k:Nat}(h:k<t.length):nF t k=t:=by
 unfold nF;rw[show k+1-t.length=0 by omega];rfl
theorem A9j (t:List UInt8)(k:Nat):(nF t k).length=max t.length (k+1):=by
 unfold nF;rw[Af,List.length_replicate];omega
def hPr:B4:=⟨[],[(0,⟨[(1,false),(5,false),(6,false)],[]⟩)]⟩
noncomputable def lPr:List (FuncId×D5):=[(163,A1c),(164,mM),(89,A22)]
theorem F1u:E0 sN Wd lPr:=A0 D58 (A0 C05 (A0 C3q A2))
def E0q (sc:Int)(x:List UInt8)(m:Bool):St:=frame 42 [(1,(.int .i64 sc,0)),(5,(.str x,0)),(6,(.bool m,0))] []
noncomputable def B0i (fu n:Nat)(st:St):Option PV:=N3 (en lPr) hPr fu false Tryz.f83 [1,1,1,0,0] 0 n st
theorem F00 (fu:Nat)(n sc:Int):C6 (en lPr) hPr fu false Tryz.f83 [.int .i64 n,.int .i64 sc]=
 bif !dZ sc then some (.str [])else bif decide (-9223372036854775808<=n)&&decide (n<=9223372036854775807)then B0i fu fu (E0q sc (noM (zP n)) (iG (zP n)))else none:=by kernel_rfl
theorem E4u (fu:Nat)(sc:Int)(x:List UInt8)(m:Bool)(K:St->Option PV) :
 P1 (en lPr) hPr fu false Tryz.f83 [1,1,1,0,0] (E0q sc x m) (fun st=>C2 (hPr.loop.lookup 0) st K)=
 bif decide ((x.length:Int)<=sc)then bif decide (([48]:List UInt8).length+x.length<=9223372036854775807)then K (E0q sc ([48]++x) m)else none else C3c x sc m:=by kernel_rfl
theorem C1m (fu:Nat)(k:Nat)(hk:k<=6)(m:Bool):∀(j n:Nat) (x:List UInt8),k+1<=x.length+j->j<n->x.length<=100->B0i fu n (E0q (k:Int) x m)=some (.str ((bif m then [45]else [])++A3y (nF x k) k))
 |j,0,_,_,h,_=>by omega
 |j,n+1,x,hj,hn,hx=>by
  unfold B0i;rw[B6,E4u]
  by_cases h:x.length<=k
  ·rw[A4 (decide_eq_true (by omega)),A4 (decide_eq_true (by simp;omega))];have ih:=C1m fu k hk m (j-1) n (48::x) (by simp;omega) (by omega) (by simp;omega);rw[B2e h]at ih;unfold B0i at ih;exact ih
  ·rw[B1 (decide_eq_false (by omega)),B49 (by omega) (by omega),wG (by omega)]
theorem B7d {t:List UInt8}(h:t.all gW=true):noM t=t/\iG t=false:=by
 have:iG t=false:=by
  unfold iG
  cases t with
  |nil=>rfl
  |cons c t =>
   rw[Ci,Ae]at h;have hc:=h.1;simp only[Eb];rw[beq_eq_false_iff_ne];intro e;injection e with e;subst e;simp[gW]at hc
 unfold noM;rw[this];exact⟨rfl,rfl⟩
theorem C94 {n:Int}(h:mG n=true):noM (zP n)=dS n.natAbs/\iG (zP n)=decide (n<0):=by
 rw[aK]at h;have f:=(mF (N:=n.natAbs) (by omega)).1;unfold zP
 by_cases k:n<0
 ·rw[decide_eq_true k,cond_true];exact⟨rfl,rfl⟩
 ·rw[decide_eq_false k,cond_false,show n.toNat=n.natAbs by omega];exact B7d f
def tG (n sc:Int):List UInt8:=bif dZ sc then xA n.natAbs (decide (n<0)) sc.toNat else []
def A1d:D5:=⟨fun xs k=>match xs with|[.int .i64 n,.int .i64 sc]=>bif mG n then k (.str (tG n sc))else none|_=>none,false⟩
theorem D1c:D8 sN Wd 83 A1d:=by
 refine oI lE F1u (h:=hPr) Tryz.func83 rfl (by decide) ?_ ?_
 ·intro R xs k;simp only[A1d];split
  ·exact J7
  ·rfl
 ·intro xs r h;simp only[A1d]at h;split at h
  ·rename_i n sc;rcases hb:mG n with _|_<;>rw[hb]at h
   ·cases h
   ·simp only[cond_true,Ah]at h;subst h;refine⟨10000,(F00 10000 n sc).trans ?_⟩;unfold tG
    cases hs:dZ sc
    ·rfl
    ·rw[iS]at hs;obtain⟨e1,e2⟩:=C94 hb;rw[aK]at hb;have f:=(mF (N:=n.natAbs) (by omega)).2.2.2.1;rw[Au,cond_false,cond_true,A4 (by rw[decide_eq_true hb.1,decide_eq_true hb.2];rfl),e1,e2];obtain⟨k,rfl⟩:=Int.eq_ofNat_of_zero_le hs.1;have:=C1m 10000 k (by omega) (decide (n<0)) 7 10000 (dS n.natAbs) (by omega) (by omega) (by omega);rw[At];exact this
  ·cases h
def hDg:B4:=⟨[],[(0,⟨[(3,false),(7,false),(8,false),(9,false)],[]⟩)]⟩
def E07 (x:List UInt8)(n7:Option Bool)(l7:Nat)(c7:List PV)(L i:Int):St:=frame 23 [(3,(.str x,0)),(7,(.sl n7 1 l7 c7,0)),(8,(.int .i64 L,0)),(9,(.int .i64 i,0))] []
noncomputable def lDg:List (FuncId×D5):=[(188,D4f)]
noncomputable def A3t (fu n:Nat)(st:St):Option PV:=N3 (en lDg) hDg fu false Tryz.f168 [1,1,0,1,0] 0 n st
theorem E4i (fu:Nat)(n:Int):C6 (en lDg) hDg fu false Tryz.f168 [.int .i64 n]=
 bif mG n then A3t fu fu (E07 [] (some (n.natAbs==0)) (D9 n.natAbs) (L6 n.natAbs) (D9 n.natAbs:Int) 0)else none:=by kernel_rfl
def E23:List UInt8:=[48,49,50,51,52,53,54,55,56,57]
theorem B1b (fu:Nat)(x:List UInt8)(n7:Option Bool)(l7:Nat)(c7:List PV)(L i:Int)(K:St->Option PV) :
 P1 (en lDg) hDg fu false Tryz.f168 [1,1,0,1,0] (E07 x n7 l7 c7 L i) (fun st=>C2 (hDg.loop.lookup 0) st K)=
 bif decide (i<L)then ixI l7 c7 i fun v =>
  bif decide (0<=IntKind.i64.wrap (v+1))&&decide (IntKind.i64.wrap (v+1)<=(E23.length:Int))then bif decide (0<=v)&&decide (v<=((IntKind.i64.wrap (v+1)).toNat:Int))then
   bif decide (((E23.take (IntKind.i64.wrap (v+1)).toNat).drop v.toNat).length+x.length<=9223372036854775807)then K (E07 (((E23.take (IntKind.i64.wrap (v+1)).toNat).drop v.toNat)++x) n7 l7 c7 L (IntKind.i64.wrap (i+1)))else none
  else none else none
 else bif x==[]then some (.str [48])else some (.str x):=by kernel_rfl
def chS (k N:Nat):List UInt8:=((dg k N).map fun d=>Bq (48+d)).reverse
theorem D9s:∀d,d<10->(E23.take (d+1)).drop d=[Bq (48+d)]:=by decide
theorem B5h (fu:Nat)(N:Nat)(hN:D9 N<=100)(n7:Option Bool):∀(m i n:Nat),i+m=D9 N->m<n->A3t fu n (E07 (chS i N) n7 (D9 N) (L6 N) (D9 N:Int) (i:Int))=some (.str (bif chS (D9 N) N==[]then [48]else chS (D9 N) N))
 |m,i,0,_,h=>by omega
 |0,i,n+1,hi,hn=>by
  unfold A3t;rw[B6,B1b,B1 (decide_eq_false (by omega)),show i=D9 N by omega]
  cases chS (D9 N) N==[]<;>rfl
 |m+1,i,n+1,hi,hn=>by
  unfold A3t;have hd:N/10^i%10<10:=Nat.mod_lt _ (by decide)
  have hl:(chS i N).length=i:=by simp[chS,A2a]
  rw[B6,B1b,A4 (decide_eq_true (by omega)),eZ (by omega) (by omega),At,B2 (x:=_+1) (by omega) (by omega),B2 (x:=(i:Int)+1) (by omega) (by omega)]
  have e1:(((N/10^i%10:Nat):Int)+1).toNat=N/10^i%10+1:=by omega
  have ih:=B5h fu N hN n7 m (i+1) n (by omega) (by omega);unfold A3t at ih
  have e2:chS (i+1) N=[Bq (48+N/10^i%10)]++chS i N:=by
   unfold chS;rw[uJ,Dv,List.reverse_append];rfl
  rw[e2]at ih;simp only[e1,At];rw[A4 (by rw[decide_eq_true (by omega),decide_eq_true (by show _<=((10:Nat):Int);omega)];rfl),A4 (by rw[decide_eq_true (by omega),decide_eq_true (by omega)];rfl),D9s _ hd,A4 (decide_eq_true (by simp;omega))];exact ih
theorem E6p:∀(k u:Nat),u<10^(k+1)->sQ (k+1) u=bif chS (D9 u) u==[]then [48]else chS (D9 u) u
 |k,u,hu=>by
  unfold sQ
  by_cases h:u<10
  ·rw[decide_eq_true h,cond_true]
   by_cases h0:u=0
   ·subst h0;rfl
   ·have hl:D9 u=1:=by rw[iZ h0,show u/10=0 by omega,lV]
    rw[hl];show _=bif [Bq (48+u%10)]==[]then [48]else [Bq (48+u%10)];rw[show u%10=u by omega];rfl
  ·rw[decide_eq_false h,cond_false]
   match k,hu with
   |0,hu=>simp at hu;omega
   |k+1,hu =>
    have hq:u/10<10^(k+1):=(En (by decide)).2 (by rw[Nat.pow_succ]at hu;exact hu);rw[E6p k (u/10) hq];have hl:D9 u=D9 (u/10)+1:=iZ (by omega);have hl2:D9 (u/10)=D9 (u/10/10)+1:=iZ (by omega)
    have e:chS (D9 u) u=chS (D9 (u/10)) (u/10)++[Bq (48+u%10)]:=by
     rw[hl];unfold chS;show((u%10::dg (D9 (u/10)) (u/10)).map _).reverse=_;rw[List.map_cons,List.reverse_cons]
    have n1:(chS (D9 (u/10)) (u/10)==[])=false:=by
     rw[beq_eq_false_iff_ne];intro e;have:=congrArg Bn e;simp[chS,A2a]at this;omega
    have n2:(chS (D9 u) u==[])=false:=by rw[e];simp
    rw[n1,n2,cond_false,cond_false,e]
def pU:D5:=⟨fun xs k=>match xs with|[.int .i64 n]=>bif mG n then k (.str (dS n.natAbs))else none|_=>none,false⟩
theorem A7d:D8 sN Wd 168 pU:=by
 refine oI lE (A0 E72 A2) (h:=hDg) Tryz.func168 rfl (by decide) ?_ ?_
 ·intro R xs k;simp only[pU];split
  ·exact J7
  ·rfl
 ·intro xs r h;simp only[pU]at h;split at h
  ·rename_i n;rcases hb:mG n with _|_<;>rw[hb]at h
   ·cases h
   ·simp only[cond_true,Ah]at h;subst h;refine⟨10000,(E4i 10000 n).trans ?_⟩;have hl:=D34 hb;rw[hb,cond_true];rw[aK]at hb;have:=B5h 10000 n.natAbs (by omega) (some (n.natAbs==0)) (D9 n.natAbs) 0 10000 (by omega) (by omega);unfold dS;rw[E6p 19 n.natAbs (by omega)];exact this
  ·cases h
def D10:B4:=⟨[],[(0,⟨[(0,false),(1,false),(5,false)],[]⟩)]⟩
noncomputable def E8q:List (FuncId×D5):=[(92,A0m),(168,pU)]
def C1h (n sc:Int)(x:List UInt8):St:=frame 38 [(0,(.int .i64 n,0)),(1,(.int .i64 sc,0)),(5,(.str x,0))] []
noncomputable def A17 (fu n:Nat)(st:St):Option PV:=N3 (en E8q) D10 fu false Tryz.f167 [1,1,1,0,0] 0 n st
theorem E5a (fu:Nat)(n sc:Int):C6 (en E8q) D10 fu false Tryz.f167 [.int .i64 n,.int .i64 sc]=
 bif !dZ sc then some (.str [])else bif mG n then A17 fu fu (C1h n sc (dS n.natAbs))else none:=by kernel_rfl
theorem D39 (fu:Nat)(n sc:Int)(x:List UInt8)(K:St->Option PV) :
 P1 (en E8q) D10 fu false Tryz.f167 [1,1,1,0,0] (C1h n sc x) (fun st=>C2 (D10.loop.lookup 0) st K)=
 bif decide ((x.length:Int)<=sc)then bif decide (([48]:List UInt8).length+x.length<=9223372036854775807)then K (C1h n sc ([48]++x))else none else C3c x sc (decide (n<0)):=by kernel_rfl
theorem B64 (fu:Nat)(k:Nat)(hk:k<=6)(v:Int):∀(j n:Nat) (x:List UInt8),k+1<=x.length+j->j<n->x.length<=100->A17 fu n (C1h v (k:Int) x)=some (.str ((bif decide (v<0)then [45]else [])++A3y (nF x k) k))
 |j,0,_,_,h,_=>by omega
 |j,n+1,x,hj,hn,hx=>by
  unfold A17;rw[B6,D39]
  by_cases h:x.length<=k
  ·rw[A4 (decide_eq_true (by omega)),A4 (decide_eq_true (by simp;omega))];have ih:=B64 fu k hk v (j-1) n (48::x) (by simp;omega) (by omega) (by simp;omega);rw[B2e h]at ih;unfold A17 at ih;exact ih
  ·rw[B1 (decide_eq_false (by omega)),B49 (by omega) (by omega),wG (by omega)]
def vX:D5:=⟨fun xs k=>match xs with|[.int .i64 n,.int .i64 sc]=>bif mG n then k (.str (tG n sc))else none|_=>none,false⟩
theorem C5b:D8 sN Wd 167 vX:=by
 refine oI lE (A0 D1m (A0 A7d A2)) (h:=D10) Tryz.func167 rfl (by decide) ?_ ?_
 ·intro R xs k;simp only[vX];split
  ·exact J7
  ·rfl
 ·intro xs r h;simp only[vX]at h;split at h
  ·rename_i n sc;rcases hb:mG n with _|_<;>rw[hb]at h
   ·cases h
   ·simp only[cond_true,Ah]at h;subst h;refine⟨10000,(E5a 10000 n sc).trans ?_⟩;unfold tG
    cases hs:dZ sc
    ·rfl
    ·rw[iS]at hs;rw[Au,cond_false,cond_true,hb,cond_true];rw[aK]at hb;have f:=(mF (N:=n.natAbs) (by omega)).2.2.2.1;obtain⟨k,rfl⟩:=Int.eq_ofNat_of_zero_le hs.1;have:=B64 10000 k (by omega) n 7 10000 (dS n.natAbs) (by omega) (by omega) (by omega);rw[At];exact this
  ·cases h
end Go.Proofs.YtkpfigikffphdaaGreatDoor
namespace Go.Proofs.YtkpfigikffphdaaGreatDoor
open Go.RowKit
theorem yW {w:List UInt8}(h:w.all gW=true):bV w=false:=by
 unfold bV;rw[List.any_eq_false];intro c hc;have:=B78 (Bg.1 h c hc);simpa using this
theorem E59 {w r:List UInt8}(h:w.all gW=true):Q0 (w++46::r)=w/\cO (w++46::r)=r/\bV (w++46::r)=true:=by
 unfold Q0 cO bV
 induction w with
 |nil=>simp[uC]
 |cons c w ih =>
  rw[Ci,Ae]at h
  have hn:uC c=true:=by unfold uC;rw[B78 h.1];rfl
  obtain⟨i1,i2,i3⟩:=ih h.2;rw[Bk,Da,Fm,hn];simp only[if_true,Cj,i1,i2,i3,Fq];exact⟨trivial,trivial,trivial⟩
theorem A1g (t:List UInt8):∀j,yE 0 (List.replicate j 48++t)=yE 0 t
 |0=>rfl
 |j+1=>by
  rw[List.replicate_succ,Bk];exact A1g t j
theorem yC {t:List UInt8}{k:Nat}(h:t.all gW=true):(nF t k).all gW=true/\fZ (nF t k)=fZ t:=by
 unfold nF;refine⟨?_,A1g t _⟩;rw[Fi,h,Eo,Bg];intro c hc;obtain⟨_,rfl⟩:=List.mem_replicate.1 hc;rfl
theorem B9n {c:UInt8}{t:List UInt8}(h:gW c=true):iG (c::t)=false:=by
 unfold iG;rw[Eb,beq_eq_false_iff_ne];intro e;injection e with e;subst e;simp[gW]at h
theorem E6h {q:List UInt8}{m:Bool}(h:∃c t,q=c::t/\gW c=true):noM ((bif m then [45]else [])++q)=q/\iG ((bif m then [45]else [])++q)=m:=by
 cases m
 ·obtain⟨c,t,rfl,hc⟩:=h;have:iG (c::t)=false:=B9n hc;unfold noM;rw[cond_false,Cd,this];exact⟨rfl,rfl⟩
 ·exact⟨rfl,rfl⟩
theorem B4v {N k:Nat}{m:Bool}(hN:N<10^20)(hk:k<=6)(ho:T3 (gD N m)=false)(hz:(gD N m==0&&m)=false):S5 (xA N m k)=some (gD N m,k):=by
 obtain⟨f1,f2,f3,f4,f5,f6⟩:=mF hN;obtain⟨p1,p2⟩:=yC (k:=k) f1;have p3:=A9j (dS N) k;have hl:0<(dS N).length:=Dt.2 f2;rw[f3]at p2;have hdone:k+1<(nF (dS N) k).length->nF (dS N) k=dS N:=fun h=>wG (by omega);have hdone0:k=0->nF (dS N) k=dS N:=fun h=>wG (by omega);unfold xA;generalize nF (dS N) k=p at *
 have hp0:p≠[]:=by intro e;rw[e]at p3;simp at p3;omega
 obtain⟨c,t,hp⟩:=Dq hp0
 have hcD:gW c=true:=by rw[hp,Ci,Ae]at p1;exact p1.1
 by_cases h0:k=0
 ·have hd:A3y p k=p:=by unfold A3y;rw[decide_eq_false (by omega)];rfl
  have hpd:=hdone0 h0;rw[hd];obtain⟨e1,e2⟩:=E6h (m:=m) ⟨c,t,hp,hcD⟩;obtain⟨g1,g2⟩:=oW (yW p1);unfold S5 A8o;rw[e1,e2,g1,g2,yW p1,Bf,p2,ho,hz]
  have hb:A5d p [] false=false:=by
   unfold A5d;rw[mD.2 ⟨p1,hp0⟩];simp only[Au,Cv,Cs,Co,Bool.and_eq_false_iff]
   by_cases h1:1<p.length
   ·right;rw[hp,Eb,beq_eq_false_iff_ne];intro e;injection e with e;rw[hpd]at h1 hp;exact f5 (f6 h1) c (by rw[hp];rfl) e
   ·exact .inl (decide_eq_false h1)
  rw[hb,h0];rfl
 ·have hd:A3y p k=p.take (p.length-k)++46::p.drop (p.length-k):=by unfold A3y;rw[decide_eq_true (by omega),cond_true,Al];rfl
  have hwl:(p.take (p.length-k)).length=p.length-k:=by rw[Cf];omega
  have hrl:(p.drop (p.length-k)).length=k:=by rw[Ax];omega
  have hcat:p.take (p.length-k)++p.drop (p.length-k)=p:=List.take_append_drop _ _;have hall:=p1;rw[<-hcat,Fi,Ae]at hall
  have hhead:(p.take (p.length-k)).head? =some c:=by
   rw[List.head?_take,if_neg (by omega),hp];rfl
  rw[hd]
  have hq:∃c' t',p.take (p.length-k)++46::p.drop (p.length-k)=c'::t'/\gW c'=true:=by
   obtain⟨c',t',e⟩:=Dq (show p.take (p.length-k)≠[]by intro e;rw[e]at hwl;simp at hwl;omega);rw[e]at hhead;injection hhead with hh;exact⟨c',t'++46::p.drop (p.length-k),by rw[e];rfl,by rw[hh];exact hcD⟩
  obtain⟨e1,e2⟩:=E6h (m:=m) hq;obtain⟨g1,g2,g3⟩:=E59 (r:=p.drop (p.length-k)) hall.1;unfold S5 A8o;rw[e1,e2,g1,g2,g3,hcat,p2,ho,hz,hrl]
  have hb:A5d (p.take (p.length-k)) (p.drop (p.length-k)) true=false:=by
   unfold A5d;rw[mD.2 ⟨hall.1,by intro e;rw[e]at hwl;simp at hwl;omega⟩,mD.2 ⟨hall.2,by intro e;rw[e]at hrl;simp at hrl;omega⟩,hrl,decide_eq_false (show ¬6<k by omega),hwl,hhead];simp only[Au,Cv,Ch,Co,Bool.and_eq_false_iff]
   by_cases h1:1<p.length-k
   ·right;rw[beq_eq_false_iff_ne];intro e;injection e with e;have hpd:=hdone (by omega);rw[hpd]at h1 hp;exact f5 (f6 (by omega)) c (by rw[hp];rfl) e
   ·exact .inl (decide_eq_false h1)
  rw[hb];rfl
end Go.Proofs.YtkpfigikffphdaaGreatDoor
end
section
namespace Go.Proofs.YtkpfigikffphdaaGreatDoor
open Go.RowKit
def NGk:Nat:=max (4+1) (5+1)
theorem C8p {w:World}(h:yF w):NGk<=w.heap.size:=by
 have h1:=World.block_lt_of_cell? w _ (h.2 0 (by decide)).1;have h2:=World.block_lt_of_cell? w _ (h.1 0 (by decide));exact Nat.max_le.2 ⟨h2,h1⟩
theorem D7e:Y0 NGk yF:=by
 intro w w' h hW
 have hc:∀(b o:Nat),b<NGk->w'.cell? ⟨b,o,none⟩=w.cell? ⟨b,o,none⟩:=by
  intro b o hb;unfold World.cell?;simp only[h b hb]
 refine⟨fun c hlt=>?_,fun i hi=>?_⟩
 ·rw[hc _ _ (by decide)];exact hW.1 c hlt
 ·rw[hc _ _ (by decide),hc _ _ (by decide)];exact hW.2 i hi
def mL:D5:=⟨fun xs k=>match xs with|[.str s]=>bif decide (s.length<=1000000)then k (.bool (Lib.validD s))else none|_=>none,false⟩
theorem D17:D8 NGk yF 257 mL:=by
 refine W7 Tryz.func257 (by kernel_rfl) (by decide) ?_ rfl ?_
 ·intro R xs k;simp only[mL];split
  ·exact J7
  ·rfl
 ·intro xs r M vs hW h hr;simp only[mL]at h;split at h
  ·rename_i s;rcases hb:decide (s.length<=1000000)with _|_<;>rw[hb]at h
   ·cases h
   ·simp only[cond_true,Ah]at h;subst h;simp only[decide_eq_true_eq]at hb;obtain⟨v,rfl,h1⟩:=A23 hr;simp only[B7]at h1;subst h1;refine(C3w s M.w (by omega) hW).mono ?_
    rintro e w' ⟨rfl,hbl⟩
    exact⟨_,rfl,hbl,fun U' _=>rfl⟩
  ·cases h
def C37:D5:=mL
theorem F2o:D8 NGk yF 93 C37:=by
 refine W7 Tryz.func93 (by kernel_rfl) (by decide) ?_ rfl ?_
 ·intro R xs k;simp only[C37,mL];split
  ·exact J7
  ·rfl
 ·intro xs r M vs hW h hr;simp only[C37,mL]at h;split at h
  ·rename_i s;rcases hb:decide (s.length<=1000000)with _|_<;>rw[hb]at h
   ·cases h
   ·simp only[cond_true,Ah]at h;subst h;simp only[decide_eq_true_eq]at hb;obtain⟨v,rfl,h1⟩:=A23 hr;simp only[B7]at h1;subst h1;refine(D9t s M.w (by omega)).mono ?_
    rintro e w' ⟨rfl,rfl⟩
    exact⟨_,rfl,Below.refl _ _,fun U' _=>rfl⟩
  ·cases h
def zY (s:Int):Bool:=decide (0<=s)&&decide (s<=6)
def A4y:D5:=⟨fun xs k=>match xs with|[.int .i64 s]=>k (.bool (zY s))|_=>none,false⟩
theorem E35 (l:List (FuncId×D5))(s:Int)(fuel:Nat):C6 (en l) ⟨[],[]⟩ fuel false Tryz.f163 [.int .i64 s]=some (.bool (decide (0<=s)&&decide (s<=6))):=by kernel_rfl
theorem D91 (l:List (FuncId×D5))(s:Int)(fuel:Nat):C6 (en l) ⟨[],[]⟩ fuel false Tryz.f92 [.int .i64 s]=some (.bool (decide (0<=s)&&decide (s<=6))):=by kernel_rfl
theorem D26:D8 NGk yF 163 A4y:=by
 refine oI D7e A2 (h:=⟨[],[]⟩) Tryz.func163 rfl (by decide) ?_ ?_
 ·intro R xs k;simp only[A4y];split<;>rfl
 ·intro xs r h;simp only[A4y]at h;split at h
  ·exact⟨0,(E35 [] _ 0).trans h⟩
  ·cases h
theorem D5c:D8 NGk yF 92 A4y:=by
 refine oI D7e A2 (h:=⟨[],[]⟩) Tryz.func92 rfl (by decide) ?_ ?_
 ·intro R xs k;simp only[A4y];split<;>rfl
 ·intro xs r h;simp only[A4y]at h;split at h
  ·exact⟨0,(D91 [] _ 0).trans h⟩
  ·cases h
def G9 (a n c:Int)(s:List UInt8):Bool :=
 bif a==0 then n==0&&(c==0&&s==[])else
 bif a==1 then(n==0||n==1)&&(c==0&&s==[])else
 bif a==2 then c==0&&s==[]else
 bif a==3 then s==[]&&zY c else
 bif a==4 then n==0&&(c==0&&(decide (s.length<=200)&&Lib.validD s))else
 bif a==5 then n==0&&(c==0&&decide (s.length<=200))else false
def utO {R:Type}(s:List UInt8)(k:Bool->Option R):Option R:=bif decide (s.length<=1000000)then k (Lib.validD s)else none
noncomputable def E9a:List (FuncId×D5):=[(163,A4y),(257,mL)]
def eq4 (a a' n n' c c':Int)(s s':List UInt8):Bool:=a==a'&&(n==n'&&(c==c'&&(s==s'&&true)))
def xJ (a n c:Int)(s:List UInt8):Option PV :=
 bif a==0 then some (.bool (eq4 a 0 n 0 c 0 s []))else
 bif a==1 then some (.bool (eq4 a 1 n (IntKind.i64.wrap (BitVec.ofInt IntKind.i64.bits n &&& BitVec.ofInt IntKind.i64.bits 1).toNat) c 0 s []))else
 bif a==2 then some (.bool (eq4 a 2 n n c 0 s []))else
 bif a==3 then bif eq4 a 3 n n c c s []then some (.bool (zY c))else some (.bool false)else
 bif a==4 then bif eq4 a 4 n 0 c 0 s s&&decide ((s.length:Int)<=200)then utO s fun b=>some (.bool b)else some (.bool false)else
 bif a==5 then some (.bool (eq4 a 5 n 0 c 0 s s&&decide ((s.length:Int)<=200)))else some (.bool false)
theorem B81 (a n c:Int)(s:List UInt8):C6 (en E9a) ⟨[],[]⟩ 0 false Tryz.f231 [.agg [.int .i64 a,.int .i64 n,.int .i64 c,.str s]]=xJ a n c s:=by kernel_rfl
theorem E4f (n:Int):IntKind.i64.wrap (BitVec.ofInt IntKind.i64.bits n &&& BitVec.ofInt IntKind.i64.bits 1).toNat=n%2:=by
 have h:(BitVec.ofInt IntKind.i64.bits n &&& BitVec.ofInt IntKind.i64.bits 1).toNat=(n%2).toNat:=by
  rw[BitVec.toNat_and];have h1:(BitVec.ofInt IntKind.i64.bits 1).toNat=1:=rfl;have h2:(BitVec.ofInt IntKind.i64.bits n).toNat=(n%18446744073709551616).toNat:=BitVec.toNat_ofInt ..;rw[h1,h2,Nat.and_one_is_mod];omega
 rw[h,B2 (by omega) (by omega)];omega
theorem B9w (a n c:Int) (s:List UInt8) (hs:s.length<=1000000):xJ a n c s=some (.bool (G9 a n c s)):=by
 unfold xJ G9 eq4;simp only [Eo]
 have hl:decide ((s.length:Int)<=200)=decide (s.length<=200):=by congr 1;simp only [eq_iff_iff];omega
 have hn:(n ==n % 2)=(n ==0 ||n ==1):=by
  rw [Df];simp only [Cc,beq_iff_eq];omega
 rw [E4f,hn,hl]
 by_cases h0:a=0
 ·subst h0;rfl
 ·rw [show(a ==0)=false by simpa using h0]
  by_cases h1:a=1
  ·subst h1;rfl
  ·rw [show(a ==1)=false by simpa using h1]
   by_cases h2:a=2
   ·subst h2;simp
   ·rw [show(a ==2)=false by simpa using h2]
    by_cases h3:a=3
    ·subst h3;simp only [cond_false,cond_true,beq_self_eq_true,Ba]
     cases s == []<;>rfl
    ·rw [show(a ==3)=false by simpa using h3]
     by_cases h4:a=4
     ·subst h4;simp only [cond_false,cond_true,beq_self_eq_true,Ba,Eo];unfold utO;rw [decide_eq_true hs]
      cases n ==0<;>cases c ==0<;>cases decide (s.length<=200)<;>rfl
     ·rw [show(a ==4)=false by simpa using h4]
      by_cases h5:a=5
      ·subst h5;simp only [cond_false,cond_true,beq_self_eq_true,Ba,Eo]
       cases n ==0<;>cases c ==0<;>rfl
      ·rw [show(a ==5)=false by simpa using h5];rfl
def fK:D5:=⟨fun xs k=>match xs with|[.agg [.int .i64 a,.int .i64 n,.int .i64 c,.str s]]=>bif decide (s.length<=1000000)then k (.bool (G9 a n c s))else none|_=>none,false⟩
theorem C5w:D8 NGk yF 231 fK:=by
 refine oI D7e (A0 D26 (A0 D17 A2)) (h:=⟨[],[]⟩) Tryz.func231 rfl (by decide) ?_ ?_
 ·intro R xs k;simp only[fK];split
  ·exact J7
  ·rfl
 ·intro xs r h;simp only[fK]at h;split at h
  ·rename_i a n c s;rcases hb:decide (s.length<=1000000)with _|_<;>rw[hb]at h
   ·cases h
   ·simp only[decide_eq_true_eq]at hb;exact⟨0,(B81 a n c s).trans ((B9w a n c s hb).trans h)⟩
  ·cases h
noncomputable def E05:List (FuncId×D5):=[(92,A4y),(93,C37)]
def rr4 (a n c:Int)(s:List UInt8):Option PV :=
 bif !decide (200<(s.length:Int))&&a==4 then utO s fun b=>bif !b then some (.bool false)else some (.bool (eq4 a a n 0 c 0 s s))
 else bif !decide (200<(s.length:Int))&&a==4 then none else bif decide (200<(s.length:Int))||(a==4&&false)then some (.bool false)else some (.bool (eq4 a a n 0 c 0 s s))
def tU (a n c:Int)(s:List UInt8):Option PV :=
 bif a==0 then some (.bool (eq4 a a n 0 c 0 s []))else
 bif a==1 then bif !(n==0)&&!(n==1)then some (.bool false)else some (.bool (eq4 a a n n c 0 s []))else
 bif a==2 then some (.bool (eq4 a a n n c 0 s []))else
 bif a==3 then bif !zY c then some (.bool false)else some (.bool (eq4 a a n n c c s []))else
 bif a==4 then bif a==4 then rr4 a n c s else some (.bool false)else
 bif a==5 then rr4 a n c s else some (.bool false)
theorem B9t (a n c:Int)(s:List UInt8):C6 (en E05) ⟨[],[]⟩ 0 false Tryz.f47 [.agg [.int .i64 a,.int .i64 n,.int .i64 c,.str s]]=tU a n c s:=by kernel_rfl
theorem B3e (a n c:Int) (s:List UInt8) (hs:s.length<=1000000):tU a n c s=some (.bool (G9 a n c s)):=by
 unfold tU G9 rr4 utO eq4;simp only [Eo]
 have hl:decide (200 < (s.length:Int))=!decide (s.length<=200):=by
  rw [Df];simp;omega
 rw [hl,decide_eq_true hs]
 by_cases h0:a=0
 ·subst h0;rfl
 ·rw [show(a ==0)=false by simpa using h0]
  by_cases h1:a=1
  ·subst h1;simp only [cond_false,cond_true,beq_self_eq_true,Ba]
   cases n ==0<;>cases n ==1<;>rfl
  ·rw [show(a ==1)=false by simpa using h1]
   by_cases h2:a=2
   ·subst h2;simp
   ·rw [show(a ==2)=false by simpa using h2]
    by_cases h3:a=3
    ·subst h3;simp only [cond_false,cond_true,beq_self_eq_true,Ba]
     cases s == []<;>cases zY c<;>rfl
    ·rw [show(a ==3)=false by simpa using h3]
     by_cases h4:a=4
     ·subst h4;simp only [cond_false,cond_true,beq_self_eq_true,Ba,Eo]
      cases n ==0<;>cases c ==0<;>cases decide (s.length<=200)<;>cases Lib.validD s<;>rfl
     ·rw [show(a ==4)=false by simpa using h4]
      by_cases h5:a=5
      ·subst h5;simp only [cond_false,cond_true,beq_self_eq_true,Ba,Eo]
       cases n ==0<;>cases c ==0<;>cases decide (s.length<=200)<;>rfl
      ·rw [show(a ==5)=false by simpa using h5];rfl
theorem C8d:D8 NGk yF 47 fK:=by
 refine oI D7e (A0 D5c (A0 F2o A2)) (h:=⟨[],[]⟩) Tryz.func47 rfl (by decide) ?_ ?_
 ·intro R xs k;simp only[fK];split
  ·exact J7
  ·rfl
 ·intro xs r h;simp only[fK]at h;split at h
  ·rename_i a n c s;rcases hb:decide (s.length<=1000000)with _|_<;>rw[hb]at h
   ·cases h
   ·simp only[decide_eq_true_eq]at hb;exact⟨0,(B9t a n c s).trans ((B3e a n c s hb).trans h)⟩
  ·cases h
end Go.Proofs.YtkpfigikffphdaaGreatDoor
end
section
set_option maxRecDepth 100000
namespace Go.Proofs.YtkpfigikffphdaaGreatDoor
open Go.RowKit
def NGc:Nat:=max NGe NGk
noncomputable def Wc (w:World):Prop:=We w/\yF w
theorem F1g:Y0 NGc Wc:=fun w w' h hW=>⟨F7b w w' (fun b hb=>h b (by unfold NGc;omega)) hW.1,D7e w w' (fun b hb=>h b (by unfold NGc;omega)) hW.2⟩
theorem B36 {f:FuncId}{p:D5}(hp:D8 sN Wd f p):D8 NGc Wc f p where
 nat:=hp.nat
 call:=fun M xs vs r hW hng=>hp.call M xs vs r hW.1.1 (Aw D6s (by unfold NGc at hng;omega))
theorem F3q {f:FuncId}{p:D5}(hp:D8 NGe We f p):D8 NGc Wc f p where
 nat:=hp.nat
 call:=fun M xs vs r hW hng=>hp.call M xs vs r hW.1 (by unfold NGc at hng;omega)
theorem C29 {f:FuncId}{p:D5}(hp:D8 NGk yF f p):D8 NGc Wc f p where
 nat:=hp.nat
 call:=fun M xs vs r hW hng=>hp.call M xs vs r hW.2 (by unfold NGc at hng;omega)
def tyB (k s:Int):Bool:=bif k==3 then zY s else decide (1<=k)&&decide (k<=5)&&s==0
def zA:D5:=⟨fun xs k=>match xs with|[.agg [.int .i64 a,.int .i64 b]]=>k (.bool (tyB a b))|_=>none,false⟩
theorem A5p:zA.nat:=by
 intro R xs k;simp only[zA];split<;>rfl
theorem E1r (a b:Int):C6 (en [(163,A4y)]) ⟨[],[]⟩ 0 false Tryz.f82 [.agg [.int .i64 a,.int .i64 b]]=
 bif a==3 then some (.bool (zY b))else some (.bool (decide (1<=a)&&decide (a<=5)&&b==0)):=by kernel_rfl
theorem E9m:D8 NGc Wc 82 zA:=by
 refine oI F1g (A0 (C29 D26) A2) (h:=⟨[],[]⟩) Tryz.func82 rfl (by decide) A5p ?_;intro xs r h;simp only[zA]at h;split at h
 ·rename_i a b;refine⟨0,(E1r a b).trans ?_⟩;rw[<-h];unfold tyB
  cases a==3<;>rfl
 ·cases h
def E7r (a b:Int):Option PV :=
 bif a==1 then bif a==1 then some (.bool (b==0))else bif a==3 then some (.bool (zY b))else some (.bool false)
 else bif a==2 then bif a==2 then some (.bool (b==0))else bif a==3 then some (.bool (zY b))else some (.bool false)
 else bif a==4 then bif a==4 then some (.bool (b==0))else bif a==3 then some (.bool (zY b))else some (.bool false)
 else bif a==5 then some (.bool (b==0))else bif a==3 then some (.bool (zY b))else some (.bool false)
theorem D2t (a b:Int):C6 (en [(92,A4y)]) ⟨[],[]⟩ 0 false Tryz.f50 [.agg [.int .i64 a,.int .i64 b]]=E7r a b:=by kernel_rfl
theorem E62 :D8 NGc Wc 50 zA:=by
 refine oI F1g (A0 (C29 D5c) A2) (h:=⟨[],[]⟩) Tryz.func50 rfl (by decide) A5p ?_;intro xs r h;simp only[zA]at h;split at h
 ·rename_i a b;refine⟨0,(D2t a b).trans ?_⟩;rw[<-h];unfold tyB E7r
  by_cases h1:a=1
  ·subst h1;rfl
  ·by_cases h2:a=2
   ·subst h2;rfl
   ·by_cases h3:a=3
    ·subst h3;rfl
    ·by_cases h4:a=4
     ·subst h4;rfl
     ·by_cases h5:a=5
      ·subst h5;rfl
      ·rw[show(a==1)=false by simpa using h1,show(a==2)=false by simpa using h2,show(a==3)=false by simpa using h3,show(a==4)=false by simpa using h4,show(a==5)=false by simpa using h5]
       have:(decide (1<=a)&&decide (a<=5))=false:=by
        rw[Bool.eq_false_iff];simp only[ne_eq,Ae,decide_eq_true_eq];omega
       rw[this];rfl
 ·cases h
end Go.Proofs.YtkpfigikffphdaaGreatDoor
set_option maxRecDepth 100000
namespace Go.Proofs.YtkpfigikffphdaaGreatDoor
open Go.RowKit
theorem F1d {b:UInt8}(h:gW b=true):b.toNat<128:=by
 simp only[gW,Ae,decide_eq_true_eq]at h;omega
theorem C4k {n sc:Int}(hn:mG n=true):(∀b∈tG n sc,b.toNat<128)/\(tG n sc).length<=60:=by
 rw[aK]at hn;unfold tG
 cases hs:dZ sc
 ·exact⟨fun b hb=>(by cases hb),by simp⟩
 ·rw[iS]at hs;rw[cond_true];have hd:=mF (N:=n.natAbs) (by omega);have hp:=(yC (k:=sc.toNat) hd.1).1;have hpl:=A9j (dS n.natAbs) sc.toNat;have h4:=hd.2.2.2.1;have hall:∀b∈nF (dS n.natAbs) sc.toNat,b.toNat<128:=fun b hb=>F1d (Bg.1 hp b hb);unfold xA A3y;constructor
  ·intro b hb;rw[List.mem_append]at hb;rcases hb with hb|hb
   ·cases hm:decide (n<0)<;>rw[hm]at hb
    ·cases hb
    ·simp only[cond_true,Ey]at hb;subst hb;decide
   ·cases hk:decide (0<sc.toNat)<;>rw[hk]at hb
    ·exact hall b hb
    ·simp only[cond_true,List.mem_append,Ey]at hb;rcases hb with(hb|hb)|hb
     ·exact hall b (List.mem_of_mem_take hb)
     ·subst hb;decide
     ·exact hall b (List.mem_of_mem_drop hb)
  ·have hm:(bif decide (n<0)then [45]else []:List UInt8).length<=1:=by cases decide (n<0)<;>simp
   rw[Af]
   cases decide (0<sc.toNat)
   ·rw[cond_false];omega
   ·simp only[cond_true,Af,Cf,Ax,Ac,Ai];omega
theorem C54 {n sc:Int} (hn:mG n=true) (hs:dZ sc=true):S5 (tG n sc)=some (n,sc.toNat):=by
 rw [aK]at hn
 have e:tG n sc=xA n.natAbs (decide (n < 0)) sc.toNat:=by unfold tG;rw [hs];rfl
 rw [iS]at hs
 have hsg:gD (n.natAbs:Int) (decide (n < 0))=n:=by
  unfold gD
  by_cases k:n < 0
  ·rw [decide_eq_true k,cond_true];omega
  ·rw [decide_eq_false k,cond_false];omega
 have hp:=B4v (N:=n.natAbs) (k:=sc.toNat) (m:=decide (n < 0)) (by omega) (by omega) (by rw [hsg];unfold T3;rw [decide_eq_false (by omega),decide_eq_false (by omega)];rfl)
  (by rw [hsg];by_cases k:n < 0
      ·rw [show(n ==0)=false by rw [beq_eq_false_iff_ne];omega];rfl
      ·rw [decide_eq_false k,Ch])
 rw [e,hp,hsg]
end Go.Proofs.YtkpfigikffphdaaGreatDoor
set_option maxRecDepth 100000
namespace Go.Proofs.YtkpfigikffphdaaGreatDoor
open Go.RowKit
end Go.Proofs.YtkpfigikffphdaaGreatDoor
set_option maxRecDepth 100000
namespace Go.Proofs.YtkpfigikffphdaaGreatDoor
open Go.RowKit
end Go.Proofs.YtkpfigikffphdaaGreatDoor
end
section
set_option maxRecDepth 100000
namespace Go.Proofs.YtkpfigikffphdaaGreatDoor
open Go.RowKit
def F6:Nat:=max NGc (max (2+1) (0+1))
def D3o (w:World):Prop:=∃m,w.cell? ⟨2,0,none⟩=some (.int .i64 m)
def A1u (w:World):Prop:=Lib.TabIs Tryz.prog w "strings.asciiSpace" .u8 Lib.asciiSpaceTab
noncomputable def Ws (w:World):Prop:=Wc w/\D3o w/\A1u w
theorem E7s:NGc<=F6:=by unfold F6;omega
theorem D4:Y0 F6 Ws:=fun w w' h hW=>by
 refine⟨F1g w w' (fun b hb=>h b (As hb E7s)) hW.1,?_,?_⟩
 ·obtain⟨m,hm⟩:=hW.2.1;refine⟨m,?_⟩;unfold World.cell? at hm ⊢;rw[show w'.heap[2]? =w.heap[2]? from h _ (by unfold F6;omega)];exact hm
 ·have:=hW.2.2;unfold A1u Lib.TabIs World.var? at this ⊢;rw[show Tryz.prog.globalNamed "strings.asciiSpace" =some 0 by kernel_rfl,Aa]at this ⊢;rw[show w'.heap[0]? =w.heap[0]? from h _ (by unfold F6;omega)];exact this
theorem sC {f:FuncId}{p:D5}(hp:D8 NGc Wc f p):D8 F6 Ws f p where
 nat:=hp.nat
 call:=fun M xs vs r hW hng=>hp.call M xs vs r hW.1 (Aw E7s hng)
theorem B8x {NG:Nat}{W:World->Prop}{f:FuncId}{fn:Func}(hf:Tryz.prog.funcs[f]? =some fn)(hb:fn.body.isSome=true)(hname:fn.name≠ "runtime.NumGoroutine"){p:D5}(hn:p.nat)(ho:p.own=false)
  (hrun:∀(xs:List PV) (r:PV) (M:C4) (vs:List Value),W M.w->p.F xs (R:=PV) some=some r->K9 M xs vs->Calls Tryz.prog f vs.toArray M.w fun e w'=>∃v,e=.returned v/\∃U',L4 M ⟨w',U',M.y⟩ none/\B7 ⟨w',U',M.y⟩ r v):D8 NG W f p where
 nat:=hn
 call:=by
  intro M xs vs r hW hng hg hr hF
  have hb':¬fn.body=none:=by intro e;rw[e]at hb;cases hb
  refine .inr ⟨?_,(hrun xs r M vs hW hF hr).mono ?_⟩
  ·show(callFunc f vs.toArray).run Tryz.prog M.w=_;simp[callFunc,hf];rw[if_neg hname,if_neg hb']
  ·rintro e w' ⟨v,rfl,U',h1,h2⟩
   exact⟨v,rfl,U',h1,h2,fun h=>by rw[ho]at h;cases h⟩
def C0w:D5:=⟨fun xs k=>match xs with|[.str s,.str a,.str b]=>bif decide (s.length<=100000)&&(decide (1<=a.length)&&decide (b.length<=100))then k (.str (Lib.replaceAll s a b))else none|_=>none,false⟩
theorem F2l:D8 F6 Ws 215 C0w:=by
 refine W7 Tryz.func215 (by kernel_rfl) (by decide) ?_ rfl ?_
 ·intro R xs k;simp only[C0w];split
  ·exact J7
  ·rfl
 ·intro xs r M vs hW h hr;simp only[C0w]at h;split at h
  ·rename_i s a b;obtain⟨hb,h⟩:=B8 h;injection h with h;subst h;simp only[Ae,decide_eq_true_eq]at hb;obtain⟨v1,v2,v3,rfl,h1,h2,h3⟩:=F4p hr;simp only[B7]at h1 h2 h3;subst h1 h2 h3;obtain⟨m,hm⟩:=hW.2.1;refine(Any.strings_ReplaceAll Tryz.lays155 Tryz.Builder_Extra_155 ⟨s.toArray⟩ ⟨a.toArray⟩ ⟨b.toArray⟩ m M.w (by show s.toArray.size<_;rw[Dd];omega) hm (by show 1<=a.toArray.size;rw[Dd];omega) ?_).mono ?_
   ·have hc:=Lib.countB_le ⟨a.toArray⟩ (by show 1<=a.toArray.size;rw[Dd];omega) _ (⟨s.toArray⟩:ByteArray) (Ak _);have e1:(⟨s.toArray⟩:ByteArray).size=s.length:=Dd;have e2:(⟨b.toArray⟩:ByteArray).size=b.length:=Dd;rw[e1]at hc ⊢;rw[e2];have:Lib.countB ⟨s.toArray⟩ ⟨a.toArray⟩ * b.length<=100000 * 100:=Nat.mul_le_mul (by omega) hb.2.2;omega
   ·rintro e w' ⟨rfl,hbl⟩
    exact⟨_,rfl,hbl,fun U' _=>rfl⟩
  ·cases h
def D54:D5:=⟨fun xs k=>match xs with|[.str s,.str [c]]=>k (.int .i64 (Lib.countByte s c))|_=>none,false⟩
theorem F06:D8 F6 Ws 263 D54:=by
 refine W7 Tryz.func263 (by kernel_rfl) (by decide) ?_ rfl ?_
 ·intro R xs k;simp only[D54];split<;>rfl
 ·intro xs r M vs hW h hr;simp only[D54]at h;split at h
  ·rename_i s c;injection h with h;subst h;obtain⟨v1,v2,rfl,h1,h2⟩:=A7a hr;simp only[B7]at h1 h2;subst h1 h2;refine(Any.strings_Count_one Tryz.lays138 ⟨s.toArray⟩ c M.w).mono ?_
   rintro e w' ⟨rfl,rfl⟩
   exact⟨_,rfl,Below.refl _ _,fun U' _=>rfl⟩
  ·cases h
def D4c:D5:=⟨fun xs k=>match xs with|[.str s,.int .u8 c]=>k (.int .i64 (Lib.indexByte s c.toNat.toUInt8))|_=>none,false⟩
theorem F05:D8 F6 Ws 288 D4c:=by
 refine W7 Tryz.func288 (by kernel_rfl) (by decide) ?_ rfl ?_
 ·intro R xs k;simp only[D4c];split<;>rfl
 ·intro xs r M vs hW h hr;simp only[D4c]at h;split at h
  ·rename_i s c;injection h with h;subst h;obtain⟨v1,v2,rfl,h1,h2⟩:=A7a hr;simp only[B7]at h1 h2;subst h1 h2;refine(Any.strings_IndexByte Tryz.lays137 ⟨s.toArray⟩ c M.w).mono ?_
   rintro e w' ⟨rfl,rfl⟩
   exact⟨_,rfl,Below.refl _ _,fun U' _=>rfl⟩
  ·cases h
def D89:D5:=⟨fun xs k=>match xs with|[.str s,.str [c]]=>k (.bool (decide (0<=Lib.indexByte s c)))|_=>none,false⟩
theorem E8m:D8 F6 Ws 223 D89:=by
 refine W7 Tryz.func223 (by kernel_rfl) (by decide) ?_ rfl ?_
 ·intro R xs k;simp only[D89];split<;>rfl
 ·intro xs r M vs hW h hr;simp only[D89]at h;split at h
  ·rename_i s c;injection h with h;subst h;obtain⟨v1,v2,rfl,h1,h2⟩:=A7a hr;simp only[B7]at h1 h2;subst h1 h2;refine(Any.strings_Contains_one Tryz.lays144 ⟨s.toArray⟩ c M.w).mono ?_
   rintro e w' ⟨rfl,rfl⟩
   exact⟨_,rfl,Below.refl _ _,fun U' _=>rfl⟩
  ·cases h
theorem C8i (l:List (List UInt8)):(l.flatMap pB).length=l.length * 1:=by
 induction l with
 |nil=>rfl
 |cons a l ih=>rw[Bo,Af,ih,Ac];show 1+l.length * 1=_;omega
theorem A74 (M:C4):∀l:List (List UInt8),D7 M (l.flatMap pB) (l.map fun x=>Value.string ⟨x.toArray⟩)
 |[]=>rfl
 |a::l=>⟨_,_,rfl,rfl,rfl,A74 M l⟩
def A32 (s:List UInt8):Option (Option Bool×Nat×List PV):=bif decide (s.length<=100000)&&s.all (fun b=>decide (b.toNat<128))then some (some false,(Lib.fields s).length,(Lib.fields s).flatMap pB)else none
theorem xW:∀(l cur:List UInt8),(Lib.fieldsGo cur l).length<=l.length+1
 |[],cur=>by rw[Lib.fieldsGo];split<;>simp
 |b::l,cur=>by
  rw[Lib.fieldsGo];have h1:=xW l [];have h2:=xW l (cur++[b]);split
  ·split
   ·simp only[Ac];omega
   ·simp only[Ac];omega
  ·simp only[Ac];omega
theorem D23:D8 F6 Ws 198 (tWs A32):=by
 refine B8x Tryz.func198 (by kernel_rfl) (by decide) ?_ rfl ?_
 ·intro R xs k;simp only[tWs];split
  ·rw[Ad];rfl
  ·rfl
 ·intro xs r M vs hW h hr;simp only[tWs]at h;split at h
  ·rename_i s;obtain⟨q,hq,h⟩:=Ab.1 h;injection h with h;subst h;unfold A32 at hq;obtain⟨hb,hq⟩:=B8 hq;injection hq with hq;subst hq;simp only[Ae,decide_eq_true_eq,Bg]at hb;obtain⟨v1,rfl,h1⟩:=A23 hr;simp only[B7]at h1;subst h1;have hl:(Lib.fields s).length<=s.length+1:=xW s [];refine(Any.strings_Fields Tryz.lays157 (by kernel_rfl) (by kernel_rfl) ⟨s.toArray⟩ M.w (by show s.toArray.size<_;rw[Dd];omega) (fun j b hj=>?_) hW.2.2).mono ?_
   ·exact hb.2 b (List.mem_of_getElem? hj)
   ·rintro e w' ⟨rfl,rfl⟩
    refine⟨_,rfl,fun b=>if b=M.w.heap.size then(Lib.fields s).length else M.U b,L4.mk0 (Below.alloc (Below.refl _ _) (Ak _) _) (fun b hb=>if_neg (Nat.ne_of_lt hb)),?_⟩;simp only[B7];refine⟨_,_,(Lib.fields s).map fun x=>Value.string ⟨x.toArray⟩,rfl,Ak _,by unfold maxLen;omega,fun b hb=>(by cases hb;rfl),fun h=>(by cases h),C8i _,A74 _ _,Or.inr ⟨_,_,rfl,fun j u hu=>?_⟩⟩;refine⟨?_,?_⟩
    ·rw[Bm]
     have hp:eT (M.w.alloc (.cells ((Lib.fields s).map fun x=>Value.string ⟨x.toArray⟩).toArray (Tryz.lays157_ren.t 9))) M.w.heap.size (Tryz.lays157_ren.t 9) ((Lib.fields s).map fun x=>Value.string ⟨x.toArray⟩):=⟨[],by
      show(M.w.heap.push _)[M.w.heap.size]? =_
      rw[Array.getElem?_push_size,Bf]⟩
     exact hp.cell hu
    ·have:=(Aj.1 hu).1;rw[List.length_map]at this
     show 0+j<if M.w.heap.size=M.w.heap.size then _ else _
     rw[if_pos rfl];omega
  ·cases h
noncomputable def fIs:Func:=Tryz.f230
def hIs:B4:=⟨[],[(0,⟨[(0,false),(1,false),(7,false),(8,false)],[]⟩)]⟩
def E5e (nl:Option Bool)(n:Nat)(c:List PV)(s:List UInt8)(L i:Int):St:=frame 19 [(0,(.sl nl 1 n c,0)),(1,(.str s,0)),(7,(.int .i64 L,0)),(8,(.int .i64 i,0))] []
noncomputable def isL (fu n:Nat)(st:St):Option PV:=N3 (en []) hIs fu false fIs [1,0,1,0] 0 n st
def ixT {R:Type}(n:Nat)(c:List PV)(i:Int)(K:List UInt8->Option R):Option R:=bif decide (0<=i)&&decide (i<(n:Int))then((c.drop (i.toNat * 1)).take 1).head?.bind fun v=>v.asStr.bind K else none
theorem D1g (a:List UInt8):(pB a).length=1:=rfl
theorem D3r (l:List PV)(a:List UInt8)(h:stG l=some a):l=pB a:=by
 unfold stG at h;split at h
 ·injection h with h;subst h;rfl
 ·cases h
theorem B9f {R:Type}{l:List (List UInt8)}{i:Nat}{x:List UInt8}{K:List UInt8->Option R}(h:l[i]? =some x):ixT l.length (l.flatMap pB) (i:Int) K=K x:=by
 have:=(Aj.1 h).1;unfold ixT;rw[A4 (by rw[decide_eq_true (by omega),decide_eq_true (by omega)];rfl),At,jK D1g h];rfl
theorem E54 (fu:Nat)(nl:Option Bool)(n:Nat)(c:List PV)(s:List UInt8):C6 (en []) hIs fu false fIs [.sl nl 1 n c,.str s]=isL fu fu (E5e nl n c s (n:Int) 0):=L9.trans (by kernel_rfl)
theorem C0h (fu:Nat)(nl:Option Bool)(n:Nat)(c:List PV)(s:List UInt8)(L i:Int)(K:St->Option PV) :
 P1 (en []) hIs fu false fIs [1,0,1,0] (E5e nl n c s L i) (fun st=>C2 (hIs.loop.lookup 0) st K)=
 bif decide (i<L)then ixT n c i fun a=>bif s==a then some (.int .i64 i)else K (E5e nl n c s L (IntKind.i64.wrap (i+1)))else some (.int .i64 (-1)):=by kernel_rfl
theorem C0c (fu:Nat)(nl:Option Bool)(s:List UInt8)(l:List (List UInt8))(hl:l.length<=1000000):∀(k i n:Nat),i+k=l.length->k<n->
  isL fu n (E5e nl l.length (l.flatMap pB) s (l.length:Int) (i:Int))=some (.int .i64 (isI (l.drop i) s i))
 |k,i,0,_,h=>by omega
 |0,i,n+1,hi,hn=>by
  unfold isL;rw[B6,C0h,B1 (decide_eq_false (by omega)),Bb (by omega)];rfl
 |k+1,i,n+1,hi,hn=>by
  have hc:=Ag (l:=l) (i:=i) (by omega);rw[Av (show i<l.length by omega)];generalize l[i]=a at hc;have ih:=C0c fu nl s l hl k (i+1) n (by omega) (by omega);unfold isL at ih ⊢;rw[B6,C0h,A4 (decide_eq_true (by omega)),B9f hc,B2 (by omega) (by omega),isI]
  cases s==a
  ·exact ih
  ·rfl
theorem C0o:∀(l:List (List UInt8)) (s:List UInt8) (i:Int),0<=i->decide (0<=isI l s i)=l.any fun a=>s==a
 |[],_,_,_=>rfl
 |a::l,s,i,h=>by
  rw[isI,Cj]
  cases s==a
  ·exact C0o l s (i+1) (by omega)
  ·exact decide_eq_true h
theorem D66 {NG:Nat}{W:World->Prop}(hW:Y0 NG W):D8 NG W 230 (tCi B9h):=by
 refine oI hW A2 (h:=hIs) Tryz.func230 rfl (by decide) ?_ ?_
 ·intro R xs k;simp only[tCi];split
  ·split
   ·rw[Ad];rfl
   ·rfl
  ·rfl
 ·intro xs r h;simp only[tCi]at h;split at h
  ·rename_i nl z n c s;obtain⟨hz,h⟩:=A5 h;subst hz;obtain⟨b,hb,h⟩:=Ab.1 h;injection h with h;subst h;unfold B9h at hb;obtain⟨l,h1,hb⟩:=Ab.1 hb;obtain⟨hg,hb⟩:=B8 hb;injection hb with hb;subst hb;obtain⟨rfl,rfl⟩:=T7 D3r h1;exact⟨l.length+1,(E54 _ nl _ _ s).trans (C0c _ nl s l (of_decide_eq_true hg) l.length 0 _ (by omega) (by omega))⟩
  ·cases h
theorem F07 (nl:Option Bool)(n:Nat)(c:List PV)(s:List UInt8):C6 (en [(230,tCi B9h)]) ⟨[],[]⟩ 0 false Tryz.f184 [.sl nl 1 n c,.str s]=(B9h n c s).bind fun i=>some (.bool (decide (0<=i))):=by kernel_rfl
theorem B0e {NG:Nat}{W:World->Prop}(hW:Y0 NG W):D8 NG W 184 (tCn A2r):=by
 refine oI hW (A0 (D66 hW) A2) (h:=⟨[],[]⟩) Tryz.func184 rfl (by decide) ?_ ?_
 ·intro R xs k;simp only[tCn];split
  ·split
   ·rw[Ad];rfl
   ·rfl
  ·rfl
 ·intro xs r h;simp only[tCn]at h;split at h
  ·rename_i nl z n c s;obtain⟨hz,h⟩:=A5 h;subst hz;obtain⟨b,hb,h⟩:=Ab.1 h;injection h with h;subst h;unfold A2r at hb;obtain⟨l,h1,hb⟩:=Ab.1 hb;obtain⟨hg,hb⟩:=B8 hb;injection hb with hb;subst hb;refine⟨0,(F07 nl n c s).trans ?_⟩;unfold B9h;rw[h1,Aa,hg,cond_true,Aa,C0o l s 0 (by omega)];rfl
  ·cases h
theorem X3:D0k F6 Ws A32 where
 w:=D4
 idx:=D66 D4
 con:=B0e D4
 fields:=D23
 bool:=C0 D4 A2 Tryz.func277 rfl (by decide)
theorem O3 {NG:Nat}{W:World->Prop}{f:FuncId}{p q:D5}(hq:D8 NG W f q)(hn:p.nat)(ho:p.own=false)(h:∀xs r,p.F xs (R:=PV) some=some r->q.F xs (R:=PV) some=some r):D8 NG W f p where
 nat:=hn
 call:=fun M xs vs r hW hng hg hr hF=>by
  have ho':∀{P:Prop},p.own=true->P:=fun h=>by rw[ho]at h;cases h
  rcases hq.call M xs vs r hW hng hg hr (h xs r hF)with⟨v,w',h1,U',h2,h3,-⟩|⟨h1,h2⟩
  ·exact .inl ⟨v,w',h1,U',h2,h3,ho'⟩
  ·exact .inr ⟨h1,h2.mono fun e w' ⟨v,k1,U',k2,k3,_⟩=>⟨v,k1,U',k2,k3,ho'⟩⟩
section
variable {NG:Nat} {W:World->Prop}
def tSB (f:List UInt8->Option (List UInt8×Bool)):D5:=⟨fun xs k=>match xs with|[.str s]=>(f s).bind fun r=>k (.tuple [.str r.1,.bool r.2])|_=>none,false⟩
theorem D9o (f:List UInt8->Option (List UInt8×Bool)):(tSB f).nat:=by
 intro R xs k;simp only[tSB];split
 ·rw[Ad];rfl
 ·rfl
theorem A8d (hW:Y0 NG W){l:List (FuncId×D5)}(hl:E0 NG W l){lh:List (FuncId×H7)}(hh:I9 NG W lh){h:B4}{f:FuncId}{fn:Func}(hf:Tryz.prog.funcs[f]? =some fn)(hb:fn.body.isSome=true)(hname:fn.name≠ "runtime.NumGoroutine"){g:List UInt8->Option (List UInt8×Bool)}(hr:∀(s:List UInt8) r,(g s)=some r->∃fu,C6 (F8 l lh []) h fu false fn [.str s]=some (.tuple [.str r.1,.bool r.2])):D8 NG W f (tSB g) :=
 bG hW hl hh B3 (h:=h) hf hb hname (D9o g) fun xs r h=>by
  simp only[tSB]at h;split at h
  ·obtain⟨q,hq,h3⟩:=Ab.1 h;obtain⟨fu,hr⟩:=hr _ _ hq;exact⟨fu,hr.trans h3⟩
  ·cases h
def B4e (f:List UInt8->List UInt8->Option (List UInt8×Bool)):D5:=⟨fun xs k=>match xs with|[.str s,.str t]=>(f s t).bind fun r=>k (.tuple [.str r.1,.bool r.2])|_=>none,false⟩
theorem B5m (f:List UInt8->List UInt8->Option (List UInt8×Bool)):(B4e f).nat:=by
 intro R xs k;simp only[B4e];split
 ·rw[Ad];rfl
 ·rfl
def tS3 (f:List UInt8->List UInt8->List UInt8->Option (List UInt8)):D5:=⟨fun xs k=>match xs with|[.str s,.str t,.str u]=>(f s t u).bind fun r=>k (.str r)|_=>none,false⟩
theorem E3o (f:List UInt8->List UInt8->List UInt8->Option (List UInt8)):(tS3 f).nat:=by
 intro R xs k;simp only[tS3];split
 ·rw[Ad];rfl
 ·rfl
def D7d (f:List UInt8->List UInt8->Option (Int)):D5:=⟨fun xs k=>match xs with|[.str s,.str t]=>(f s t).bind fun r=>k (.int .i64 r)|_=>none,false⟩
theorem D6l (f:List UInt8->List UInt8->Option (Int)):(D7d f).nat:=by
 intro R xs k;simp only[D7d];split
 ·rw[Ad];rfl
 ·rfl
def tBx (f:List UInt8->Int->Option (Int)):D5:=⟨fun xs k=>match xs with|[.str s,.int .u8 c]=>(f s c).bind fun r=>k (.int .i64 r)|_=>none,false⟩
theorem E0p (f:List UInt8->Int->Option (Int)):(tBx f).nat:=by
 intro R xs k;simp only[tBx];split
 ·rw[Ad];rfl
 ·rfl
def D73 (f:List UInt8->List UInt8->Option (Bool)):D5:=⟨fun xs k=>match xs with|[.str s,.str t]=>(f s t).bind fun r=>k (.bool r)|_=>none,false⟩
theorem D2o (f:List UInt8->List UInt8->Option (Bool)):(D73 f).nat:=by
 intro R xs k;simp only[D73];split
 ·rw[Ad];rfl
 ·rfl
def tSv (f:List UInt8->Option (cX)):D5:=⟨fun xs k=>match xs with|[.str s]=>(f s).bind fun r=>k (.agg [.int .i64 r.kind,.int .i64 r.n,.int .i64 r.scale,.str r.s])|_=>none,false⟩
theorem E20 (f:List UInt8->Option (cX)):(tSv f).nat:=by
 intro R xs k;simp only[tSv];split
 ·rw[Ad];rfl
 ·rfl
theorem E52 (hW:Y0 NG W){l:List (FuncId×D5)}(hl:E0 NG W l){lh:List (FuncId×H7)}(hh:I9 NG W lh){h:B4}{f:FuncId}{fn:Func}(hf:Tryz.prog.funcs[f]? =some fn)(hb:fn.body.isSome=true)(hname:fn.name≠ "runtime.NumGoroutine"){g:List UInt8->Option (cX)}(hr:∀(s:List UInt8) r,(g s)=some r->∃fu,C6 (F8 l lh []) h fu false fn [.str s]=some (.agg [.int .i64 r.kind,.int .i64 r.n,.int .i64 r.scale,.str r.s])):D8 NG W f (tSv g) :=
 bG hW hl hh B3 (h:=h) hf hb hname (E20 g) fun xs r h=>by
  simp only[tSv]at h;split at h
  ·obtain⟨q,hq,h3⟩:=Ab.1 h;obtain⟨fu,hr⟩:=hr _ _ hq;exact⟨fu,hr.trans h3⟩
  ·cases h
def tvB (f:Int->Int->Int->List UInt8->Option (Bool)):D5:=⟨fun xs k=>match xs with|[.agg [.int .i64 a,.int .i64 n,.int .i64 c,.str s]]=>(f a n c s).bind fun r=>k (.bool r)|_=>none,false⟩
theorem A83 (f:Int->Int->Int->List UInt8->Option (Bool)):(tvB f).nat:=by
 intro R xs k;simp only[tvB];split
 ·rw[Ad];rfl
 ·rfl
theorem E2h (hW:Y0 NG W){l:List (FuncId×D5)}(hl:E0 NG W l){lh:List (FuncId×H7)}(hh:I9 NG W lh){h:B4}{f:FuncId}{fn:Func}(hf:Tryz.prog.funcs[f]? =some fn)(hb:fn.body.isSome=true)(hname:fn.name≠ "runtime.NumGoroutine"){g:Int->Int->Int->List UInt8->Option (Bool)}(hr:∀(a n c:Int) (s:List UInt8) r,(g a n c s)=some r->∃fu,C6 (F8 l lh []) h fu false fn [.agg [.int .i64 a,.int .i64 n,.int .i64 c,.str s]]=some (.bool r)):D8 NG W f (tvB g) :=
 bG hW hl hh B3 (h:=h) hf hb hname (A83 g) fun xs r h=>by
  simp only[tvB]at h;split at h
  ·obtain⟨q,hq,h3⟩:=Ab.1 h;obtain⟨fu,hr⟩:=hr _ _ _ _ _ hq;exact⟨fu,hr.trans h3⟩
  ·cases h
def tvS (f:Int->Int->Int->List UInt8->Option (List UInt8)):D5:=⟨fun xs k=>match xs with|[.agg [.int .i64 a,.int .i64 n,.int .i64 c,.str s]]=>(f a n c s).bind fun r=>k (.str r)|_=>none,false⟩
theorem E09 (f:Int->Int->Int->List UInt8->Option (List UInt8)):(tvS f).nat:=by
 intro R xs k;simp only[tvS];split
 ·rw[Ad];rfl
 ·rfl
theorem C16 (hW:Y0 NG W){l:List (FuncId×D5)}(hl:E0 NG W l){lh:List (FuncId×H7)}(hh:I9 NG W lh){h:B4}{f:FuncId}{fn:Func}(hf:Tryz.prog.funcs[f]? =some fn)(hb:fn.body.isSome=true)(hname:fn.name≠ "runtime.NumGoroutine"){g:Int->Int->Int->List UInt8->Option (List UInt8)}(hr:∀(a n c:Int) (s:List UInt8) r,(g a n c s)=some r->∃fu,C6 (F8 l lh []) h fu false fn [.agg [.int .i64 a,.int .i64 n,.int .i64 c,.str s]]=some (.str r)):D8 NG W f (tvS g) :=
 bG hW hl hh B3 (h:=h) hf hb hname (E09 g) fun xs r h=>by
  simp only[tvS]at h;split at h
  ·obtain⟨q,hq,h3⟩:=Ab.1 h;obtain⟨fu,hr⟩:=hr _ _ _ _ _ hq;exact⟨fu,hr.trans h3⟩
  ·cases h
def tvv (f:Int->Int->Int->List UInt8->Option (cX)):D5:=⟨fun xs k=>match xs with|[.agg [.int .i64 a,.int .i64 n,.int .i64 c,.str s]]=>(f a n c s).bind fun r=>k (.agg [.int .i64 r.kind,.int .i64 r.n,.int .i64 r.scale,.str r.s])|_=>none,false⟩
theorem E0c (f:Int->Int->Int->List UInt8->Option (cX)):(tvv f).nat:=by
 intro R xs k;simp only[tvv];split
 ·rw[Ad];rfl
 ·rfl
theorem C2s (hW:Y0 NG W){l:List (FuncId×D5)}(hl:E0 NG W l){lh:List (FuncId×H7)}(hh:I9 NG W lh){h:B4}{f:FuncId}{fn:Func}(hf:Tryz.prog.funcs[f]? =some fn)(hb:fn.body.isSome=true)(hname:fn.name≠ "runtime.NumGoroutine"){g:Int->Int->Int->List UInt8->Option (cX)}(hr:∀(a n c:Int) (s:List UInt8) r,(g a n c s)=some r->∃fu,C6 (F8 l lh []) h fu false fn [.agg [.int .i64 a,.int .i64 n,.int .i64 c,.str s]]=some (.agg [.int .i64 r.kind,.int .i64 r.n,.int .i64 r.scale,.str r.s])):D8 NG W f (tvv g) :=
 bG hW hl hh B3 (h:=h) hf hb hname (E0c g) fun xs r h=>by
  simp only[tvv]at h;split at h
  ·obtain⟨q,hq,h3⟩:=Ab.1 h;obtain⟨fu,hr⟩:=hr _ _ _ _ _ hq;exact⟨fu,hr.trans h3⟩
  ·cases h
def tD3 (f:List UInt8->Option (Int×Int×Bool)):D5:=⟨fun xs k=>match xs with|[.str s]=>(f s).bind fun r=>k (.tuple [.int .i64 r.1,.int .i64 r.2.1,.bool r.2.2])|_=>none,false⟩
theorem C1q (f:List UInt8->Option (Int×Int×Bool)):(tD3 f).nat:=by
 intro R xs k;simp only[tD3];split
 ·rw[Ad];rfl
 ·rfl
def tDp (f:Int->Int->Option (List UInt8)):D5:=⟨fun xs k=>match xs with|[.int .i64 n,.int .i64 m]=>(f n m).bind fun r=>k (.str r)|_=>none,false⟩
theorem C13 (f:Int->Int->Option (List UInt8)):(tDp f).nat:=by
 intro R xs k;simp only[tDp];split
 ·rw[Ad];rfl
 ·rfl
def tS1 (f:List UInt8->Option (List UInt8)):D5:=⟨fun xs k=>match xs with|[.str s]=>(f s).bind fun r=>k (.str r)|_=>none,false⟩
theorem D9q (f:List UInt8->Option (List UInt8)):(tS1 f).nat:=by
 intro R xs k;simp only[tS1];split
 ·rw[Ad];rfl
 ·rfl
theorem C2n (hW:Y0 NG W){l:List (FuncId×D5)}(hl:E0 NG W l){lh:List (FuncId×H7)}(hh:I9 NG W lh){h:B4}{f:FuncId}{fn:Func}(hf:Tryz.prog.funcs[f]? =some fn)(hb:fn.body.isSome=true)(hname:fn.name≠ "runtime.NumGoroutine"){g:List UInt8->Option (List UInt8)}(hr:∀(s:List UInt8) r,(g s)=some r->∃fu,C6 (F8 l lh []) h fu false fn [.str s]=some (.str r)):D8 NG W f (tS1 g) :=
 bG hW hl hh B3 (h:=h) hf hb hname (D9q g) fun xs r h=>by
  simp only[tS1]at h;split at h
  ·obtain⟨q,hq,h3⟩:=Ab.1 h;obtain⟨fu,hr⟩:=hr _ _ hq;exact⟨fu,hr.trans h3⟩
  ·cases h
def tTk (f:List UInt8->Option (TR×Int×Bool)):D5:=⟨fun xs k=>match xs with|[.str s]=>(f s).bind fun r=>k (.tuple [.agg r.1.cells,.int .i64 r.2.1,.bool r.2.2])|_=>none,false⟩
theorem E2a (f:List UInt8->Option (TR×Int×Bool)):(tTk f).nat:=by
 intro R xs k;simp only[tTk];split
 ·rw[Ad];rfl
 ·rfl
theorem A0q (hW:Y0 NG W){l:List (FuncId×D5)}(hl:E0 NG W l){lh:List (FuncId×H7)}(hh:I9 NG W lh){h:B4}{f:FuncId}{fn:Func}(hf:Tryz.prog.funcs[f]? =some fn)(hb:fn.body.isSome=true)(hname:fn.name≠ "runtime.NumGoroutine"){g:List UInt8->Option (TR×Int×Bool)}(hr:∀(s:List UInt8) r,(g s)=some r->∃fu,C6 (F8 l lh []) h fu false fn [.str s]=some (.tuple [.agg r.1.cells,.int .i64 r.2.1,.bool r.2.2])):D8 NG W f (tTk g) :=
 bG hW hl hh B3 (h:=h) hf hb hname (E2a g) fun xs r h=>by
  simp only[tTk]at h;split at h
  ·obtain⟨q,hq,h3⟩:=Ab.1 h;obtain⟨fu,hr⟩:=hr _ _ hq;exact⟨fu,hr.trans h3⟩
  ·cases h
def tcB (f:Int->Option (Bool)):D5:=⟨fun xs k=>match xs with|[.int .u8 c]=>(f c).bind fun r=>k (.bool r)|_=>none,false⟩
theorem E1q (f:Int->Option (Bool)):(tcB f).nat:=by
 intro R xs k;simp only[tcB];split
 ·rw[Ad];rfl
 ·rfl
theorem A9e (hW:Y0 NG W){l:List (FuncId×D5)}(hl:E0 NG W l){lh:List (FuncId×H7)}(hh:I9 NG W lh){h:B4}{f:FuncId}{fn:Func}(hf:Tryz.prog.funcs[f]? =some fn)(hb:fn.body.isSome=true)(hname:fn.name≠ "runtime.NumGoroutine"){g:Int->Option (Bool)}(hr:∀(c:Int) r,(g c)=some r->∃fu,C6 (F8 l lh []) h fu false fn [.int .u8 c]=some (.bool r)):D8 NG W f (tcB g) :=
 bG hW hl hh B3 (h:=h) hf hb hname (E1q g) fun xs r h=>by
  simp only[tcB]at h;split at h
  ·obtain⟨q,hq,h3⟩:=Ab.1 h;obtain⟨fu,hr⟩:=hr _ _ hq;exact⟨fu,hr.trans h3⟩
  ·cases h
def tBs (f:Nat->List PV->List UInt8->Option (Int×Bool)):D5:=⟨fun xs k=>match xs with|[.sl _ z n c,.str s]=>if z=1 then(f n c s).bind fun r=>k (.tuple [.int .i64 r.1,.bool r.2])else none|_=>none,false⟩
theorem E3g (f:Nat->List PV->List UInt8->Option (Int×Bool)):(tBs f).nat:=by
 intro R xs k;simp only[tBs];split
 ·split
  ·rw[Ad];rfl
  ·rfl
 ·rfl
def A59 (f:Option (Option Bool×Nat×List PV)):D5:=⟨fun xs k=>match xs with|[]=>f.bind fun r=>k (.sl r.1 1 r.2.1 r.2.2)|_=>none,false⟩
theorem B4m (f:Option (Option Bool×Nat×List PV)):(A59 f).nat:=by
 intro R xs k;simp only[A59];split
 ·rw[Ad];rfl
 ·rfl
theorem D6d (hW:Y0 NG W){l:List (FuncId×D5)}(hl:E0 NG W l){lh:List (FuncId×H7)}(hh:I9 NG W lh){h:B4}{f:FuncId}{fn:Func}(hf:Tryz.prog.funcs[f]? =some fn)(hb:fn.body.isSome=true)(hname:fn.name≠ "runtime.NumGoroutine"){g:Option (Option Bool×Nat×List PV)}(hr:∀r,g=some r->∃fu,C6 (F8 l lh []) h fu false fn []=some (.sl r.1 1 r.2.1 r.2.2)):D8 NG W f (A59 g) :=
 bG hW hl hh B3 (h:=h) hf hb hname (B4m g) fun xs r h=>by
  simp only[A59]at h;split at h
  ·obtain⟨q,hq,h3⟩:=Ab.1 h;obtain⟨fu,hr⟩:=hr _ hq;exact⟨fu,hr.trans h3⟩
  ·cases h
def A8x (f:List UInt8->Option (cX×Bool)):D5:=⟨fun xs k=>match xs with|[.str s]=>(f s).bind fun r=>k (.tuple [.agg [.int .i64 r.1.kind,.int .i64 r.1.n,.int .i64 r.1.scale,.str r.1.s],.bool r.2])|_=>none,false⟩
theorem C9j (f:List UInt8->Option (cX×Bool)):(A8x f).nat:=by
 intro R xs k;simp only[A8x];split
 ·rw[Ad];rfl
 ·rfl
theorem B5d (hW:Y0 NG W){l:List (FuncId×D5)}(hl:E0 NG W l){lh:List (FuncId×H7)}(hh:I9 NG W lh){h:B4}{f:FuncId}{fn:Func}(hf:Tryz.prog.funcs[f]? =some fn)(hb:fn.body.isSome=true)(hname:fn.name≠ "runtime.NumGoroutine"){g:List UInt8->Option (cX×Bool)}(hr:∀(s:List UInt8) r,(g s)=some r->∃fu,C6 (F8 l lh []) h fu false fn [.str s]=some (.tuple [.agg [.int .i64 r.1.kind,.int .i64 r.1.n,.int .i64 r.1.scale,.str r.1.s],.bool r.2])):D8 NG W f (A8x g) :=
 bG hW hl hh B3 (h:=h) hf hb hname (C9j g) fun xs r h=>by
  simp only[A8x]at h;split at h
  ·obtain⟨q,hq,h3⟩:=Ab.1 h;obtain⟨fu,hr⟩:=hr _ _ hq;exact⟨fu,hr.trans h3⟩
  ·cases h
end
def B5j (s:List UInt8):Bool:=s.head? ==some 88
def noX (s:List UInt8):List UInt8:=bif B5j s then s.drop 1 else s
def B0o:D5:=⟨fun xs k=>match xs with|[.str s,.str [88]]=>k (.bool (B5j s))|_=>none,false⟩
theorem D5j (s:List UInt8):C6 (en []) ⟨[],[]⟩ 0 false Tryz.f242 [.str s,.str [88]]=
 bif decide (1<=(s.length:Int))then bif decide (1<=(s.length:Int))then some (.bool ((s.take 1).drop 0==[88]))else none else some (.bool false):=by kernel_rfl
theorem E41:D8 F6 Ws 242 B0o:=by
 refine oI D4 A2 (h:=⟨[],[]⟩) Tryz.func242 rfl (by decide) ?_ ?_
 ·intro R xs k;simp only[B0o];split<;>rfl
 ·intro xs r h;simp only[B0o]at h;split at h
  ·rename_i s;refine⟨0,(D5j s).trans ?_⟩;rw[<-h]
   cases s with
   |nil=>rfl
   |cons c t =>
    rw[A4 (decide_eq_true (by simp;omega)),A4 (decide_eq_true (by simp;omega))];simp[B5j]
  ·cases h
def tZ:D5:=⟨fun xs k=>match xs with|[.str s,.str [88]]=>k (.tuple [.str (noX s),.bool (B5j s)])|_=>none,false⟩
theorem D57 (s:List UInt8):C6 (en [(242,B0o)]) ⟨[],[]⟩ 0 false Tryz.f217 [.str s,.str [88]]=
 bif !B5j s then some (.tuple [.str s,.bool false])else bif decide (1<=(s.length:Int))then some (.tuple [.str ((s.take s.length).drop 1),.bool true])else none:=by kernel_rfl
theorem D8c:D8 F6 Ws 217 tZ:=by
 refine oI D4 (A0 E41 A2) (h:=⟨[],[]⟩) Tryz.func217 rfl (by decide) ?_ ?_
 ·intro R xs k;simp only[tZ];split<;>rfl
 ·intro xs r h;simp only[tZ]at h;split at h
  ·rename_i s;refine⟨0,(D57 s).trans ?_⟩;rw[<-h];unfold noX
   cases hm:B5j s
   ·rfl
   ·have:s≠[]:=by intro e;subst e;cases hm
    have hl:0<s.length:=Dt.2 this;simp only[Au,cond_false,cond_true];rw[A4 (decide_eq_true (by omega)),Do]
  ·cases h
theorem C43 (s:List UInt8):C6 (en [(217,tZ)]) ⟨[],[]⟩ 0 false Tryz.f164 [.str s,.str [88]]=some (.tuple [.str (noX s),.bool (B5j s)]):=by kernel_rfl
theorem E0v:D8 F6 Ws 164 tZ:=by
 refine oI D4 (A0 D8c A2) (h:=⟨[],[]⟩) Tryz.func164 rfl (by decide) ?_ ?_
 ·intro R xs k;simp only[tZ];split<;>rfl
 ·intro xs r h;simp only[tZ]at h;split at h
  ·rename_i s;exact⟨0,(C43 s).trans h⟩
  ·cases h
def nE (s:List UInt8):Bool:=bif decide (1<=s.length)then s.drop (s.length-1)==[46]else false
def C18 (s:List UInt8):List UInt8:=bif nE s then s.take (s.length-1)else s
def vO:D5:=⟨fun xs k=>match xs with|[.str s,.str [46]]=>bif decide (s.length<=100000)then k (.bool (nE s))else none|_=>none,false⟩
theorem B6n (s:List UInt8):C6 (en []) ⟨[],[]⟩ 0 false Tryz.f300 [.str s,.str [46]]=
 bif decide ((([46]:List UInt8).length:Int)<=(s.length:Int))then bif decide (0<=IntKind.i64.wrap ((s.length:Int)-(([46]:List UInt8).length:Int)))&&decide (IntKind.i64.wrap ((s.length:Int)-(([46]:List UInt8).length:Int))<=(s.length:Int))then
  some (.bool ((s.take s.length).drop (IntKind.i64.wrap ((s.length:Int)-(([46]:List UInt8).length:Int))).toNat==[46]))else none else some (.bool false):=by kernel_rfl
theorem C52:D8 F6 Ws 300 vO:=by
 refine oI D4 A2 (h:=⟨[],[]⟩) Tryz.func300 rfl (by decide) ?_ ?_
 ·intro R xs k;simp only[vO];split
  ·exact J7
  ·rfl
 ·intro xs r h;simp only[vO]at h;split at h
  ·rename_i s;obtain⟨hb,h⟩:=B8 h;have hb:=of_decide_eq_true hb;refine⟨0,(B6n s).trans ?_⟩;rw[<-h];unfold nE
   by_cases hl:1<=s.length
   ·rw[A4 (decide_eq_true (show((([46]:List UInt8).length:Nat):Int)<=(s.length:Int)by simp;omega)),decide_eq_true hl,cond_true,B2 (by simp;omega) (by simp;omega)]
    have e:((s.length:Int)-(([46]:List UInt8).length:Int))=((s.length-1:Nat):Int):=by simp;omega
    rw[e,A4 (by simp only[Ae,decide_eq_true_eq];omega),At,Do]
   ·rw[B1 (decide_eq_false (by simp;omega)),decide_eq_false hl,cond_false]
  ·cases h
def pT:D5:=⟨fun xs k=>match xs with|[.str s,.str [46]]=>bif decide (s.length<=100000)then k (.tuple [.str (C18 s),.bool (nE s)])else none|_=>none,false⟩
theorem D2u (s:List UInt8):C6 (en [(300,vO)]) ⟨[],[]⟩ 0 false Tryz.f289 [.str s,.str [46]]=
 bif decide (s.length<=100000)then(bif !nE s then some (.tuple [.str s,.bool false])else bif decide (0<=IntKind.i64.wrap ((s.length:Int)-(([46]:List UInt8).length:Int)))&&decide (IntKind.i64.wrap ((s.length:Int)-(([46]:List UInt8).length:Int))<=(s.length:Int))then
  some (.tuple [.str ((s.take (IntKind.i64.wrap ((s.length:Int)-(([46]:List UInt8).length:Int))).toNat).drop 0),.bool true])else none)else none:=by kernel_rfl
theorem D02:D8 F6 Ws 289 pT:=by
 refine oI D4 (A0 C52 A2) (h:=⟨[],[]⟩) Tryz.func289 rfl (by decide) ?_ ?_
 ·intro R xs k;simp only[pT];split
  ·exact J7
  ·rfl
 ·intro xs r h;simp only[pT]at h;split at h
  ·rename_i s;refine⟨0,(D2u s).trans ?_⟩;obtain⟨hb,h⟩:=B8 h;rw[hb,cond_true,<-h];have hb:=of_decide_eq_true hb;unfold C18
   cases hm:nE s
   ·rfl
   ·have hl:1<=s.length:=by
     unfold nE at hm
     by_cases hl:1<=s.length
     ·exact hl
     ·rw[decide_eq_false hl]at hm;cases hm
    have e:((s.length:Int)-(([46]:List UInt8).length:Int))=((s.length-1:Nat):Int):=by simp;omega
    simp only[Au,cond_false,cond_true];rw[B2 (by simp;omega) (by simp;omega),e,A4 (by simp only[Ae,decide_eq_true_eq];omega),At];rfl
  ·cases h
theorem C7w (s:List UInt8):C6 (en [(289,pT)]) ⟨[],[]⟩ 0 false Tryz.f272 [.str s,.str [46]]=bif decide (s.length<=100000)then some (.tuple [.str (C18 s),.bool (nE s)])else none:=by kernel_rfl
theorem E03:D8 F6 Ws 272 pT:=by
 refine oI D4 (A0 D02 A2) (h:=⟨[],[]⟩) Tryz.func272 rfl (by decide) ?_ ?_
 ·intro R xs k;simp only[pT];split
  ·exact J7
  ·rfl
 ·intro xs r h;simp only[pT]at h;split at h
  ·rename_i s;exact⟨0,(C7w s).trans h⟩
  ·cases h
def Q8 {R:Type}(x y:List UInt8)(k:List UInt8->Option R):Option R:=bif decide (x.length+y.length<=9223372036854775807)then k (x++y)else none
theorem E5 {R:Type}{x y:List UInt8}{k:List UInt8->Option R}(h:x.length+y.length<=1000000000):Q8 x y k=k (x++y):=by
 unfold Q8;rw[A4 (decide_eq_true (by omega))]
theorem yB {α β:Type}{x y:List UInt8}{k:List UInt8->Option α}{g:α->Option β}:(Q8 x y k).bind g=Q8 x y fun z=>(k z).bind g:=by unfold Q8;rw[B5];rfl
theorem A4g {α β:Type}{s:List UInt8}{i:Int}{k:UInt8->Option α}{g:α->Option β}:(Z5 s i k).bind g=Z5 s i fun z=>(k z).bind g:=by unfold Z5;rw[B5,Ad];rfl
theorem eD {α β:Type}{g:α->Option β}:(none:Option α).bind g=none:=rfl
def A78 {R:Type}(fr:List UInt8->List UInt8->List UInt8->Option (List UInt8))(fn:List UInt8->List UInt8->Option Int)(s:List UInt8)(k:List UInt8->Bool->Option R):Option R :=
 bif !decide ((s.length:Int)<2)then Z5 s 0 fun v=>bif !!((v.toNat:Int)==39)then Z5 s (IntKind.i64.wrap ((s.length:Int)-1)) fun v=>bif !((v.toNat:Int)==39)then k [] false else
  bif decide (0<=IntKind.i64.wrap ((s.length:Int)-1))&&decide (IntKind.i64.wrap ((s.length:Int)-1)<=(s.length:Int))then bif decide ((1:Int)<=((IntKind.i64.wrap ((s.length:Int)-1)).toNat:Int))then
   (fr ((s.take (IntKind.i64.wrap ((s.length:Int)-1)).toNat).drop 1) [39,39] [39]).bind fun y=>(fn ((s.take (IntKind.i64.wrap ((s.length:Int)-1)).toNat).drop 1) [39]).bind fun a=>(fn y [39]).bind fun b=>k y (a==IntKind.i64.wrap (2 * b))
  else none else none
  else k [] false else k [] false
theorem B5q (fr:List UInt8->List UInt8->List UInt8->Option (List UInt8))(fn:List UInt8->List UInt8->Option Int)(fu:Nat)(s:List UInt8) :
 C6 (F8 [(215,tS3 fr),(263,D7d fn)] [] []) I4 fu false Tryz.f270 [.str s]=A78 fr fn s fun a b=>some (.tuple [.str a,.bool b]):=by kernel_rfl
def A20 {R:Type}(fx:List UInt8->List UInt8->Option (List UInt8×Bool))(fq fh:List UInt8->Option (List UInt8×Bool))(fd:List UInt8->List UInt8->Option (List UInt8×Bool))(fp:List UInt8->Option (Int×Int×Bool))(s:List UInt8)(k:cX->Option R):Option R :=
 let E:Option R:=(fq s).bind fun q=>bif q.2 then k ⟨4,0,0,q.1⟩else(fd s [46]).bind fun d=>bif d.2 then(fp d.1).bind fun p=>k ⟨3,p.1,0,[]⟩else(fp s).bind fun p=>bif !p.2.2 then k ⟨0,0,0,[]⟩else bif decide (0<p.2.1)then k ⟨3,p.1,p.2.1,[]⟩else k ⟨2,p.1,0,[]⟩
 bif s==[84,82,85,69]then k ⟨1,1,0,[]⟩else bif s==[70,65,76,83,69]then k ⟨1,0,0,[]⟩else
 (fx s [88]).bind fun x=>bif x.2 then(fq x.1).bind fun q=>bif q.2 then(fh q.1).bind fun b=>k ⟨5,0,0,b.1⟩else E else E
abbrev zT (r:cX):PV:=.agg [.int .i64 r.kind,.int .i64 r.n,.int .i64 r.scale,.str r.s]
theorem D0f (fx:List UInt8->List UInt8->Option (List UInt8×Bool))(fq fh:List UInt8->Option (List UInt8×Bool))(fd:List UInt8->List UInt8->Option (List UInt8×Bool))(fp:List UInt8->Option (Int×Int×Bool))(fu:Nat)(s:List UInt8) :
 C6 (F8 [(164,B4e fx),(270,tSB fq),(271,tSB fh),(272,B4e fd),(220,tD3 fp)] [] []) I4 fu false Tryz.f247 [.str s]=
  A20 fx fq fh fd fp s fun r=>some (zT r):=by kernel_rfl
def kI {R:Type}(fr:Int->Int->Int->List UInt8->Option Bool)(a n c:Int)(s:List UInt8)(k:cX->Option R):Option R:=(fr a n c s).bind fun b=>bif !b then k ⟨0,0,0,[]⟩else k ⟨a,n,c,s⟩
theorem E1l (fr:Int->Int->Int->List UInt8->Option Bool)(fu:Nat)(a n c:Int)(s:List UInt8) :
 C6 (F8 [(231,tvB fr)] [] []) I4 fu false Tryz.f214 [.agg [.int .i64 a,.int .i64 n,.int .i64 c,.str s]]=kI fr a n c s fun r=>some (zT r):=by kernel_rfl
def zN {R:Type}(fv:Int->Int->Int->List UInt8->Option cX)(fr:List UInt8->List UInt8->List UInt8->Option (List UInt8))(fh:List UInt8->Option (List UInt8))(fd:Int->Int->Option (List UInt8))(a n c:Int)(s:List UInt8)(k:List UInt8->Option R):Option R :=
 (fv a n c s).bind fun v=>bif v.kind==1 then(bif v.n==1 then k [84,82,85,69]else k [70,65,76,83,69])else bif v.kind==2 then(fd v.n 0).bind k else bif v.kind==3 then(bif v.scale==0 then(fd v.n 0).bind fun x=>Q8 x [46] k else(fd v.n v.scale).bind k)else
  bif v.kind==4 then(fr v.s [39] [39,39]).bind fun x=>Q8 [39] x fun y=>Q8 y [39] k else bif v.kind==5 then(fh v.s).bind fun x=>Q8 [88,39] x fun y=>Q8 y [39] k else k [78,85,76,76]
theorem B8f (fv:Int->Int->Int->List UInt8->Option cX)(fr:List UInt8->List UInt8->List UInt8->Option (List UInt8))(fh:List UInt8->Option (List UInt8))(fd:Int->Int->Option (List UInt8))(fu:Nat)(a n c:Int)(s:List UInt8) :
 C6 (F8 [(214,tvv fv),(215,tS3 fr),(216,tS1 fh),(83,tDp fd)] [] []) I4 fu false Tryz.f160 [.agg [.int .i64 a,.int .i64 n,.int .i64 c,.str s]]=zN fv fr fh fd a n c s fun r=>some (.str r):=by kernel_rfl
def A3u {R:Type}(fc:List UInt8->Option cX)(fr:Int->Int->Int->List UInt8->Option Bool)(fp:Int->Int->Int->List UInt8->Option (List UInt8))(s:List UInt8)(k:cX->Bool->Option R):Option R :=
 (fc s).bind fun v=>(fr v.kind v.n v.scale v.s).bind fun b=>bif !!b then(fp v.kind v.n v.scale v.s).bind fun t=>bif !(t==s)then k ⟨0,0,0,[]⟩ false else k v true else k ⟨0,0,0,[]⟩ false
theorem B6l (fc:List UInt8->Option cX)(fr:Int->Int->Int->List UInt8->Option Bool)(fp:Int->Int->Int->List UInt8->Option (List UInt8))(fu:Nat)(s:List UInt8) :
 C6 (F8 [(247,tSv fc),(231,tvB fr),(160,tvS fp)] [] []) I4 fu false Tryz.f219 [.str s]=A3u fc fr fp s fun r b=>some (.tuple [zT r,.bool b]):=by kernel_rfl
def E2b {R:Type}(fp:List UInt8->Option (cX×Bool))(s:List UInt8)(k:TR->Int->Bool->Option R):Option R:=(fp s).bind fun r=>k ⟨2,0,[],r.1.kind,r.1.n,r.1.scale,r.1.s⟩ (s.length:Int) (r.2&&!(s==[]))
theorem D70 (fp:List UInt8->Option (cX×Bool))(fu:Nat)(s:List UInt8) :
 C6 (F8 [(219,A8x fp)] [] []) I4 fu false Tryz.f169 [.str s]=E2b fp s fun r n b=>some (.tuple [.agg r.cells,.int .i64 n,.bool b]):=by kernel_rfl
def hxD:List UInt8:=[48,49,50,51,52,53,54,55,56,57,65,66,67,68,69,70]
def rmB {R:Type}(l m:Nat)(x:Option R):Option R:=bif decide (l+m<=9223372036854775807)&&decide ((l+m) * 1<=140737488355328)then x else none
theorem A2w {R:Type}{l m:Nat}{x:Option R}(h:l+m<=1000000):rmB l m x=x:=by
 unfold rmB;rw[A4 (by rw[decide_eq_true (by omega),decide_eq_true (by omega)];rfl)]
noncomputable def fHx:Func:=Tryz.f216
def hHx:B4:=⟨[],[(0,⟨[(0,false),(3,true),(6,false),(7,false)],[]⟩)]⟩
def E24 (s:List UInt8)(no:Option Bool)(lo:Nat)(co:List PV)(L i:Int):St:=frame 26 [(0,(.str s,0)),(3,(.sl no 1 lo co,31)),(6,(.int .i64 L,0)),(7,(.int .i64 i,0))] []
noncomputable def hxL (fu n:Nat)(st:St):Option PV:=N3 (F8 [] [] []) hHx fu false fHx [1,1,0,1,0] 0 n st
theorem F0x (fu:Nat)(s:List UInt8):C6 (F8 [] [] []) hHx fu false fHx [.str s]=hxL fu fu (E24 s (some true) 0 [] (s.length:Int) 0):=L9.trans (by kernel_rfl)
theorem C39 (fu:Nat)(s:List UInt8)(no:Option Bool)(lo:Nat)(co:List PV)(L i:Int)(K:St->Option PV) :
 P1 (F8 [] [] []) hHx fu false fHx [1,1,0,1,0] (E24 s no lo co L i) (fun st=>C2 (hHx.loop.lookup 0) st K)=
 bif decide (i<L)then Z5 s i fun v=>Z5 hxD ((v.toNat:Int).fdiv (2^(min (4:Int).toNat IntKind.u8.bits))) fun a=>Z5 s i fun w=>Z5 hxD (IntKind.u8.wrap (BitVec.ofInt IntKind.u8.bits (w.toNat:Int) &&& BitVec.ofInt IntKind.u8.bits 15).toNat) fun b =>
  rmB lo 2 (K (E24 s (no.map (·&& false)) (lo+2) (co++[aA a,aA b]) L (IntKind.i64.wrap (i+1))))else(eF co).bind fun r=>some (.str r):=by kernel_rfl
noncomputable def fUh:Func:=Tryz.f271
def hUh:B4:=⟨[],[(0,⟨[(0,false),(4,true),(5,false)],[]⟩)]⟩
def E40 (s:List UInt8)(no:Option Bool)(lo:Nat)(co:List PV)(i:Int):St:=frame 43 [(0,(.str s,0)),(4,(.sl no 1 lo co,49)),(5,(.int .i64 i,0))] []
noncomputable def F1v (fi:List UInt8->Int->Option Int):K6:=F8 [(288,tBx fi)] [] []
noncomputable def uhL (fi:List UInt8->Int->Option Int)(fu n:Nat)(st:St):Option PV:=N3 (F1v fi) hUh fu false fUh [1,1,1,0,1,0] 0 n st
def A4b:Option PV:=some (.tuple [.str [],.bool false])
theorem F0d (fi:List UInt8->Int->Option Int)(fu:Nat)(s:List UInt8):C6 (F1v fi) hUh fu false fUh [.str s]=bif !((s.length:Int).tmod 2==0)then A4b else uhL fi fu fu (E40 s (some true) 0 [] 0):=L9.trans (by kernel_rfl)
theorem C0z (fi:List UInt8->Int->Option Int)(fu:Nat)(s:List UInt8)(no:Option Bool)(lo:Nat)(co:List PV)(i:Int)(K:St->Option PV) :
 P1 (F1v fi) hUh fu false fUh [1,1,1,0,1,0] (E40 s no lo co i) (fun st=>C2 (hUh.loop.lookup 0) st K)=
 bif decide (i<(s.length:Int))then Z5 s i fun v=>(fi hxD (v.toNat:Int)).bind fun a=>Z5 s (IntKind.i64.wrap (i+1)) fun w=>(fi hxD (w.toNat:Int)).bind fun b =>
  bif(bif decide (a<0)then true else decide (b<0))then A4b else(rmB lo 1 (K (E40 s (no.map (·&& false)) (lo+1) (co++[.int .u8 (IntKind.u8.wrap (IntKind.i64.wrap (BitVec.ofInt IntKind.i64.bits (IntKind.i64.wrap (a * 2^(min (4:Int).toNat IntKind.i64.bits))) |||BitVec.ofInt IntKind.i64.bits b).toNat))]) (IntKind.i64.wrap (i+2)))))
 else(eF co).bind fun r=>some (.tuple [.str r,.bool true]):=by kernel_rfl
def hxN (n:Nat):UInt8:=hxD.getD n 0
def eQ (s:List UInt8):List UInt8:=s.flatMap fun v=>[hxN (v.toNat/16),hxN (v.toNat%16)]
theorem F8l:∀n:Fin 256,((n.val:Int).fdiv (2^(min (4:Int).toNat IntKind.u8.bits)))=((n.val/16:Nat):Int):=by decide
theorem F4a:∀n:Fin 256,(IntKind.u8.wrap (BitVec.ofInt IntKind.u8.bits (n.val:Int) &&& BitVec.ofInt IntKind.u8.bits 15).toNat)=((n.val%16:Nat):Int):=by decide
theorem B87 {R:Type}{n:Nat}(h:n<16){K:UInt8->Option R}:Z5 hxD (n:Int) K=K (hxN n):=by
 refine F0 ?_;unfold hxN;rw[List.getD_eq_getElem?_getD,Ag (show n<hxD.length from h)];rfl
theorem nB (l:List UInt8):eF (l.map aA)=some l:=by
 induction l with
 |nil=>rfl
 |cons a l ih =>
  rw[List.map_cons,eF,ih];show((some ((a.toNat:Nat):Int)).bind fun n=>(some l).bind fun l=>some (Bq n.toNat::l))=_;simp
theorem C2q (fu:Nat)(s:List UInt8)(hs:s.length<=100000):∀(k i n:Nat),i+k=s.length->k<n->
  hxL fu n (E24 s (some (decide (i=0))) (2 * i) ((eQ (s.take i)).map aA) (s.length:Int) (i:Int))=some (.str (eQ s))
 |k,i,0,_,h=>by omega
 |0,i,n+1,hi,hn=>by
  unfold hxL;rw[B6,C39,B1 (decide_eq_false (by omega)),nB,Cy (by omega)];rfl
 |k+1,i,n+1,hi,hn=>by
  have hc:=Ag (l:=s) (i:=i) (by omega);have ih:=C2q fu s hs k (i+1) n (by omega) (by omega);have ht:s.take (i+1)=s.take i++[s[i]'(by omega)]:=Ce (by omega);rw[ht]at ih;generalize s[i]'(by omega)=v at hc ih;unfold hxL at ih ⊢;have hv:=v.toNat_lt;rw[B6,C39,A4 (decide_eq_true (by omega)),F0 hc,F8l ⟨v.toNat,hv⟩,B87 (by omega),F0 hc,F4a ⟨v.toNat,hv⟩,B87 (by omega),A2w (by omega),B2 (by omega) (by omega)];refine Cw ?_ ih;congr 2
  ·show(some _)=some _;congr 1;show(decide (i=0)&&false)=_;rw[Ch];exact(decide_eq_false (by omega)).symm
  ·unfold eQ;rw[Ex,Dv];rfl
def B2y (s:List UInt8):Option (List UInt8):=bif decide (s.length<=100000)then some (eQ s)else none
theorem F1h:D8 F6 Ws 216 (tS1 B2y):=C2n D4 A2 A7 (h:=hHx) Tryz.func216 rfl (by decide) fun s r h=>by
 unfold B2y at h;obtain⟨hs,h⟩:=B8 h;injection h with h;subst h;have hs:=of_decide_eq_true hs;exact⟨s.length+1,(F0x _ s).trans (C2q _ s hs s.length 0 _ (by omega) (by omega))⟩
def bW (c:UInt8):Int:=Lib.indexByte hxD c
theorem E0t:∀n:Fin 256,-1<=bW (Bq n.val)/\bW (Bq n.val)<16:=by decide
theorem pJ (c:UInt8):-1<=bW c/\bW c<16:=by
 have:=E0t ⟨c.toNat,c.toNat_lt⟩
 rwa [Fa]at this
theorem or4:∀a b:Fin 16,(IntKind.u8.wrap (IntKind.i64.wrap (BitVec.ofInt IntKind.i64.bits (IntKind.i64.wrap ((a.val:Int) * 2^(min (4:Int).toNat IntKind.i64.bits))) |||BitVec.ofInt IntKind.i64.bits (b.val:Int)).toNat))=((16 * a.val+b.val:Nat):Int):=by decide
def eN:List UInt8->Option (List UInt8)
 |[]=>some []
 |[_]=>none
 |a::b::t=>bif decide (bW a<0)||decide (bW b<0)then none else(eN t).map fun l=>Bq (16 * (bW a).toNat+(bW b).toNat)::l
def D0c (s:List UInt8)(c:Int):Option Int:=some (Lib.indexByte s c.toNat.toUInt8)
theorem B0a:∀(k:Nat) (s:List UInt8),s.length<=k->s.length%2=1->eN s=none
 |_,[],_,h=>by cases h
 |_,[_],_,_=>rfl
 |0,a::b::t,h,_=>by simp at h
 |k+1,a::b::t,h,h1=>by
  rw[eN,B0a k t (by simp at h;omega) (by simp only[Ac]at h1;omega)]
  cases decide (bW a<0)||decide (bW b<0)<;>rfl
def F2c (acc:List UInt8)(o:Option (List UInt8)):PV:=match o with
 |none=>.tuple [.str [],.bool false]
 |some l=>.tuple [.str (acc++l),.bool true]
theorem C2w (fu:Nat)(s:List UInt8)(hs:s.length<=100000)(h2:s.length%2=0):∀(k i n:Nat) (acc:List UInt8),2 * i+2 * k=s.length->k<n->acc.length=i->
  uhL D0c fu n (E40 s (some (decide (i=0))) i (acc.map aA) ((2 * i:Nat):Int))=some (F2c acc (eN (s.drop (2 * i))))
 |k,i,0,_,_,h,_=>by omega
 |0,i,n+1,acc,hi,hn,ha=>by
  unfold uhL;rw[B6,C0z,B1 (decide_eq_false (by omega)),nB,Bb (by omega)];simp only[eN,F2c,Bf,Aa]
 |k+1,i,n+1,acc,hi,hn,ha=>by
  have hc:=Ag (l:=s) (i:=2 * i) (by omega);have hc2:=Ag (l:=s) (i:=2 * i+1) (by omega);rw[Av (show 2 * i<s.length by omega),Av (show 2 * i+1<s.length by omega)];generalize s[2 * i]'(by omega)=a at hc;generalize s[2 * i+1]'(by omega)=b at hc2
  have e1:((2 * i:Nat):Int)+1=((2 * i+1:Nat):Int):=by omega
  have e2:((2 * i:Nat):Int)+2=((2 * (i+1):Nat):Int):=by omega
  have ga:=pJ a;have gb:=pJ b
  have ei:∀c:UInt8,D0c hxD ((c.toNat:Nat):Int)=some (bW c):=fun c=>by
   unfold D0c bW;rw[At,show(c.toNat).toUInt8=c from Fa]
  unfold uhL;rw[B6,C0z,A4 (decide_eq_true (by omega)),F0 hc,ei,Aa,B2 (by omega) (by omega),e1,F0 hc2,ei,Aa,eN]
  by_cases ha0:bW a<0
  ·rw[decide_eq_true ha0];rfl
  by_cases hb0:bW b<0
  ·rw[decide_eq_true hb0,decide_eq_false ha0];rfl
  rw[decide_eq_false ha0,decide_eq_false hb0,cond_false,cond_false,A2w (by omega)];obtain⟨x,hx⟩:∃x:Fin 16,bW a=(x.val:Int):=⟨⟨(bW a).toNat,by omega⟩,by simp;omega⟩;obtain⟨y,hy⟩:∃y:Fin 16,bW b=(y.val:Int):=⟨⟨(bW b).toNat,by omega⟩,by simp;omega⟩;rw[hx,hy,or4,B2 (by omega) (by omega),e2];have ih:=C2w fu s hs h2 k (i+1) n (acc++[Bq (16 * x.val+y.val)]) (by omega) (by omega) (by rw[Af,ha];rfl);unfold uhL at ih;rw[show 2 * i+1+1=2 * (i+1)by omega];refine Cw ?_ (ih.trans ?_)
  ·congr 2
   ·show(some (decide (i=0)&&false))=some _;rw[Ch,decide_eq_false (show ¬i+1=0 by omega)]
   ·rw[Dv];congr 1;show [PV.int .u8 _]=[PV.int .u8 _];rw[Fj (by have:=x.isLt;have:=y.isLt;show _<256;omega)]
  ·simp only[At,Co,cond_false]
   cases eN (s.drop (2 * (i+1)))with
   |none=>rfl
   |some l=>simp only[Aq,F2c,Al];rfl
def D4z (s:List UInt8):Option (List UInt8×Bool):=bif decide (s.length<=100000)then some (match eN s with|none=>([],false)|some l=>(l,true))else none
theorem E43:D8 F6 Ws 288 (tBx D0c):=O3 F05 (E0p _) rfl fun xs r h=>by
 simp only[tBx]at h;split at h
 ·exact h
 ·cases h
theorem C9m:D8 F6 Ws 271 (tSB D4z):=A8d D4 (A0 E43 A2) A7 (h:=hUh) Tryz.func271 rfl (by decide) fun s r h=>by
 unfold D4z at h;obtain⟨hs,h⟩:=B8 h;injection h with h;subst h;have hs:=of_decide_eq_true hs;refine⟨s.length+1,(F0d D0c _ s).trans ?_⟩
 have e:(s.length:Int).tmod 2=((s.length%2:Nat):Int):=by rw[Int.tmod_eq_emod_of_nonneg (by omega)];omega
 rw[e]
 by_cases h2:s.length%2=0
 ·rw[h2,B1 (by rfl)];have:=C2w (s.length+1) s hs h2 (s.length/2) 0 (s.length+1) [] (by omega) (by omega) rfl;refine this.trans ?_;rw[Nat.mul_zero,Bt]
  cases eN s<;>rfl
 ·have h3:s.length%2=1:=by omega
  rw[h3,A4 (by rfl),B0a _ s (Ak _) h3];rfl
def A48 (s a b:List UInt8):Option (List UInt8):=bif decide (s.length<=100000)&&(decide (1<=a.length)&&decide (b.length<=100))then some (Lib.replaceAll s a b)else none
theorem C1r:D8 F6 Ws 215 (tS3 A48):=O3 F2l (E3o _) rfl fun xs r h=>by
 simp only[tS3]at h;split at h
 ·obtain⟨q,hq,h⟩:=Ab.1 h;unfold A48 at hq;obtain⟨hb,hq⟩:=B8 hq;injection hq with hq;subst hq;simp only[C0w,hb,cond_true];exact h
 ·cases h
def E47 (s t:List UInt8):Option Int:=match t with
 |[c]=>some (Lib.countByte s c)
 |_=>none
theorem E12:D8 F6 Ws 263 (D7d E47):=O3 F06 (D6l _) rfl fun xs r h=>by
 simp only[D7d]at h;split at h
 ·rename_i s t;obtain⟨q,hq,h⟩:=Ab.1 h;unfold E47 at hq;split at hq
  ·exact h
  ·exact absurd hq (by simp)
 ·cases h
def A6c (s t:List UInt8):Option (List UInt8×Bool):=bif t==[88]then some (noX s,B5j s)else none
theorem D2v:D8 F6 Ws 164 (B4e A6c):=O3 E0v (B5m _) rfl fun xs r h=>by
 simp only[B4e]at h;split at h
 ·obtain⟨q,hq,h⟩:=Ab.1 h;unfold A6c at hq;obtain⟨hb,hq⟩:=B8 hq;injection hq with hq;subst hq;rw[eq_of_beq hb];exact h
 ·cases h
def C0d (s t:List UInt8):Option (List UInt8×Bool):=bif t==[46]then(bif decide (s.length<=100000)then some (C18 s,nE s)else none)else none
theorem C9v:D8 F6 Ws 272 (B4e C0d):=O3 E03 (B5m _) rfl fun xs r h=>by
 simp only[B4e]at h;split at h
 ·obtain⟨q,hq,h⟩:=Ab.1 h;unfold C0d at hq;obtain⟨hb,hq⟩:=B8 hq;obtain⟨hb2,hq⟩:=B8 hq;injection hq with hq;subst hq;rw[eq_of_beq hb];simp only[pT,hb2,cond_true];exact h
 ·cases h
def pQ (s:List UInt8):Option (Int×Int×Bool):=bif decide (s.length<=4000)then some ((S5 s).elim 0 (fun p=>p.1),(S5 s).elim 0 (fun p=>(p.2:Int)),(S5 s).isSome)else none
theorem C14:D8 F6 Ws 220 (tD3 pQ):=O3 (sC (F3q D4b)) (C1q _) rfl fun xs r h=>by
 simp only[tD3]at h;split at h
 ·obtain⟨q,hq,h⟩:=Ab.1 h;unfold pQ at hq;obtain⟨hb,hq⟩:=B8 hq;injection hq with hq;subst hq;simp only[A0o,hb,cond_true];exact h
 ·cases h
theorem B5e:D8 F6 Ws 57 (tD3 pQ):=O3 (sC (B36 C4p)) (C1q _) rfl fun xs r h=>by
 simp only[tD3]at h;split at h
 ·obtain⟨q,hq,h⟩:=Ab.1 h;unfold pQ at hq;obtain⟨hb,hq⟩:=B8 hq;injection hq with hq;subst hq;simp only[wC,hb,cond_true];exact h
 ·cases h
def prD (n m:Int):Option (List UInt8):=bif mG n then some (tG n m)else none
theorem C9g:D8 F6 Ws 83 (tDp prD):=O3 (sC (B36 D1c)) (C13 _) rfl fun xs r h=>by
 simp only[tDp]at h;split at h
 ·obtain⟨q,hq,h⟩:=Ab.1 h;unfold prD at hq;obtain⟨hb,hq⟩:=B8 hq;injection hq with hq;subst hq;simp only[A1d,hb,cond_true];exact h
 ·cases h
def wV (a n c:Int)(s:List UInt8):Option Bool:=bif decide (s.length<=1000000)then some (G9 a n c s)else none
theorem B91:D8 F6 Ws 231 (tvB wV):=O3 (sC (C29 C5w)) (A83 _) rfl fun xs r h=>by
 simp only[tvB]at h;split at h
 ·obtain⟨q,hq,h⟩:=Ab.1 h;unfold wV at hq;obtain⟨hb,hq⟩:=B8 hq;injection hq with hq;subst hq;simp only[fK,hb,cond_true];exact h
 ·cases h
theorem A9h:D8 F6 Ws 47 (tvB wV):=O3 (sC (C29 C8d)) (A83 _) rfl fun xs r h=>by
 simp only[tvB]at h;split at h
 ·obtain⟨q,hq,h⟩:=Ab.1 h;unfold wV at hq;obtain⟨hb,hq⟩:=B8 hq;injection hq with hq;subst hq;simp only[fK,hb,cond_true];exact h
 ·cases h
theorem B8g {α β:Type}{fr:List UInt8->List UInt8->List UInt8->Option (List UInt8)}{fn:List UInt8->List UInt8->Option Int}{s:List UInt8}{k:List UInt8->Bool->Option α}{g:α->Option β}:(A78 fr fn s k).bind g=A78 fr fn s fun a b=>(k a b).bind g:=by
 simp only[A78,B5,A4g,Ad,eD]
def A6o (s:List UInt8):Option (List UInt8×Bool):=A78 A48 E47 s fun a b=>some (a,b)
theorem D16:D8 F6 Ws 270 (tSB A6o):=A8d D4 (A0 C1r (A0 E12 A2)) A7 (h:=I4) Tryz.func270 rfl (by decide) fun s r h=>by
 refine⟨0,(B5q A48 E47 0 s).trans ?_⟩;have:=congrArg (fun o=>o.bind fun r:List UInt8×Bool=>some (PV.tuple [.str r.1,.bool r.2])) h;simp only[A6o,B8g,Aa]at this;exact this
theorem B9d {α β:Type}{fx:List UInt8->List UInt8->Option (List UInt8×Bool)}{fq fh:List UInt8->Option (List UInt8×Bool)}{fd:List UInt8->List UInt8->Option (List UInt8×Bool)}{fp:List UInt8->Option (Int×Int×Bool)}{s:List UInt8}{k:cX->Option α}{g:α->Option β}:(A20 fx fq fh fd fp s k).bind g=A20 fx fq fh fd fp s fun r=>(k r).bind g:=by
 simp only[A20,B5,Ad]
def zF (s:List UInt8):Option cX:=A20 A6c A6o D4z C0d pQ s some
theorem D29:D8 F6 Ws 247 (tSv zF):=E52 D4 (A0 D2v (A0 D16 (A0 C9m (A0 C9v (A0 C14 A2))))) A7 (h:=I4) Tryz.func247 rfl (by decide) fun s r h=>by
 refine⟨0,(D0f A6c A6o D4z C0d pQ 0 s).trans ?_⟩;have:=congrArg (fun o=>o.bind fun r:cX=>some (zT r)) h;simp only[zF,B9d,Aa]at this;exact this
theorem B5b {α β:Type}{fr:Int->Int->Int->List UInt8->Option Bool}{a n c:Int}{s:List UInt8}{k:cX->Option α}{g:α->Option β}:(kI fr a n c s k).bind g=kI fr a n c s fun r=>(k r).bind g:=by
 simp only[kI,B5,Ad]
def tA (a n c:Int)(s:List UInt8):Option cX:=kI wV a n c s some
theorem E1b:D8 F6 Ws 214 (tvv tA):=C2s D4 (A0 B91 A2) A7 (h:=I4) Tryz.func214 rfl (by decide) fun a n c s r h=>by
 refine⟨0,(E1l wV 0 a n c s).trans ?_⟩;have:=congrArg (fun o=>o.bind fun r:cX=>some (zT r)) h;simp only[tA,B5b,Aa]at this;exact this
theorem B6o {α β:Type}{fv:Int->Int->Int->List UInt8->Option cX}{fr:List UInt8->List UInt8->List UInt8->Option (List UInt8)}{fh:List UInt8->Option (List UInt8)}{fd:Int->Int->Option (List UInt8)}{a n c:Int}{s:List UInt8}{k:List UInt8->Option α}{g:α->Option β}:(zN fv fr fh fd a n c s k).bind g=zN fv fr fh fd a n c s fun r=>(k r).bind g:=by
 simp only[zN,B5,yB,Ad]
def jC (a n c:Int)(s:List UInt8):Option (List UInt8):=zN tA A48 B2y prD a n c s some
theorem B4i:D8 F6 Ws 160 (tvS jC):=C16 D4 (A0 E1b (A0 C1r (A0 F1h (A0 C9g A2)))) A7 (h:=I4) Tryz.func160 rfl (by decide) fun a n c s r h=>by
 refine⟨0,(B8f tA A48 B2y prD 0 a n c s).trans ?_⟩;have:=congrArg (fun o=>o.bind fun r:List UInt8=>some (PV.str r)) h;simp only[jC,B6o,Aa]at this;exact this
theorem B77 {α β:Type}{fc:List UInt8->Option cX}{fr:Int->Int->Int->List UInt8->Option Bool}{fp:Int->Int->Int->List UInt8->Option (List UInt8)}{s:List UInt8}{k:cX->Bool->Option α}{g:α->Option β}:(A3u fc fr fp s k).bind g=A3u fc fr fp s fun r b=>(k r b).bind g:=by
 simp only[A3u,B5,Ad]
def vS (s:List UInt8):Option (cX×Bool):=A3u zF wV jC s fun v b=>some (v,b)
theorem D56:D8 F6 Ws 219 (A8x vS):=B5d D4 (A0 D29 (A0 B91 (A0 B4i A2))) A7 (h:=I4) Tryz.func219 rfl (by decide) fun s r h=>by
 refine⟨0,(B6l zF wV jC 0 s).trans ?_⟩;have:=congrArg (fun o=>o.bind fun r:cX×Bool=>some (PV.tuple [zT r.1,.bool r.2])) h;simp only[vS,B77,Aa]at this;exact this
def B1v (s:List UInt8):Option (TR×Int×Bool):=E2b vS s fun t n b=>some (t,n,b)
theorem E1x:D8 F6 Ws 169 (tTk B1v):=A0q D4 (A0 D56 A2) A7 (h:=I4) Tryz.func169 rfl (by decide) fun s r h=>by
 refine⟨0,(D70 vS 0 s).trans ?_⟩;have:=congrArg (fun o=>o.bind fun r:TR×Int×Bool=>some (PV.tuple [.agg r.1.cells,.int .i64 r.2.1,.bool r.2.2])) h;simp only[B1v,E2b,Ad,Aa]at this;exact this
section
variable {old new:List UInt8} (ho:old≠[]) (hn:old≠new)
include ho hn
omit ho in
theorem B3c (s:List UInt8):Lib.replaceAll s old new=Lib.replaceK old new (Lib.count s old) s:=by
 unfold Lib.replaceAll Lib.replace Lib.replaceNum;rw[if_neg (by simpa using hn),if_pos (Or.inl (by omega))]
theorem D0j:Lib.replaceAll [] old new=[]:=by
 rw[B3c hn,Lib.count_miss (by unfold Lib.index;rw[if_neg (by simpa using ho)])];rfl
theorem D47 {s:List UInt8}(h:old.isPrefixOf s=true)(hs:s≠[]):Lib.replaceAll s old new=new++Lib.replaceAll (s.drop old.length) old new:=by
 have hi:Lib.index s old=((0:Nat):Int):=by
  cases s with
  |nil=>exact absurd rfl hs
  |cons b l=>unfold Lib.index;rw[if_pos h];rfl
 rw[B3c hn,B3c hn,Lib.count_hit ho hi,Nat.add_comm,Lib.replaceK_hit _ _ _ _ 0 hi,Bm,List.take_zero,Cd]
theorem C0a {b:UInt8}{l:List UInt8}(h:old.isPrefixOf (b::l)=false):Lib.replaceAll (b::l) old new=b::Lib.replaceAll l old new:=by
 have hi:Lib.index (b::l) old=if Lib.index l old == -1 then -1 else Lib.index l old+1:=by
  rw[Lib.index,if_neg (by rw[h];decide)]
 rw[B3c hn,B3c hn]
 by_cases hm:Lib.index l old=-1
 ·rw[Lib.count_miss hm,Lib.count_miss (by rw[hi,hm];rfl)];rfl
 ·have hge:=Lib.index_ge l old;obtain⟨i,hx⟩:∃i:Nat,Lib.index l old=(i:Int):=⟨(Lib.index l old).toNat,by omega⟩
  have hy:Lib.index (b::l) old=((i+1:Nat):Int):=by
   rw[hi,if_neg (by simpa using hm),hx];omega
  rw[Lib.count_hit ho hx,Lib.count_hit ho hy,show i+1+old.length=(i+old.length)+1 by omega,Db,Nat.add_comm 1,Lib.replaceK_hit _ _ _ _ i hx,Lib.replaceK_hit _ _ _ _ (i+1) hy,Ek,show i+1+old.length=(i+old.length)+1 by omega,Db];rfl
end
inductive Dbl:List UInt8->List UInt8->Prop
 |nil:Dbl [] []
 |q {r u:List UInt8}:Dbl r u->Dbl (39::39::r) (39::u)
 |c {c:UInt8} {r u:List UInt8}:c≠39->Dbl r u->Dbl (c::r) (c::u)
theorem E8x {r u:List UInt8}(h:Dbl r u):Lib.replaceAll r [39,39] [39]=u:=by
 induction h with
 |nil=>exact D0j (by decide) (by decide)
 |q _ ih=>rw[D47 (by decide) (by decide) (by rfl) (by simp)];simp only[Ac,Ai,Db,Bt,ih];rfl
 |c hc _ ih=>rw[C0a (by decide) (by decide) (by simp[List.isPrefixOf,Ne.symm hc]),ih]
theorem D72 {r u:List UInt8}(h:Dbl r u):Lib.replaceAll u [39] [39,39]=r:=by
 induction h with
 |nil=>exact D0j (by decide) (by decide)
 |q _ ih=>rw[D47 (by decide) (by decide) (by rfl) (by simp)];simp only[Ac,Ai,Db,Bt,ih];rfl
 |c hc _ ih=>rw[C0a (by decide) (by decide) (by simp[List.isPrefixOf,Ne.symm hc]),ih]
theorem E5z {r u:List UInt8}(h:Dbl r u):Lib.countByte r 39=2 * Lib.countByte u 39:=by
 unfold Lib.countByte
 induction h with
 |nil=>rfl
 |q _ ih=>simp only[List.count_cons_self,ih];omega
 |c hc _ ih=>rw[List.count_cons_of_ne hc,List.count_cons_of_ne hc,ih]
theorem nI {r u:List UInt8}(h:Dbl r u):u.length<=r.length:=by
 induction h with
 |nil=>exact Ak _
 |q _ ih=>simp only[Ac];omega
 |c hc _ ih=>simp only[Ac];omega
theorem F13 {r u:List UInt8}(h:Dbl r u)(hn:∀c∈u,c≠39):r=u:=by
 induction h with
 |nil=>rfl
 |q _ ih=>exact absurd rfl (hn 39 (An ..))
 |c hc _ ih=>rw[ih fun c h=>hn c (Ap _ h)]
def qt (r:List UInt8):List UInt8:=39::(r++[39])
theorem qL (r:List UInt8):(qt r).length=r.length+2:=by simp[qt]
theorem C0m {r u:List UInt8}(h:Dbl r u)(hl:r.length<=10000):A6o (qt r)=some (u,true):=by
 have hu:=nI h;unfold A6o A78
 rw[qL,A4 (by rw[decide_eq_false (by omega)];rfl),show((0:Int))=((0:Nat):Int)from rfl,F0 (c:=39) (by rfl),A4 (by rfl),B2 (by omega) (by omega),show(((r.length+2:Nat):Int)-1)=((r.length+1:Nat):Int)by omega,
  F0 (c:=39) (by unfold qt;rw[Bz,Bj (Ak _),Nat.sub_self];rfl),B1 (by rfl),A4 (by simp only[Ae,decide_eq_true_eq];omega),At,A4 (decide_eq_true (by omega))]
 have e:((qt r).take (r.length+1)).drop 1=r:=by
  unfold qt;rw[Ek,Db,Bt,List.take_left]
 rw[e];unfold A48;rw[A4 (by simp only[Ae,decide_eq_true_eq,Ac,Ai];omega),Aa,E8x h];show some (u,(Lib.countByte r 39:Int)==IntKind.i64.wrap (2 * (Lib.countByte u 39:Int)))=_;have hc:Lib.countByte u 39<=u.length:=List.count_le_length;rw[E5z h,B2 (by omega) (by omega)];simp
def A06 (u:List UInt8):cX×Bool:=bif G9 4 0 0 u then(⟨4,0,0,u⟩,true)else(⟨0,0,0,[]⟩,false)
theorem C5a {r u:List UInt8}(h:Dbl r u)(hl:r.length<=10000):vS (qt r)=some (A06 u):=by
 have hu:=nI h;unfold vS A3u
 have hc:zF (qt r)=some ⟨4,0,0,u⟩:=by
  unfold zF A20;rw[B1 (beq_eq_false_iff_ne.2 (by unfold qt;intro e;cases e)),B1 (beq_eq_false_iff_ne.2 (by unfold qt;intro e;cases e))];have hx:A6c (qt r) [88]=some (qt r,false):=rfl;rw[hx,Aa,cond_false,C0m h hl,Aa,cond_true]
 rw[hc,Aa];unfold A06
 have hr:wV 4 0 0 u=some (G9 4 0 0 u):=by unfold wV;rw[A4 (decide_eq_true (by omega))]
 rw[show wV (⟨4,0,0,u⟩:cX).kind (⟨4,0,0,u⟩:cX).n (⟨4,0,0,u⟩:cX).scale (⟨4,0,0,u⟩:cX).s=_ from hr,Aa]
 cases hb:G9 4 0 0 u with
 |false=>rfl
 |true =>
  rw[hb]at hr
  have hp:jC 4 0 0 u=some (qt r):=by
   unfold jC zN tA kI;rw[hr,Aa];show(A48 u [39] [39,39]).bind _=_;unfold A48;rw[A4 (by simp only[Ae,decide_eq_true_eq,Ac,Ai];omega),Aa,D72 h,E5 (by simp;omega),E5 (by simp;omega)];rfl
  show(jC 4 0 0 u).bind _=_;rw[hp,Aa,beq_self_eq_true];rfl
theorem B66:∀n:Fin 256,0<=bW (Bq n.val)->hxN (bW (Bq n.val)).toNat=Bq n.val:=by decide
theorem C2l {c:UInt8}(h:0<=bW c):hxN (bW c).toNat=c:=by
 have:=B66 ⟨c.toNat,c.toNat_lt⟩;rw[Fa]at this;exact this h
theorem uT:∀(k:Nat) (u b:List UInt8),u.length<=k->eN u=some b->eQ b=u/\(∀c∈u,c≠39)/\b.length<=u.length
 |_,[],b,_,h=>by injection h with h;subst h;exact⟨rfl,(fun c h=>by cases h),Ak _⟩
 |_,[_],b,_,h=>by cases h
 |0,a::c::t,b,hk,h=>by simp at hk
 |k+1,a::c::t,b,hk,h=>by
  rw[eN]at h;have ga:=pJ a;have gc:=pJ c
  by_cases ha:bW a<0
  ·rw[decide_eq_true ha]at h;cases h
  by_cases hc:bW c<0
  ·rw[decide_eq_true hc,Fq]at h;cases h
  rw[decide_eq_false ha,decide_eq_false hc]at h;obtain⟨l,hl,h⟩:=Am.1 h;subst h;obtain⟨h1,h2,h3⟩:=uT k t l (by simp at hk;omega) hl
  have hlt:16 * (bW a).toNat+(bW c).toNat<256:=by omega
  refine⟨?_,?_,?_⟩
  ·unfold eQ at h1 ⊢;rw[Bo,h1,Fj hlt,show(16 * (bW a).toNat+(bW c).toNat)/16=(bW a).toNat by omega,show(16 * (bW a).toNat+(bW c).toNat)%16=(bW c).toNat by omega,C2l (by omega),C2l (by omega)];rfl
  ·intro x hx;rcases Be.1 hx with rfl|hx
   ·rintro rfl;exact ha (by decide)
   ·rcases Be.1 hx with rfl|hx
    ·rintro rfl;exact hc (by decide)
    ·exact h2 x hx
  ·simp only[Ac];omega
def zW (u:List UInt8):cX×Bool:=match eN u with
 |none=>(⟨0,0,0,[]⟩,false)
 |some b=>bif G9 5 0 0 b then(⟨5,0,0,b⟩,true)else(⟨0,0,0,[]⟩,false)
theorem B72 {r u:List UInt8}(h:Dbl r u)(hl:r.length<=10000):vS (88::qt r)=some (zW u):=by
 have hu:=nI h;unfold vS A3u
 have hc:zF (88::qt r)=some ⟨5,0,0,(eN u).getD []⟩:=by
  unfold zF A20;rw[B1 (beq_eq_false_iff_ne.2 (by intro e;cases e)),B1 (beq_eq_false_iff_ne.2 (by intro e;cases e))];have hx:A6c (88::qt r) [88]=some (qt r,true):=rfl;rw[hx,Aa,cond_true,C0m h hl,Aa,cond_true];unfold D4z;rw[A4 (decide_eq_true (show u.length<=100000 by omega))]
  cases eN u<;>rfl
 rw[hc,Aa];generalize hb:(eN u).getD []=b
 have hbl:b.length<=u.length:=by
  cases hv:eN u with
  |none=>rw[hv]at hb;subst hb;exact Bh _
  |some x=>rw[hv]at hb;subst hb;exact(uT _ u x (Ak _) hv).2.2
 have hr:wV 5 0 0 b=some (G9 5 0 0 b):=by unfold wV;rw[A4 (decide_eq_true (by omega))]
 rw[show wV (⟨5,0,0,b⟩:cX).kind (⟨5,0,0,b⟩:cX).n (⟨5,0,0,b⟩:cX).scale (⟨5,0,0,b⟩:cX).s=_ from hr,Aa];unfold zW
 cases hq:G9 5 0 0 b with
 |false =>
  cases hv:eN u with
  |none=>rfl
  |some x =>
   rw[hv]at hb;simp only[Option.getD_some]at hb;subst hb;simp only[hq];rfl
 |true =>
  rw[hq]at hr
  have hp:jC 5 0 0 b=some (88::qt (eQ b)):=by
   unfold jC zN tA kI;rw[hr,Aa];show(B2y b).bind _=_
   have hh:(eQ b).length=2 * b.length:=by
    unfold eQ;clear hr hq hbl hb
    induction b with
    |nil=>rfl
    |cons a b ih=>rw[Bo,Af,ih];simp only[Ac,Ai];omega
   unfold B2y;rw[A4 (decide_eq_true (by omega)),Aa,E5 (by simp;omega),E5 (by simp;omega)];rfl
  show(jC 5 0 0 b).bind _=_;rw[hp,Aa]
  cases hv:eN u with
  |none =>
   rw[hv]at hb;simp only[Option.getD_none]at hb;subst hb
   have:r≠[]:=by
    rintro rfl
    cases h
    cases hv
   have hne:((88::qt (eQ []))==(88::qt r))=false:=by
    rw[beq_eq_false_iff_ne];intro e;have:=congrArg Bn e;simp only[Ac,qL]at this;have h0:(eQ []).length=0:=rfl;have:=Dt.2 ‹r≠[]›;omega
   rw[hne];rfl
  |some x =>
   rw[hv]at hb;simp only[Option.getD_some]at hb;subst hb;obtain⟨h1,h2,-⟩:=uT _ u x (Ak _) hv;rw[h1,F13 h h2,beq_self_eq_true];simp only[hq];rfl
def A3s (f:FuncId->List UInt8->Option (List UInt8)):D5:=⟨fun xs k=>match xs with|[.str s,.clo n []]=>(f n s).bind fun r=>k (.str r)|_=>none,false⟩
theorem B2h (f:FuncId->List UInt8->Option (List UInt8)):(A3s f).nat:=by
 intro R xs k;simp only[A3s];split
 ·rw[Ad];rfl
 ·rfl
def sl0 {R:Type}(s:List UInt8)(i:Int)(k:List UInt8->Option R):Option R:=bif decide (0<=i)&&decide (i<=(s.length:Int))then k ((s.take i.toNat).drop 0)else none
def hRw:B4:=⟨[],[(0,⟨[(0,false),(1,false),(7,false),(8,false)],[]⟩)]⟩
def A09 (s:List UInt8)(n:FuncId)(L i:Int):St:=frame 22 [(0,(.str s,0)),(1,(.clo n [],0)),(7,(.int .i64 L,0)),(8,(.int .i64 i,0))] []
noncomputable def fRw:Func:=Tryz.f174
noncomputable def F2a (f:Int->Option Bool)(fu n:Nat)(st:St):Option PV:=N3 (F8 [(171,tcB f)] [] []) hRw fu false fRw [1,0,1,0] 0 n st
theorem E2d (f:Int->Option Bool)(fu:Nat)(s:List UInt8):C6 (F8 [(171,tcB f)] [] []) hRw fu false fRw [.str s,.clo 171 []]=F2a f fu fu (A09 s 171 (s.length:Int) 0):=L9.trans (by kernel_rfl)
theorem D20 (f:Int->Option Bool)(fu:Nat)(s:List UInt8)(L i:Int)(K:St->Option PV) :
 P1 (F8 [(171,tcB f)] [] []) hRw fu false fRw [1,0,1,0] (A09 s 171 L i) (fun st=>C2 (hRw.loop.lookup 0) st K)=
 bif decide (i<L)then Z5 s i fun v=>(f (v.toNat:Int)).bind fun b=>bif !b then sl0 s i fun r=>some (.str r)else K (A09 s 171 L (IntKind.i64.wrap (i+1)))else some (.str s):=by kernel_rfl
noncomputable def E9i (f:Int->Option Bool)(fu n:Nat)(st:St):Option PV:=N3 (F8 [(173,tcB f)] [] []) hRw fu false fRw [1,0,1,0] 0 n st
theorem E66 (f:Int->Option Bool)(fu:Nat)(s:List UInt8):C6 (F8 [(173,tcB f)] [] []) hRw fu false fRw [.str s,.clo 173 []]=E9i f fu fu (A09 s 173 (s.length:Int) 0):=L9.trans (by kernel_rfl)
theorem D2i (f:Int->Option Bool)(fu:Nat)(s:List UInt8)(L i:Int)(K:St->Option PV) :
 P1 (F8 [(173,tcB f)] [] []) hRw fu false fRw [1,0,1,0] (A09 s 173 L i) (fun st=>C2 (hRw.loop.lookup 0) st K)=
 bif decide (i<L)then Z5 s i fun v=>(f (v.toNat:Int)).bind fun b=>bif !b then sl0 s i fun r=>some (.str r)else K (A09 s 173 L (IntKind.i64.wrap (i+1)))else some (.str s):=by kernel_rfl
noncomputable def F0y (f:Int->Option Bool)(fu n:Nat)(st:St):Option PV:=N3 (F8 [(177,tcB f)] [] []) hRw fu false fRw [1,0,1,0] 0 n st
theorem E0m (f:Int->Option Bool)(fu:Nat)(s:List UInt8):C6 (F8 [(177,tcB f)] [] []) hRw fu false fRw [.str s,.clo 177 []]=F0y f fu fu (A09 s 177 (s.length:Int) 0):=L9.trans (by kernel_rfl)
theorem D4a (f:Int->Option Bool)(fu:Nat)(s:List UInt8)(L i:Int)(K:St->Option PV) :
 P1 (F8 [(177,tcB f)] [] []) hRw fu false fRw [1,0,1,0] (A09 s 177 L i) (fun st=>C2 (hRw.loop.lookup 0) st K)=
 bif decide (i<L)then Z5 s i fun v=>(f (v.toNat:Int)).bind fun b=>bif !b then sl0 s i fun r=>some (.str r)else K (A09 s 177 L (IntKind.i64.wrap (i+1)))else some (.str s):=by kernel_rfl
def hQu:B4:=⟨[],[(0,⟨[(0,false),(3,false)],[]⟩)]⟩
def D3b (s:List UInt8)(i:Int):St:=frame 34 [(0,(.str s,0)),(3,(.int .i64 i,0))] []
noncomputable def fQu:Func:=Tryz.f170
noncomputable def quL (fu n:Nat)(st:St):Option PV:=N3 (F8 [] [] []) hQu fu false fQu [1,0,1,0] 0 n st
theorem F0n (fu:Nat)(s:List UInt8):C6 (F8 [] [] []) hQu fu false fQu [.str s]=quL fu fu (D3b s 1):=L9.trans (by kernel_rfl)
theorem C3m (fu:Nat)(s:List UInt8)(i:Int)(K:St->Option PV) :
 P1 (F8 [] [] []) hQu fu false fQu [1,0,1,0] (D3b s i) (fun st=>C2 (hQu.loop.lookup 0) st K)=
 bif decide (i<(s.length:Int))then Z5 s i fun v=>bif !((v.toNat:Int)==39)then K (D3b s (IntKind.i64.wrap (i+1)))else
  bif decide (IntKind.i64.wrap (i+1)<(s.length:Int))then Z5 s (IntKind.i64.wrap (i+1)) fun w=>bif(w.toNat:Int)==39 then K (D3b s (IntKind.i64.wrap (IntKind.i64.wrap (i+1)+1)))else sl0 s (IntKind.i64.wrap (i+1)) fun r=>some (.str r)
  else sl0 s (IntKind.i64.wrap (i+1)) fun r=>some (.str r)
 else some (.str []):=by kernel_rfl
theorem D7u (fu:Nat)(c:Int):C6 (F8 [] [] []) I4 fu false Tryz.f171 [.int .u8 c]=some (.bool (decide (48<=c)&&decide (c<=57))):=by kernel_rfl
theorem D0w (fu:Nat)(c:Int):C6 (F8 [] [] []) I4 fu false Tryz.f173 [.int .u8 c]=some (.bool (decide (65<=c)&&decide (c<=90))):=by kernel_rfl
theorem D4o (f:Int->Option Bool)(fu:Nat)(c:Int):C6 (F8 [(171,tcB f)] [] []) I4 fu false Tryz.f177 [.int .u8 c]=
 bif !(decide (97<=c)&&decide (c<=122))then(f c).bind fun b=>some (.bool (b||c==95))else some (.bool true):=by kernel_rfl
def A8m {R:Type}(fp:List UInt8->Option (Int×Int×Bool))(x:List UInt8)(k:TR->Int->Bool->Option R):Option R:=(fp x).bind fun p=>bif decide (0<p.2.1)then k ⟨2,0,[],3,p.1,p.2.1,[]⟩ (x.length:Int) p.2.2 else k ⟨2,0,[],2,p.1,0,[]⟩ (x.length:Int) p.2.2
def C40 {R:Type}(fr:FuncId->List UInt8->Option (List UInt8))(fd:Int->Option Bool)(fp:List UInt8->Option (Int×Int×Bool))(s:List UInt8)(k:TR->Int->Bool->Option R):Option R :=
 (fr 171 s).bind fun x=>bif decide (0<=(x.length:Int))&&decide ((x.length:Int)<=(s.length:Int))then
  bif decide ((1:Int)<(((s.take s.length).drop (x.length:Int).toNat).length:Int))then Z5 ((s.take s.length).drop (x.length:Int).toNat) 0 fun v=>bif(v.toNat:Int)==46 then Z5 ((s.take s.length).drop (x.length:Int).toNat) 1 fun w=>(fd (w.toNat:Int)).bind fun b=>bif b then
   bif decide ((1:Int)<=(((s.take s.length).drop (x.length:Int).toNat).length:Int))then(fr 171 ((((s.take s.length).drop (x.length:Int).toNat).take ((s.take s.length).drop (x.length:Int).toNat).length).drop 1)).bind fun y=>Q8 [46] y fun z=>Q8 x z fun t=>A8m fp t k else none
   else A8m fp x k else A8m fp x k else A8m fp x k else none
theorem D4h (fr:FuncId->List UInt8->Option (List UInt8))(fd:Int->Option Bool)(fp:List UInt8->Option (Int×Int×Bool))(fu:Nat)(s:List UInt8) :
 C6 (F8 [(174,A3s fr),(171,tcB fd),(220,tD3 fp)] [] []) I4 fu false Tryz.f172 [.str s]=C40 fr fd fp s fun t n b=>some (.tuple [.agg t.cells,.int .i64 n,.bool b]):=by kernel_rfl
abbrev sgW:List UInt8:=[40,41,44,46,43,45,42,47,37,61,60,62]
def B9j {R:Type}(ft:List UInt8->List UInt8->Option Bool)(s:List UInt8)(k:TR->Int->Bool->Option R):Option R :=
 bif decide ((1:Int)<=(s.length:Int))then bif decide ((1:Int)<=(s.length:Int))then(ft sgW ((s.take 1).drop 0)).bind fun b=>k ⟨3,0,(s.take 1).drop 0,0,0,0,[]⟩ 1 b else none else none
def B7c {R:Type}(fc:Nat->List PV->List UInt8->Option Bool)(ft:List UInt8->List UInt8->Option Bool)(s:List UInt8)(k:TR->Int->Bool->Option R):Option R :=
 bif decide ((1:Int)<(s.length:Int))then bif decide ((2:Int)<=(s.length:Int))then(fc 3 [.str [60,61],.str [62,61],.str [60,62]] ((s.take 2).drop 0)).bind fun b=>bif b then(bif decide ((2:Int)<=(s.length:Int))then k ⟨3,0,(s.take 2).drop 0,0,0,0,[]⟩ 2 true else none)else B9j ft s k else none else B9j ft s k
theorem D0a (fc:Nat->List PV->List UInt8->Option Bool)(ft:List UInt8->List UInt8->Option Bool)(fu:Nat)(s:List UInt8) :
 C6 (F8 [(184,tCn fc),(223,D73 ft)] [] []) I4 fu false Tryz.f178 [.str s]=B7c fc ft s fun t n b=>some (.tuple [.agg t.cells,.int .i64 n,.bool b]):=by kernel_rfl
structure FTk where
 fl:List UInt8->Option (TR×Int×Bool)
 fq:List UInt8->Option (List UInt8)
 fd:Int->Option Bool
 fn:List UInt8->Option (TR×Int×Bool)
 fg:Int->Option Bool
 fr:FuncId->List UInt8->Option (List UInt8)
 fk:Option (Option Bool×Nat×List PV)
 fb:Nat->List PV->List UInt8->Option (Int×Bool)
 fs:Int->Option Bool
 fx:List UInt8->Option (TR×Int×Bool)
noncomputable def F93 (F:FTk):K6:=F8 [(169,tTk F.fl),(170,tS1 F.fq),(171,tcB F.fd),(172,tTk F.fn),(173,tcB F.fg),(174,A3s F.fr),(176,A59 F.fk),(175,tBs F.fb),(177,tcB F.fs),(178,tTk F.fx)] [] []
def B9e {R:Type}(F:FTk)(v:UInt8)(s:List UInt8)(k:TR->Int->Bool->Option R):Option R :=
 (F.fd (v.toNat:Int)).bind fun b=>bif b then(F.fn s).bind fun t=>k t.1 t.2.1 t.2.2 else(F.fg (v.toNat:Int)).bind fun b=>bif b then(F.fr 173 s).bind fun w=>F.fk.bind fun ks=>(F.fb ks.2.1 ks.2.2 w).bind fun r=>k ⟨1,0,w,0,0,0,[]⟩ (w.length:Int) r.2
 else(F.fs (v.toNat:Int)).bind fun b=>bif b&&!((v.toNat:Int)==95)then(F.fr 177 s).bind fun w=>k ⟨0,0,w,0,0,0,[]⟩ (w.length:Int) (decide ((w.length:Int)<=24))else(F.fx s).bind fun t=>k t.1 t.2.1 t.2.2
def C4g {R:Type}(F:FTk)(s:List UInt8)(k:TR->Int->Bool->Option R):Option R :=
 Z5 s 0 fun v=>bif(v.toNat:Int)==39 then(F.fq s).bind fun q=>(F.fl q).bind fun t=>k t.1 t.2.1 t.2.2 else
  bif(bif(v.toNat:Int)==88 then decide ((1:Int)<(s.length:Int))else false)then Z5 s 1 fun w=>bif(w.toNat:Int)==39 then
   (bif decide ((1:Int)<=(s.length:Int))then(F.fq ((s.take s.length).drop 1)).bind fun q=>bif q==[]then k TR.zero 0 false else Q8 [88] q fun z=>(F.fl z).bind fun t=>k t.1 t.2.1 t.2.2 else none)
   else B9e F v s k else B9e F v s k
theorem D9j (F:FTk)(fu:Nat)(s:List UInt8):C6 (F93 F) I4 fu false Tryz.f94 [.str s]=C4g F s fun t n b=>some (.tuple [.agg t.cells,.int .i64 n,.bool b]):=by kernel_rfl
def hLx:B4:=⟨[],[(0,⟨[(0,false),(5,true),(6,false)],[]⟩)]⟩
def C53 (s:List UInt8)(no:Option Bool)(lo:Nat)(co:List PV)(i:Int):St:=frame 50 [(0,(.str s,0)),(5,(.sl no 7 lo co,57)),(6,(.int .i64 i,0))] []
noncomputable def fLx:Func:=Tryz.f51
noncomputable def E8s (ft:List UInt8->Option (TR×Int×Bool)):K6:=F8 [(94,tTk ft)] [] []
noncomputable def lxL (ft:List UInt8->Option (TR×Int×Bool))(fu n:Nat)(st:St):Option PV:=N3 (E8s ft) hLx fu false fLx [1,1,1,0,1,0] 0 n st
def C0q {R:Type}(l m:Nat)(x:Option R):Option R:=bif decide (l+m<=9223372036854775807)&&decide ((l+m) * 72<=140737488355328)then x else none
theorem E8v (ft:List UInt8->Option (TR×Int×Bool))(fu:Nat)(s:List UInt8):C6 (E8s ft) hLx fu false fLx [.str s]=bif decide ((2000:Int)<(s.length:Int))then some (.tuple [.sl (some true) 7 0 [],.int .i64 2000,.int .i64 170])else lxL ft fu fu (C53 s (some true) 0 [] 0):=L9.trans (by kernel_rfl)
def lxT {R:Type}(ft:List UInt8->Option (TR×Int×Bool))(s:List UInt8)(i:Int)(lo:Nat)(bad:Option R)(K:TR->Int->Option R):Option R :=
 bif decide (0<=i)&&decide (i<=(s.length:Int))then(ft ((s.take s.length).drop i.toNat)).bind fun t=>bif !t.2.2 then bad else C0q lo 1 (K ⟨t.1.k,i,t.1.t,t.1.vk,t.1.vn,t.1.vc,t.1.vs⟩ (IntKind.i64.wrap (i+t.2.1)))else none
theorem D9h (ft:List UInt8->Option (TR×Int×Bool))(fu:Nat)(s:List UInt8)(no:Option Bool)(lo:Nat)(co:List PV)(i:Int)(K:St->Option PV) :
 P1 (E8s ft) hLx fu false fLx [1,1,1,0,1,0] (C53 s no lo co i) (fun st=>C2 (hLx.loop.lookup 0) st K)=
 bif decide (i<(s.length:Int))then Z5 s i fun v=>bif !((v.toNat:Int)==32)then Z5 s i fun w=>bif(w.toNat:Int)==10 then K (C53 s no lo co (IntKind.i64.wrap (i+1)))else
   lxT ft s i lo (some (.tuple [.sl (some true) 7 0 [],.int .i64 i,.int .i64 170])) fun t j=>K (C53 s (no.map (·&& false)) (lo+1) (co++t.cells) j)
  else K (C53 s no lo co (IntKind.i64.wrap (i+1)))
 else some (.tuple [.sl no 7 lo co,.int .i64 0,.int .i64 0]):=by kernel_rfl
def J2 (c:UInt8):Bool:=decide (48<=(c.toNat:Int))&&decide ((c.toNat:Int)<=57)
def P3 (c:UInt8):Bool:=decide (65<=(c.toNat:Int))&&decide ((c.toNat:Int)<=90)
def Y4 (c:UInt8):Bool:=bif !(decide (97<=(c.toNat:Int))&&decide ((c.toNat:Int)<=122))then J2 c||(c.toNat:Int)==95 else true
def B2f (c:Int):Option Bool:=some (decide (48<=c)&&decide (c<=57))
def D63 (c:Int):Option Bool:=some (decide (65<=c)&&decide (c<=90))
def D7l (c:Int):Option Bool:=some (bif !(decide (97<=c)&&decide (c<=122))then(decide (48<=c)&&decide (c<=57))||c==95 else true)
theorem A7u:D8 F6 Ws 171 (tcB B2f):=A9e D4 A2 A7 (h:=I4) Tryz.func171 rfl (by decide) fun c r h=>⟨0,by rw[D7u 0 c];injection h with h;rw[h]⟩
theorem D75:D8 F6 Ws 173 (tcB D63):=A9e D4 A2 A7 (h:=I4) Tryz.func173 rfl (by decide) fun c r h=>⟨0,by rw[D0w 0 c];injection h with h;rw[h]⟩
theorem C90:D8 F6 Ws 177 (tcB D7l):=A9e D4 (A0 A7u A2) A7 (h:=I4) Tryz.func177 rfl (by decide) fun c r h=>⟨0,by
 rw[D4o B2f 0 c];injection h with h;rw[<-h]
 cases decide (97<=c)&&decide (c<=122)<;>rfl⟩
theorem A0i {p:UInt8->Bool}{L:Nat->St->Option PV}{s:List UInt8}{m:FuncId}(hs:s.length<=100000)
  (hL:∀n i,L (n+1) (A09 s m (s.length:Int) i)=bif decide (i<(s.length:Int))then Z5 s i fun v=>bif !p v then sl0 s i fun r=>some (.str r)else L n (A09 s m (s.length:Int) (IntKind.i64.wrap (i+1)))else some (.str s)) :
  ∀(k i n:Nat),i+k=s.length->k<n->L n (A09 s m (s.length:Int) (i:Int))=some (.str (s.take i++(s.drop i).takeWhile p))
 |k,i,0,_,h=>by omega
 |0,i,n+1,hi,hn=>by
  rw[hL,B1 (decide_eq_false (by omega)),Cy (by omega),Bb (by omega)];simp
 |k+1,i,n+1,hi,hn=>by
  have hc:=Ag (l:=s) (i:=i) (by omega);have ht:s.take (i+1)=s.take i++[s[i]'(by omega)]:=Ce (by omega);have ih:=A0i hs hL k (i+1) n (by omega) (by omega);rw[hL,A4 (decide_eq_true (by omega)),F0 hc,Av (show i<s.length by omega),Da,B2 (by omega) (by omega)]
  cases hp:p (s[i]'(by omega))with
  |false =>
   unfold sl0;simp only[Ar,cond_true,At,Bt];rw[A4 (by simp only[Ae,decide_eq_true_eq];omega)];simp
  |true =>
   simp only[Au,cond_false,if_true];rw[ht]at ih;refine Cw ?_ (ih.trans (by rw[Al];rfl));congr 1
def B50 (p:UInt8->Bool)(s:List UInt8):Option (List UInt8):=bif decide (s.length<=100000)then some (s.takeWhile p)else none
def A2g (n:FuncId)(s:List UInt8):Option (List UInt8):=if n=171 then B50 J2 s else if n=173 then B50 P3 s else if n=177 then B50 Y4 s else none
theorem F5l {s:List UInt8}(hs:s.length<=100000):∃fu,C6 (F8 [(171,tcB B2f)] [] []) hRw fu false fRw [.str s,.clo 171 []]=some (.str (s.takeWhile J2)) :=
 ⟨s.length+1,(E2d B2f _ s).trans (A0i (p:=J2) (L:=F2a B2f (s.length+1)) hs (fun n i=>by unfold F2a;rw[B6,D20];rfl) s.length 0 _ (by omega) (by omega))⟩
theorem F3s {s:List UInt8}(hs:s.length<=100000):∃fu,C6 (F8 [(173,tcB D63)] [] []) hRw fu false fRw [.str s,.clo 173 []]=some (.str (s.takeWhile P3)) :=
 ⟨s.length+1,(E66 D63 _ s).trans (A0i (p:=P3) (L:=E9i D63 (s.length+1)) hs (fun n i=>by unfold E9i;rw[B6,D2i];rfl) s.length 0 _ (by omega) (by omega))⟩
theorem F6z {s:List UInt8}(hs:s.length<=100000):∃fu,C6 (F8 [(177,tcB D7l)] [] []) hRw fu false fRw [.str s,.clo 177 []]=some (.str (s.takeWhile Y4)) :=
 ⟨s.length+1,(E0m D7l _ s).trans (A0i (p:=Y4) (L:=F0y D7l (s.length+1)) hs (fun n i=>by unfold F0y;rw[B6,D4a];rfl) s.length 0 _ (by omega) (by omega))⟩
theorem A8n {m:FuncId}{p:D5}(hp:D8 F6 Ws m p){q:UInt8->Bool}(hr:∀s:List UInt8,s.length<=100000->∃fu,C6 (F8 [(m,p)] [] []) hRw fu false fRw [.str s,.clo m []]=some (.str (s.takeWhile q))) :
  D8 F6 Ws 174 (A3s fun n s=>if n=m then B50 q s else none) :=
 bG D4 (A0 hp A2) A7 B3 (h:=hRw) Tryz.func174 rfl (by decide) (B2h _) fun xs r h=>by
  simp only[A3s]at h;split at h
  ·obtain⟨x,hx,h3⟩:=Ab.1 h;obtain⟨hn,hx2⟩:=A5 hx;subst hn;unfold B50 at hx2;obtain⟨hs,hx3⟩:=B8 hx2;injection hx3 with hx4;subst hx4;obtain⟨fu,hr⟩:=hr _ (of_decide_eq_true hs);exact⟨fu,hr.trans h3⟩
  ·cases h
theorem D8n:D8 F6 Ws 174 (A3s A2g) where
 nat:=B2h _
 call :=fun M xs vs r hW hng hg hr hF=>by
  have hd:=A8n A7u (q:=J2) fun s hs=>F5l hs;have hgr:=A8n D75 (q:=P3) fun s hs=>F3s hs;have hsm:=A8n C90 (q:=Y4) fun s hs=>F6z hs;simp only[A3s]at hF;split at hF
  ·rename_i s n;obtain⟨x,hx,h3⟩:=Ab.1 hF;unfold A2g at hx;split at hx
   ·rename_i hn;exact hd.call M _ vs r hW hng hg hr (by simp only[A3s];rw[if_pos hn,hx];exact h3)
   ·split at hx
    ·rename_i hn;exact hgr.call M _ vs r hW hng hg hr (by simp only[A3s];rw[if_pos hn,hx];exact h3)
    ·split at hx
     ·rename_i hn;exact hsm.call M _ vs r hW hng hg hr (by simp only[A3s];rw[if_pos hn,hx];exact h3)
     ·cases hx
  ·cases hF
def oJ:List UInt8->Option (List UInt8×List UInt8×List UInt8)
 |[]=>none
 |[c]=>if c=39 then some ([],[],[])else none
 |c::d::t=>if c=39 then(if d=39 then(oJ t).map fun r=>(39::39::r.1,39::r.2.1,r.2.2)else some ([],[],d::t))else(oJ (d::t)).map fun r=>(c::r.1,c::r.2.1,r.2.2)
theorem iX:∀(k:Nat) (l:List UInt8) (r u x:List UInt8),l.length<=k->oJ l=some (r,u,x)->Dbl r u/\l=r++39::x/\x.head?≠some 39
 |_,[],r,u,x,_,h=>by cases h
 |_,[c],r,u,x,_,h=>by
  rw[oJ]at h;obtain⟨hc,h⟩:=A5 h;injection h with h;injection h with h1 h;injection h with h2 h3;subst h1 h2 h3 hc;exact⟨.nil,rfl,by simp⟩
 |0,c::d::t,r,u,x,hk,h=>by simp at hk
 |k+1,c::d::t,r,u,x,hk,h=>by
  rw[oJ]at h
  by_cases hc:c=39
  ·rw[if_pos hc]at h
   by_cases hd:d=39
   ·rw[if_pos hd]at h;obtain⟨⟨r',u',x'⟩,hq,h⟩:=Am.1 h;injection h with h1 h;injection h with h2 h3;subst h1 h2 h3 hc hd;obtain⟨g1,g2,g3⟩:=iX k t r' u' x' (by simp at hk;omega) hq;exact⟨.q g1,by rw[g2];rfl,g3⟩
   ·rw[if_neg hd]at h;injection h with h;injection h with h1 h;injection h with h2 h3;subst h1 h2 h3 hc;exact⟨.nil,rfl,by simpa using hd⟩
  ·rw[if_neg hc]at h;obtain⟨⟨r',u',x'⟩,hq,h⟩:=Am.1 h;injection h with h1 h;injection h with h2 h3;subst h1 h2 h3;obtain⟨g1,g2,g3⟩:=iX k (d::t) r' u' x' (by simp at hk ⊢;omega) hq;exact⟨.c hc g1,by rw[g2];rfl,g3⟩
def quV (s:List UInt8)(i:Nat):List UInt8:=match oJ (s.drop i)with
 |none=>[]
 |some r=>s.take (i+r.1.length+1)
theorem n39 {c:UInt8}:((c.toNat:Int)==39)=decide (c=39):=by
 by_cases h:c=39
 ·subst h;rfl
 ·rw[decide_eq_false h,beq_eq_false_iff_ne];intro e;apply h;apply Du.1;have:(39:UInt8).toNat=39:=rfl;omega
theorem B0q (fu:Nat)(s:List UInt8)(hs:s.length<=100000):∀(k i n:Nat),i+k=s.length->k<n->quL fu n (D3b s (i:Int))=some (.str (quV s i))
 |k,i,0,_,h=>by omega
 |0,i,n+1,hi,hn=>by
  unfold quL quV;rw[B6,C3m,B1 (decide_eq_false (by omega)),Bb (by omega),oJ]
 |k+1,i,n+1,hi,hn=>by
  have hc:=Ag (l:=s) (i:=i) (by omega);have hd:=Av (show i<s.length by omega);generalize s[i]'(by omega)=c at hc hd;have ih:=B0q fu s hs k (i+1) n (by omega) (by omega)
  have e1:(i:Int)+1=((i+1:Nat):Int):=by omega
  have ends:∀x,oJ (s.drop i)=some ([],x)->sl0 s ((i+1:Nat):Int) (fun r=>some (PV.str r))=some (.str (quV s i)):=fun x hx=>by
   unfold sl0 quV;rw[hx,A4 (by simp only[Ae,decide_eq_true_eq];omega),At];rfl
  unfold quL at ih ⊢;rw[B6,C3m,A4 (decide_eq_true (by omega)),F0 hc,B2 (by omega) (by omega),n39,e1]
  by_cases hq:c=39
  ·rw[decide_eq_true hq];simp only[Au,cond_false]
   cases k with
   |zero =>
    rw[B1 (decide_eq_false (by omega))];have hx:s.drop (i+1)=[]:=Bb (by omega);exact ends ([],[]) (by rw[hd,hx,oJ,if_pos hq])
   |succ k =>
    have hc2:=Ag (l:=s) (i:=i+1) (by omega);have hd2:=Av (show i+1<s.length by omega);generalize s[i+1]'(by omega)=d at hc2 hd2;rw[A4 (decide_eq_true (by omega)),F0 hc2,n39]
    by_cases hq2:d=39
    ·have ih2:=B0q fu s hs k (i+1+1) n (by omega) (by omega);unfold quL at ih2;rw[decide_eq_true hq2,cond_true,B2 (by omega) (by omega),show((i+1:Nat):Int)+1=((i+1+1:Nat):Int)by omega];refine ih2.trans ?_;unfold quV;rw[hd,hd2,oJ,if_pos hq,if_pos hq2]
     cases oJ (s.drop (i+1+1))with
     |none=>rfl
     |some r =>
      show some (PV.str (s.take (i+1+1+r.1.length+1)))=some (PV.str (s.take (i+(39::39::r.1).length+1)));rw[show i+(39::39::r.1).length+1=i+1+1+r.1.length+1 by simp only[Ac];omega]
    ·rw[decide_eq_false hq2,cond_false];exact ends ([],d::s.drop (i+1+1)) (by rw[hd,hd2,oJ,if_pos hq,if_neg hq2])
  ·rw[decide_eq_false hq];simp only[Ar,cond_true];refine ih.trans ?_;unfold quV;rw[hd]
   have:oJ (c::s.drop (i+1))=(oJ (s.drop (i+1))).map fun r=>(c::r.1,c::r.2.1,r.2.2):=by
    cases s.drop (i+1)with
    |nil =>
     show(if c=39 then some ([],[],[])else none)=none;rw[if_neg hq]
    |cons d t=>rw[oJ,if_neg hq]
   rw[this]
   cases oJ (s.drop (i+1))with
   |none=>rfl
   |some r =>
    show some (PV.str (s.take (i+1+r.1.length+1)))=some (PV.str (s.take (i+(c::r.1).length+1)));rw[show i+(c::r.1).length+1=i+1+r.1.length+1 by simp only[Ac];omega]
def quD (s:List UInt8):Option (List UInt8):=bif decide (1<=s.length)&&decide (s.length<=100000)then some (quV s 1)else none
theorem F6e:D8 F6 Ws 170 (tS1 quD):=C2n D4 A2 A7 (h:=hQu) Tryz.func170 rfl (by decide) fun s r h=>by
 unfold quD at h;obtain⟨hs,h⟩:=B8 h;injection h with h;subst h;simp only[Ae,decide_eq_true_eq]at hs;exact⟨s.length+1,(F0n _ s).trans (B0q _ s hs.2 (s.length-1) 1 _ (by omega) (by omega))⟩
def A84:List UInt8:=[65,68,68,32,65,76,84,69,82,32,65,78,68,32,65,83,32,66,79,79,76,32,66,89,32,66,89,84,69,83,32,67,65,83,84,32,67,79,76,85,77,78,32,67,79,85,78,84,32,67,82,69,65,84,69,32,68,69,67,73,77,65,76,32,68,69,70,65,85,76,84,32,68,69,76,69,84,69,32,68,69,83,67,32,68,82,79,80,32,70,65,76,83,69,32,70,82,79,77,32,71,82,79,85,80,32,73,78,68,69,88,32,73,78,83,69,82,84,32,73,78,84,32,73,78,84,79,32,73,83,32,74,79,73,78,32,76,73,77,73,84,32,77,65,88,32,77,73,78,32,78,79,84,32,78,85,76,76,32,79,78,32,79,82,32,79,82,68,69,82,32,83,69,76,69,67,84,32,83,69,84,32,83,85,77,32,84,65,66,76,69,32,84,69,88,84,32,84,82,85,69,32,84,89,80,69,32,85,78,73,81,85,69,32,85,80,68,65,84,69,32,86,65,76,85,69,83,32,87,72,69,82,69]
def R7:List (List UInt8):=[[65,68,68],[65,76,84,69,82],[65,78,68],[65,83],[66,79,79,76],[66,89],[66,89,84,69,83],[67,65,83,84],[67,79,76,85,77,78],[67,79,85,78,84],[67,82,69,65,84,69],[68,69,67,73,77,65,76],[68,69,70,65,85,76,84],[68,69,76,69,84,69],[68,69,83,67],[68,82,79,80],[70,65,76,83,69],[70,82,79,77],[71,82,79,85,80],[73,78,68,69,88],[73,78,83,69,82,84],[73,78,84],[73,78,84,79],[73,83],[74,79,73,78],[76,73,77,73,84],[77,65,88],[77,73,78],[78,79,84],[78,85,76,76],[79,78],[79,82],[79,82,68,69,82],[83,69,76,69,67,84],[83,69,84],[83,85,77],[84,65,66,76,69],[84,69,88,84],[84,82,85,69],[84,89,80,69],[85,78,73,81,85,69],[85,80,68,65,84,69],[86,65,76,85,69,83],[87,72,69,82,69]]
theorem B2z:Lib.fields A84=R7:=by kernel_rfl
def yY:Option (Option Bool×Nat×List PV):=some (some false,R7.length,R7.flatMap pB)
theorem D44 (ff:List UInt8->Option (Option Bool×Nat×List PV)):C6 (F8 [(198,tWs ff)] [] []) I4 0 false Tryz.f176 []=(ff A84).bind fun r=>some (.sl r.1 1 r.2.1 r.2.2):=by kernel_rfl
theorem D6q:A32 A84=yY:=by
 unfold A32 yY;rw[B2z,A4 (by decide)]
theorem D9d:D8 F6 Ws 176 (A59 yY) :=
 bG D4 (A0 D23 A2) A7 B3 (h:=I4) Tryz.func176 rfl (by decide) (B4m _) fun xs r h=>by
  simp only[A59]at h;split at h
  ·refine⟨0,(D44 A32).trans ?_⟩;rw[D6q];exact h
  ·cases h
def bsD (n:Nat)(c:List PV)(w:List UInt8):Option (Int×Bool):=bif c.all A6w&&(decide (c.length=n)&&(decide (0<n)&&decide (n<=1000000)))then some ((fY c w:Int),decide (fY c w<n)&&vN c (fY c w)==w)else none
theorem F2g:D8 F6 Ws 175 (tBs bsD):=O3 F43 (E3g _) rfl fun xs r h=>by
 simp only[tBs]at h;split at h
 ·rename_i nl z n c w;obtain⟨hz,h2⟩:=A5 h;subst hz;obtain⟨q,hq,h3⟩:=Ab.1 h2;unfold bsD at hq;obtain⟨hb,hq2⟩:=B8 hq;injection hq2 with hq3;subst hq3;simp only[E1u,hb,cond_true];exact h3
 ·cases h
def B7b:List PV:=R7.flatMap pB
theorem B71:R7.all (fun w=>decide (fY B7b w<R7.length)&&vN B7b (fY B7b w)==w)=true:=by decide +kernel
theorem E0s:(List.range R7.length).all (fun i=>D1 R7 (vN B7b i))=true:=by decide +kernel
theorem A2q {l:List (List UInt8)}{w:List UInt8}:D1 l w=true↔w∈l:=by
 unfold D1;rw[List.any_eq_true];constructor
 ·rintro⟨x,hx,h⟩
  rw[beq_iff_eq]at h;exact h ▸ hx
 ·intro h;exact⟨w,h,beq_self_eq_true w⟩
theorem D9n (w:List UInt8):∃i,bsD R7.length (R7.flatMap pB) w=some (i,D1 R7 w):=by
 refine⟨(fY B7b w:Int),?_⟩;show bsD R7.length B7b w=_;unfold bsD;rw[A4 (by decide +kernel)];congr 2;rw[Df,A2q];constructor
 ·intro h;simp only[Ae,decide_eq_true_eq,beq_iff_eq]at h;have:=Bg.1 E0s (fY B7b w) (List.mem_range.2 h.1);rw[h.2]at this;exact A2q.1 this
 ·intro h;exact Bg.1 B71 w h
theorem C5c {α β:Type}{fp:List UInt8->Option (Int×Int×Bool)}{x:List UInt8}{k:TR->Int->Bool->Option α}{g:α->Option β}:(A8m fp x k).bind g=A8m fp x fun t n b=>(k t n b).bind g:=by simp only[A8m,B5,Ad]
theorem C70 {α β:Type}{fr:FuncId->List UInt8->Option (List UInt8)}{fd:Int->Option Bool}{fp:List UInt8->Option (Int×Int×Bool)}{s:List UInt8}{k:TR->Int->Bool->Option α}{g:α->Option β}:(C40 fr fd fp s k).bind g=C40 fr fd fp s fun t n b=>(k t n b).bind g:=by
 simp only[C40,B5,Ad,A4g,yB,C5c,eD]
def C75 (s:List UInt8):Option (TR×Int×Bool):=C40 A2g B2f pQ s fun t n b=>some (t,n,b)
theorem E4h:D8 F6 Ws 172 (tTk C75):=A0q D4 (A0 D8n (A0 A7u (A0 C14 A2))) A7 (h:=I4) Tryz.func172 rfl (by decide) fun s r h=>by
 refine⟨0,(D4h A2g B2f pQ 0 s).trans ?_⟩;have:=congrArg (fun o=>o.bind fun r:TR×Int×Bool=>some (PV.tuple [.agg r.1.cells,.int .i64 r.2.1,.bool r.2.2])) h;simp only[C75,C70,Aa]at this;exact this
def D6i (s t:List UInt8):Option Bool:=match t with
 |[c]=>some (decide (0<=Lib.indexByte s c))
 |_=>none
theorem E5r:D8 F6 Ws 223 (D73 D6i):=O3 E8m (D2o _) rfl fun xs r h=>by
 simp only[D73]at h;split at h
 ·rename_i s t;obtain⟨q,hq,h⟩:=Ab.1 h;unfold D6i at hq;split at hq
  ·exact h
  ·exact absurd hq (by simp)
 ·cases h
theorem C6a {α β:Type}{ft:List UInt8->List UInt8->Option Bool}{s:List UInt8}{k:TR->Int->Bool->Option α}{g:α->Option β}:(B9j ft s k).bind g=B9j ft s fun t n b=>(k t n b).bind g:=by simp only[B9j,B5,Ad,eD]
theorem C6o {α β:Type}{fc:Nat->List PV->List UInt8->Option Bool}{ft:List UInt8->List UInt8->Option Bool}{s:List UInt8}{k:TR->Int->Bool->Option α}{g:α->Option β}:(B7c fc ft s k).bind g=B7c fc ft s fun t n b=>(k t n b).bind g:=by
 simp only[B7c,B5,Ad,C6a,eD]
def B99 (s:List UInt8):Option (TR×Int×Bool):=B7c A2r D6i s fun t n b=>some (t,n,b)
theorem D96:D8 F6 Ws 178 (tTk B99):=A0q D4 (A0 (B0e D4) (A0 E5r A2)) A7 (h:=I4) Tryz.func178 rfl (by decide) fun s r h=>by
 refine⟨0,(D0a A2r D6i 0 s).trans ?_⟩;have:=congrArg (fun o=>o.bind fun r:TR×Int×Bool=>some (PV.tuple [.agg r.1.cells,.int .i64 r.2.1,.bool r.2.2])) h;simp only[B99,C6o,Aa]at this;exact this
def C7g:FTk:=⟨B1v,quD,B2f,C75,D63,A2g,yY,bsD,D7l,B99⟩
theorem C57 {α β:Type}{F:FTk}{v:UInt8}{s:List UInt8}{k:TR->Int->Bool->Option α}{g:α->Option β}:(B9e F v s k).bind g=B9e F v s fun t n b=>(k t n b).bind g:=by
 simp only[B9e,B5,Ad,eD]
theorem C69 {α β:Type}{F:FTk}{s:List UInt8}{k:TR->Int->Bool->Option α}{g:α->Option β}:(C4g F s k).bind g=C4g F s fun t n b=>(k t n b).bind g:=by
 simp only[C4g,B5,Ad,A4g,yB,C57,eD]
def C5t (s:List UInt8):Option (TR×Int×Bool):=C4g C7g s fun t n b=>some (t,n,b)
theorem D9a:D8 F6 Ws 94 (tTk C5t):=A0q D4 (A0 E1x (A0 F6e (A0 A7u (A0 E4h (A0 D75 (A0 D8n (A0 D9d (A0 F2g (A0 C90 (A0 D96 A2)))))))))) A7 (h:=I4) Tryz.func94 rfl (by decide) fun s r h=>by
 refine⟨0,(D9j C7g 0 s).trans ?_⟩;have:=congrArg (fun o=>o.bind fun r:TR×Int×Bool=>some (PV.tuple [.agg r.1.cells,.int .i64 r.2.1,.bool r.2.2])) h;simp only[C5t,C69,Aa]at this;exact this
def A3q (v:cX):TR:=⟨2,0,[],v.kind,v.n,v.scale,v.s⟩
def jI (p:Int×Nat):TR:=bif decide (0<p.2)then⟨2,0,[],3,p.1,p.2,[]⟩else⟨2,0,[],2,p.1,0,[]⟩
def H9 (s:List UInt8):List UInt8:=match s.drop (s.takeWhile J2).length with
 |v::w::t=>bif v==46&&J2 w then s.takeWhile J2++46::(w::t).takeWhile J2 else s.takeWhile J2
 |_=>s.takeWhile J2
def sg2:List (List UInt8):=[[60,61],[62,61],[60,62]]
def sgC (c:UInt8):Bool:=decide (0<=Lib.indexByte sgW c)
def jU:List UInt8->Option (TR×Nat)
 |[]=>none
 |[c]=>bif sgC c then some (⟨3,0,[c],0,0,0,[]⟩,1)else none
 |c::d::_=>bif D1 sg2 [c,d]then some (⟨3,0,[c,d],0,0,0,[]⟩,2)else bif sgC c then some (⟨3,0,[c],0,0,0,[]⟩,1)else none
def fU:List UInt8->Option (TR×Nat)
 |[]=>none
 |c::t =>
  if c=39 then(oJ t).bind fun r=>bif(A06 r.2.1).2 then some (A3q (A06 r.2.1).1,r.1.length+2)else none
  else if c=88/\t.head? =some 39 then(oJ t.tail).bind fun r=>bif(zW r.2.1).2 then some (A3q (zW r.2.1).1,r.1.length+3)else none
  else if J2 c then(S5 (H9 (c::t))).map fun p=>(jI p,(H9 (c::t)).length)
  else if P3 c then bif D1 R7 ((c::t).takeWhile P3)then some (⟨1,0,(c::t).takeWhile P3,0,0,0,[]⟩,((c::t).takeWhile P3).length)else none
  else if Y4 c/\c≠95 then bif decide (((c::t).takeWhile Y4).length<=24)then some (⟨0,0,(c::t).takeWhile Y4,0,0,0,[]⟩,((c::t).takeWhile Y4).length)else none
  else jU (c::t)
theorem jG (v w:UInt8):((v.toNat:Int)==(w.toNat:Int))=(v==w):=by
 rw[Df,beq_iff_eq,beq_iff_eq];constructor
 ·intro h;apply Du.1;omega
 ·rintro rfl;rfl
theorem iN {p:UInt8->Bool}(s:List UInt8):(s.takeWhile p).length<=s.length:=(List.takeWhile_prefix p).length_le
def A8y (x:List UInt8):TR×Int×Bool:=match S5 x with
 |none=>(⟨2,0,[],2,0,0,[]⟩,(x.length:Int),false)
 |some p=>(jI p,(x.length:Int),true)
theorem uW {x:List UInt8}(h:x.length<=4000):A8m pQ x (fun t n b=>some (t,n,b))=some (A8y x):=by
 unfold A8m pQ A8y jI;rw[A4 (decide_eq_true h),Aa]
 cases S5 x with
 |none=>rfl
 |some p =>
  show(bif decide ((0:Int)<(p.2:Int))then _ else _)=_;rw[show decide ((0:Int)<(p.2:Int))=decide (0<p.2)by by_cases h:0<p.2<;>simp[h]];simp only[Option.elim_some,Option.isSome_some]
  cases decide (0<p.2)<;>rfl
theorem zQ (s:List UInt8):(H9 s).length<=s.length:=by
 unfold H9;have h1:=iN (p:=J2) s;split
 ·rename_i v w t h;have h2:=congrArg Bn h;rw[Ax]at h2;simp only[Ac]at h2
  cases v==46&&J2 w with
  |false=>exact h1
  |true =>
   have h3:=iN (p:=J2) (w::t);simp only[cond_true,Af,Ac]at h3 ⊢;omega
 ·exact h1
theorem E3u {s:List UInt8}(h:s.length<=2000):C75 s=some (A8y (H9 s)):=by
 have h1:=iN (p:=J2) s;have hl:=zQ s;unfold C75 C40
 have hr:∀x:List UInt8,x.length<=100000->A2g 171 x=some (x.takeWhile J2):=fun x hx=>by
  unfold A2g B50;rw[if_pos rfl,A4 (decide_eq_true hx)]
 rw[hr s (by omega),Aa,A4 (by simp only[Ae,decide_eq_true_eq];omega),Do,At];rw[H9]at hl ⊢;rcases hd:s.drop (s.takeWhile J2).length with _|⟨v,_|⟨w,t⟩⟩
 ·rw[B1 (by rfl)];exact uW (by omega)
 ·rw[B1 (by rfl)];exact uW (by omega)
 ·rw[hd]at hl;have h2:=congrArg Bn hd;rw[Ax]at h2;simp only[Ac]at h2;rw[A4 (decide_eq_true (by simp only[Ac];omega)),show(0:Int)=((0:Nat):Int)from rfl,F0 (c:=v) (by rfl),show((v.toNat:Int)==46)=(v==46)from jG v 46];simp only at hl ⊢
  cases hv:v==46 with
  |false =>
   simp only[cond_false,Cs];exact uW (by omega)
  |true =>
   rw[cond_true,show(1:Int)=((1:Nat):Int)from rfl,F0 (c:=w) (by rfl),Ba];show(some (J2 w)).bind _=_;rw[Aa];rw[hv,Ba]at hl
   cases hw:J2 w with
   |false =>
    simp only[cond_false];exact uW (by omega)
   |true =>
    rw[hw]at hl;simp only[cond_true]at hl ⊢;rw[A4 (decide_eq_true (by simp only[Ac];omega)),Do,Db,Bt,hr (w::t) (by simp only[Ac];omega),Aa];have h3:=iN (p:=J2) (w::t);rw[E5 (by simp only[Ac,Ai]at h3 ⊢;omega),E5 (by simp only[Ac,Ai,Af]at hl h3 ⊢;omega)];exact uW (by simp only[Af,Ac,Ai]at hl ⊢;omega)
def oL (o:Option (TR×Int×Bool))(v:Option (TR×Nat)):Prop:=∃q n b,o=some (q,n,b)/\match v with
 |none=>b=false
 |some r=>b=true/\q=r.1/\n=(r.2:Int)
theorem C1x (c:UInt8)(t:List UInt8):B9j D6i (c::t) (fun t n b=>some (t,n,b))=some (⟨3,0,[c],0,0,0,[]⟩,1,sgC c):=by
 unfold B9j;have:decide ((1:Int)<=(((c::t).length:Nat):Int))=true:=decide_eq_true (by simp only[Ac];omega);rw[this];rfl
theorem E1g {s:List UInt8}(hs:s≠[]):oL (B99 s) (jU s):=by
 rcases s with _|⟨c,_|⟨d,t⟩⟩
 ·exact absurd rfl hs
 ·unfold B99 B7c;rw[B1 (by rfl),C1x,jU];refine⟨_,_,_,rfl,?_⟩
  cases sgC c with
  |false=>rfl
  |true=>exact⟨rfl,rfl,rfl⟩
 ·unfold B99 B7c;rw[A4 (decide_eq_true (by simp only[Ac];omega)),A4 (decide_eq_true (by simp only[Ac];omega)),A4 (decide_eq_true (by simp only[Ac];omega)),C1x,jU];have:A2r 3 [.str [60,61],.str [62,61],.str [60,62]] (((c::d::t).take 2).drop 0)=some (D1 sg2 [c,d]):=rfl;rw[this,Aa]
  cases D1 sg2 [c,d]with
  |true=>exact⟨_,_,_,rfl,rfl,rfl,rfl⟩
  |false =>
   refine⟨_,_,_,rfl,?_⟩;simp only[cond_false]
   cases sgC c with
   |false=>rfl
   |true=>exact⟨rfl,rfl,rfl⟩
theorem E4n:B1v []=some (⟨2,0,[],0,0,0,[]⟩,0,false):=by kernel_rfl
theorem D88 {s:List UInt8}{v:cX×Bool}(h:vS s=some v)(hs:s≠[]):B1v s=some (A3q v.1,(s.length:Int),v.2):=by
 unfold B1v E2b;rw[h,Aa,beq_eq_false_iff_ne.2 hs];simp[A3q]
theorem E76 {t:List UInt8}(h:(39::t).length<=2000):quD (39::t)=some (match oJ t with|none=>[]|some r=>qt r.1):=by
 unfold quD;rw[A4 (by simp only[Ae,decide_eq_true_eq,Ac]at h ⊢;omega)];unfold quV;rw[Db,Bt]
 cases hq:oJ t with
 |none=>rfl
 |some r =>
  obtain⟨h1,h2,-⟩:=iX _ t r.1 r.2.1 r.2.2 (Ak _) hq;show some ((39::t).take (1+r.1.length+1))=some (qt r.1);rw[show 1+r.1.length+1=(r.1.length+1)+1 by omega,Ek,h2];unfold qt;rw[List.take_append];simp[Cy]
theorem D67 {c:UInt8}{t:List UInt8}(hl:(c::t).length<=2000):oL (C5t (c::t)) (fU (c::t)):=by
 have hl':t.length<=1999:=by simp only[Ac]at hl;omega
 unfold C5t C4g;rw[show(0:Int)=((0:Nat):Int)from rfl,F0 (c:=c) (by rfl),show((c.toNat:Int)==39)=(c==39)from jG c 39,fU]
 by_cases h39:c=39
 ·subst h39;rw[beq_self_eq_true,cond_true,if_pos rfl];show oL ((quD (39::t)).bind fun q=>(B1v q).bind fun t=>some (t.1,t.2.1,t.2.2)) _;rw[E76 hl,Aa]
  cases hq:oJ t with
  |none =>
   simp only[E4n,Aa,Option.bind_none];exact⟨_,_,_,rfl,rfl⟩
  |some r =>
   obtain⟨h1,h2,-⟩:=iX _ t r.1 r.2.1 r.2.2 (Ak _) hq
   have h3:r.1.length<=2000:=by
    have:=congrArg Bn h2;simp only[Af,Ac]at this;omega
   simp only[Aa];rw[D88 (C5a h1 (by omega)) (by unfold qt;simp),Aa];refine⟨_,_,_,rfl,?_⟩
   cases h4:(A06 r.2.1).2 with
   |false=>rfl
   |true=>exact⟨rfl,rfl,by rw[qL]⟩
 rw[beq_eq_false_iff_ne.2 h39,cond_false,if_neg h39,show((c.toNat:Int)==88)=(c==88)from jG c 88]
 have hR :¬(c=88/\t.head? =some 39)->oL (B9e C7g c (c::t) fun t n b=>some (t,n,b)) (if J2 c then(S5 (H9 (c::t))).map fun p=>(jI p,(H9 (c::t)).length)
  else if P3 c then bif D1 R7 ((c::t).takeWhile P3)then some (⟨1,0,(c::t).takeWhile P3,0,0,0,[]⟩,((c::t).takeWhile P3).length)else none
  else if Y4 c/\c≠95 then bif decide (((c::t).takeWhile Y4).length<=24)then some (⟨0,0,(c::t).takeWhile Y4,0,0,0,[]⟩,((c::t).takeWhile Y4).length)else none
  else jU (c::t)):=fun _=>by
  unfold B9e;show oL ((some (J2 c)).bind _) _;rw[Aa]
  cases hd:J2 c with
  |true =>
   simp only[cond_true,if_true];show oL ((C75 (c::t)).bind _) _;rw[E3u hl,Aa];unfold A8y
   cases S5 (H9 (c::t))with
   |none=>exact⟨_,_,_,rfl,rfl⟩
   |some p=>exact⟨_,_,_,rfl,rfl,rfl,rfl⟩
  |false =>
   simp only[cond_false,Bp,if_false];show oL ((some (P3 c)).bind _) _;rw[Aa]
   cases hg:P3 c with
   |true =>
    simp only[cond_true,if_true]
    have:C7g.fr 173 (c::t)=some ((c::t).takeWhile P3):=by
     show A2g 173 (c::t)=_;unfold A2g B50;rw[if_neg (by decide),if_pos rfl,A4 (decide_eq_true (by omega))]
    rw[this,Aa];rw[show C7g.fk=some (some false,R7.length,R7.flatMap pB)from rfl,Aa];show oL ((bsD R7.length (R7.flatMap pB) ((c::t).takeWhile P3)).bind _) _;obtain⟨i,hi⟩:=D9n ((c::t).takeWhile P3);rw[hi,Aa];refine⟨_,_,_,rfl,?_⟩
    cases D1 R7 ((c::t).takeWhile P3)with
    |false=>rfl
    |true=>exact⟨rfl,rfl,rfl⟩
   |false =>
    simp only[cond_false,Bp,if_false];show oL ((some (Y4 c)).bind _) _;rw[Aa,show((c.toNat:Int)==95)=(c==95)from jG c 95]
    by_cases hs:Y4 c=true/\c≠95
    ·rw[if_pos hs,hs.1,beq_eq_false_iff_ne.2 hs.2];simp only[Ba,Ar,cond_true]
     have:C7g.fr 177 (c::t)=some ((c::t).takeWhile Y4):=by
      show A2g 177 (c::t)=_;unfold A2g B50;rw[if_neg (by decide),if_neg (by decide),if_pos rfl,A4 (decide_eq_true (by omega))]
     rw[this,Aa];refine⟨_,_,_,rfl,?_⟩
     rw[show decide ((((c::t).takeWhile Y4).length:Int)<=24)=decide (((c::t).takeWhile Y4).length<=24)by
      by_cases h:((c::t).takeWhile Y4).length<=24
      ·rw[decide_eq_true h,decide_eq_true (by omega)]
      ·rw[decide_eq_false h,decide_eq_false (by omega)]]
     cases decide (((c::t).takeWhile Y4).length<=24)with
     |false=>rfl
     |true=>exact⟨rfl,rfl,rfl⟩
    ·rw[if_neg hs]
     have:(Y4 c&&!(c==95))=false:=by
      cases h:Y4 c with
      |false=>rfl
      |true =>
       have:c=95:=Decidable.byContradiction fun h2=>hs ⟨h,h2⟩;subst this;rfl
     rw[this,cond_false];show oL ((B99 (c::t)).bind _) _;obtain⟨q,n,b,h1,h2⟩:=E1g (s:=c::t) (by simp);rw[h1,Aa];exact⟨q,n,b,rfl,h2⟩
 by_cases h88:c=88
 ·subst h88;rw[beq_self_eq_true,cond_true];rcases t with _|⟨d,t⟩
  ·rw[decide_eq_false (by simp),cond_false,if_neg (by simp)];exact hR (by simp)
  ·rw[decide_eq_true (show(1:Int)<(((88:UInt8)::d::t).length:Int)by simp only[Ac];omega),cond_true,show(1:Int)=((1:Nat):Int)from rfl,F0 (c:=d) (by rfl),show((d.toNat:Int)==39)=(d==39)from jG d 39]
   by_cases hd:d=39
   ·subst hd;rw[beq_self_eq_true,cond_true,if_pos ⟨rfl,rfl⟩,A4 (decide_eq_true (by simp only[Ac];omega)),Do,Db,Bt,List.tail_cons];show oL ((quD (39::t)).bind fun q=>bif q==[]then some (TR.zero,0,false)else Q8 [88] q fun z=>(B1v z).bind fun t=>some (t.1,t.2.1,t.2.2)) _;rw[E76 (by simp only[Ac]at hl ⊢;omega),Aa]
    cases hq:oJ t with
    |none=>exact⟨_,_,_,rfl,rfl⟩
    |some r =>
     obtain⟨h1,h2,-⟩:=iX _ t r.1 r.2.1 r.2.2 (Ak _) hq
     have h3:r.1.length<=2000:=by
      have:=congrArg Bn h2;simp only[Af,Ac]at this hl';omega
     simp only[Aa];rw[show(qt r.1==[])=false from rfl,cond_false,E5 (by rw[qL];simp;omega),show [(88:UInt8)]++qt r.1=88::qt r.1 from rfl,D88 (B72 h1 (by omega)) (by simp),Aa];refine⟨_,_,_,rfl,?_⟩
     cases h4:(zW r.2.1).2 with
     |false=>rfl
     |true=>exact⟨rfl,rfl,by rw[Ac,qL]⟩
   ·rw[beq_eq_false_iff_ne.2 hd,cond_false,if_neg (by simpa using hd)];exact hR (by simpa using hd)
 ·rw[beq_eq_false_iff_ne.2 h88,cond_false,cond_false,if_neg (fun h=>h88 h.1)];exact hR fun h=>h88 h.1
theorem B97 {p:UInt8->Bool}{c:UInt8}{t:List UInt8}(h:p c=true):1<=((c::t).takeWhile p).length:=by
 rw[Da,if_pos h];simp
theorem B4y {c:UInt8}{t:List UInt8}(h:J2 c=true):1<=(H9 (c::t)).length:=by
 have h1:=B97 (t:=t) h;unfold H9;split
 ·rename_i v w u _
  cases v==46&&J2 w with
  |false=>exact h1
  |true=>simp only[cond_true,Af];omega
 ·exact h1
theorem D4m {c:UInt8}{t:List UInt8}{r:TR×Nat}(h:jU (c::t)=some r):1<=r.2/\r.2<=(c::t).length/\r.1.k=3/\r.1.t.head? =some c:=by
 rcases t with _|⟨d,t⟩
 ·rw[jU]at h;obtain⟨-,h⟩:=B8 h;injection h with h;subst h;exact⟨Ak _,Ak _,rfl,rfl⟩
 ·rw[jU]at h
  cases hc:D1 sg2 [c,d]with
  |true =>
   rw[hc]at h;injection h with h;subst h;exact⟨Nat.le_succ 1,by simp,rfl,rfl⟩
  |false =>
   rw[hc,cond_false]at h;obtain⟨-,h⟩:=B8 h;injection h with h;subst h;exact⟨Ak _,by simp,rfl,rfl⟩
theorem uQ {s:List UInt8}{r:TR×Nat}(h:fU s=some r):1<=r.2/\r.2<=s.length/\(r.1.k=1->W3 r.1.t=true)/\(r.1.k=3->W3 r.1.t=false):=by
 rcases s with _|⟨c,t⟩
 ·cases h
 rw[fU]at h
 by_cases h39:c=39
 ·rw[if_pos h39]at h;obtain⟨q,hq,h⟩:=Ab.1 h;obtain⟨-,h⟩:=B8 h;injection h with h;subst h;obtain⟨-,h2,-⟩:=iX _ t q.1 q.2.1 q.2.2 (Ak _) hq;have:=congrArg Bn h2;simp only[Af,Ac]at this ⊢;exact⟨by omega,by omega,fun h=>(by cases h),fun h=>(by cases h)⟩
 rw[if_neg h39]at h
 by_cases h88:c=88/\t.head? =some 39
 ·rw[if_pos h88]at h;obtain⟨q,hq,h⟩:=Ab.1 h;obtain⟨-,h⟩:=B8 h;injection h with h;subst h;obtain⟨-,h2,-⟩:=iX _ t.tail q.1 q.2.1 q.2.2 (Ak _) hq;have:=congrArg Bn h2
  have h3:t≠[]:=by rintro rfl;exact absurd h88.2 (by simp)
  have h4:=Dt.2 h3;simp only[Af,Ac,List.length_tail]at this ⊢;exact⟨by omega,by omega,fun h=>(by cases h),fun h=>(by cases h)⟩
 rw[if_neg h88]at h
 by_cases hd:J2 c=true
 ·rw[if_pos hd]at h;obtain⟨p,hp,h⟩:=Am.1 h;subst h
  have h2:(jI p).k=2:=by unfold jI;cases decide (0<p.2)<;>rfl
  refine⟨B4y hd,zQ _,fun h=>?_,fun h=>?_⟩<;>rw[h2]at h<;>cases h
 rw[if_neg hd]at h
 by_cases hg:P3 c=true
 ·rw[if_pos hg]at h;obtain⟨-,h⟩:=B8 h;injection h with h;subst h;refine⟨B97 hg,iN _,fun _=>?_,fun h=>(by cases h)⟩;show W3 ((c::t).takeWhile P3)=true;rw[Da,if_pos hg,W3];unfold P3 at hg;simp only[Ae,decide_eq_true_eq]at hg ⊢;omega
 rw[if_neg hg]at h
 by_cases hs:Y4 c=true/\c≠95
 ·rw[if_pos hs]at h;obtain⟨-,h⟩:=B8 h;injection h with h;subst h;exact⟨B97 hs.1,iN _,fun h=>(by cases h),fun h=>(by cases h)⟩
 rw[if_neg hs]at h;obtain⟨h1,h2,h3,h4⟩:=D4m h;refine⟨h1,h2,fun h=>(by rw[h3]at h;cases h),fun _=>?_⟩;rcases ht:r.1.t with _|⟨d,u⟩
 ·rfl
 ·rw[ht]at h4
  have:d=c:=by simpa using h4
  subst this;rw[W3];unfold P3 at hg
  by_cases ha:65<=d.toNat
  ·rw[decide_eq_true ha,Ba];apply decide_eq_false;intro hb;apply hg;simp only[Ae,decide_eq_true_eq];omega
  ·rw[decide_eq_false ha];rfl
def cN:Nat->Nat->List UInt8->Nat ⊕ List TR
 |0,_,_=>.inr []
 |_+1,_,[]=>.inr []
 |f+1,i,c::t=>if c=32\/c=10 then cN f (i+1) t else match fU (c::t)with
  |none=>.inl i
  |some r=>match cN f (i+r.2) ((c::t).drop r.2)with
   |.inl a=>.inl a
   |.inr l=>.inr (⟨r.1.k,i,r.1.t,r.1.vk,r.1.vn,r.1.vc,r.1.vs⟩::l)
theorem A0b:∀(f i:Nat) (s:List UInt8) (l:List TR),cN f i s=.inr l->l.length<=s.length/\(∀t∈l,0<=t.a)/\(∀t∈l,t.k=1->W3 t.t=true)/\(∀t∈l,t.k=3->W3 t.t=false)
 |0,i,s,l,h=>by
  rw[cN]at h;injection h with h;subst h;exact⟨Bh _,fun t h=>(by cases h),fun t h=>(by cases h),fun t h=>(by cases h)⟩
 |f+1,i,[],l,h=>by
  rw[cN]at h;injection h with h;subst h;exact⟨Bh _,fun t h=>(by cases h),fun t h=>(by cases h),fun t h=>(by cases h)⟩
 |f+1,i,c::t,l,h=>by
  rw[cN]at h;split at h
  ·obtain⟨h1,h2,h3,h4⟩:=A0b f _ t l h;exact⟨by simp only[Ac];omega,h2,h3,h4⟩
  ·split at h
   ·cases h
   ·rename_i r hr;split at h
    ·cases h
    ·rename_i l' hl';injection h with h;subst h;obtain⟨h1,h2,h3,h4⟩:=A0b f _ _ l' hl';obtain⟨g1,g2,g3,g4⟩:=uQ hr;rw[Ax]at h1;refine⟨by simp only[Ac]at g2 h1 ⊢;omega,?_,?_,?_⟩
     ·intro x hx;rcases Be.1 hx with rfl|hx
      ·exact Int.natCast_nonneg i
      ·exact h2 x hx
     ·intro x hx;rcases Be.1 hx with rfl|hx
      ·exact g3
      ·exact h3 x hx
     ·intro x hx;rcases Be.1 hx with rfl|hx
      ·exact g4
      ·exact h4 x hx
theorem C4t {f i:Nat}{s:List UInt8}{l:List TR}(hs:s.length<=5000)(h:cN f i s=.inr l):dK l :=
 let⟨h1,h2,h3,h4⟩:=A0b f i s l h
 ⟨Aw h1 hs,h2,h3,h4⟩
theorem B5t {R:Type}{l m:Nat}{x:Option R}(h:l+m<=1000000):C0q l m x=x:=by
 unfold C0q;rw[A4 (by rw[decide_eq_true (by omega),decide_eq_true (by omega)];rfl)]
def F0i (acc:List TR)(o:Nat ⊕ List TR):PV:=match o with
 |.inl a=>.tuple [.sl (some true) 7 0 [],.int .i64 (a:Int),.int .i64 170]
 |.inr l=>.tuple [.sl (some (acc++l).isEmpty) 7 (acc++l).length ((acc++l).flatMap TR.cells),.int .i64 0,.int .i64 0]
theorem A9w (fu:Nat)(s:List UInt8)(hs:s.length<=2000):∀(n f i:Nat) (acc:List TR),i<=s.length->s.length<i+n->s.length<i+f->acc.length<=i->
  lxL C5t fu n (C53 s (some acc.isEmpty) acc.length (acc.flatMap TR.cells) (i:Int))=some (F0i acc (cN f i (s.drop i)))
 |0,f,i,acc,hi,hn,_,_=>by omega
 |n+1,0,i,acc,hi,_,hf,_=>by omega
 |n+1,f+1,i,acc,hi,hn,hf,ha=>by
  unfold lxL;rw[B6,D9h]
  by_cases hlt:i<s.length
  ·have hc:=Ag (l:=s) (i:=i) hlt;have hd:=Av hlt;generalize s[i]=c at hc hd;have skip:=A9w fu s hs n f (i+1) acc hlt (by omega) (by omega) (by omega);unfold lxL at skip;rw[A4 (decide_eq_true (by omega)),F0 hc,F0 hc,show((c.toNat:Int)==32)=(c==32)from jG c 32,show((c.toNat:Int)==10)=(c==10)from jG c 10,B2 (by omega) (by omega),show(i:Int)+1=((i+1:Nat):Int)by omega,hd,cN]
   by_cases h32:c=32
   ·subst h32;rw[if_pos (Or.inl rfl)];exact skip
   rw[beq_eq_false_iff_ne.2 h32];simp only[Ar,cond_true]
   by_cases h10:c=10
   ·subst h10;rw[if_pos (Or.inr rfl)];exact skip
   rw[beq_eq_false_iff_ne.2 h10,cond_false,if_neg (by rintro(h|h);exact h32 h;exact h10 h)];unfold lxT;rw[A4 (by simp only[Ae,decide_eq_true_eq];omega),Do,At,hd];obtain⟨q,m,b,h1,h2⟩:=D67 (c:=c) (t:=s.drop (i+1)) (by rw[<-hd,Ax];omega);rw[h1,Aa]
   cases hr:fU (c::s.drop (i+1))with
   |none =>
    rw[hr]at h2;simp only at h2;subst h2;rfl
   |some r =>
    rw[hr]at h2;simp only at h2;obtain⟨rfl,rfl,rfl⟩:=h2;obtain⟨g1,g2,-,-⟩:=uQ hr;rw[<-hd,Ax]at g2;simp only[Au,cond_false];rw[B5t (by omega),B2 (by omega) (by omega),show(i:Int)+(r.2:Int)=((i+r.2:Nat):Int)by omega];have go:=A9w fu s hs n f (i+r.2) (acc++[⟨r.1.k,i,r.1.t,r.1.vk,r.1.vn,r.1.vc,r.1.vs⟩]) (by omega) (by omega) (by omega) (by rw[Af];simp only[Ac,Ai];omega);unfold lxL at go
    have e1:((some acc.isEmpty).map (·&& false))=some (acc++[(⟨r.1.k,i,r.1.t,r.1.vk,r.1.vn,r.1.vc,r.1.vs⟩:TR)]).isEmpty:=by
     show some (acc.isEmpty&&false)=_;rw[Ch];congr 1
     cases acc<;>rfl
    rw[e1,show acc.length+1=(acc++[(⟨r.1.k,i,r.1.t,r.1.vk,r.1.vn,r.1.vc,r.1.vs⟩:TR)]).length by rw[Af];rfl,
     show acc.flatMap TR.cells++TR.cells ⟨r.1.k,i,r.1.t,r.1.vk,r.1.vn,r.1.vc,r.1.vs⟩=(acc++[(⟨r.1.k,i,r.1.t,r.1.vk,r.1.vn,r.1.vc,r.1.vs⟩:TR)]).flatMap TR.cells by rw[Ex];simp]
    refine go.trans ?_;rw[<-hd,Dr]
    cases cN f (i+r.2) (s.drop (i+r.2))with
    |inl a=>rfl
    |inr l=>simp only[F0i,Al];rfl
  ·have:i=s.length:=by omega
   subst this;rw[B1 (decide_eq_false (by omega)),List.drop_length,cN];simp only[F0i,Bf]
def A2n (o:Nat ⊕ List TR):LX:=match o with
 |.inl a=>⟨some true,0,[],a,170⟩
 |.inr l=>⟨some l.isEmpty,l.length,l.flatMap TR.cells,0,0⟩
def oH (s:List UInt8):Nat ⊕ List TR:=bif decide (2000<s.length)then .inl 2000 else cN (s.length+1) 0 s
def C6z (s:List UInt8):Option LX:=some (A2n (oH s))
theorem C1u:D8 F6 Ws 51 (tLx C6z) :=
 bG D4 (A0 D9a A2) A7 B3 (h:=hLx) Tryz.func51 rfl (by decide) (E67 _) fun xs r h=>by
  simp only[tLx]at h;split at h
  ·rename_i s;refine⟨s.length+1,(E8v C5t _ s).trans (Cw ?_ h)⟩;unfold C6z oH;rw[Aa]
   by_cases hs:s.length<=2000
   ·rw[B1 (decide_eq_false (by omega)),decide_eq_false (show ¬2000<s.length by omega),cond_false];refine(A9w _ s hs (s.length+1) (s.length+1) 0 [] (Bh _) (by omega) (by omega) (Ak _)).trans ?_;rw[Bt]
    cases cN (s.length+1) 0 s<;>rfl
   ·rw[A4 (decide_eq_true (by omega)),decide_eq_true (show 2000<s.length by omega),cond_true];rfl
  ·cases h
noncomputable def fIn:Func:=Tryz.f106
def hIn:B4:=⟨[],[(0,⟨[(0,false),(4,true),(5,false)],[]⟩)]⟩
def D7c (s:List UInt8)(no:Option Bool)(lo:Nat)(co:List PV)(i:Int):St:=frame 57 [(0,(.str s,0)),(4,(.sl no 1 lo co,63)),(5,(.int .i64 i,0))] []
noncomputable def inL (fu n:Nat)(st:St):Option PV:=N3 (F8 [] [] []) hIn fu false fIn [1,1,1,1,0,1,0] 0 n st
theorem F1o (fu:Nat)(s:List UInt8):C6 (F8 [] [] []) hIn fu false fIn [.str s]=
 bif !decide ((s.length:Int)<2)then Z5 s 0 fun v=>bif !!((v.toNat:Int)==39)then Z5 s (IntKind.i64.wrap ((s.length:Int)-1)) fun v=>bif !((v.toNat:Int)==39)then A4b else
  bif decide (0<=IntKind.i64.wrap ((s.length:Int)-1))&&decide (IntKind.i64.wrap ((s.length:Int)-1)<=(s.length:Int))then bif decide ((1:Int)<=((IntKind.i64.wrap ((s.length:Int)-1)).toNat:Int))then
   inL fu fu (D7c ((s.take (IntKind.i64.wrap ((s.length:Int)-1)).toNat).drop 1) (some true) 0 [] 0)
  else none else none
  else A4b else A4b:=L9.trans (by kernel_rfl)
theorem A9q (fu:Nat)(s:List UInt8)(no:Option Bool)(lo:Nat)(co:List PV)(i:Int)(K:St->Option PV) :
 P1 (F8 [] [] []) hIn fu false fIn [1,1,1,1,0,1,0] (D7c s no lo co i) (fun st=>C2 (hIn.loop.lookup 0) st K)=
 bif decide (i<(s.length:Int))then Z5 s i fun v=>rmB lo 1 (Z5 s i fun w=>bif(w.toNat:Int)==39 then
   (bif !(IntKind.i64.wrap (i+1)==(s.length:Int))then Z5 s (IntKind.i64.wrap (i+1)) fun x=>bif !((x.toNat:Int)==39)then A4b else K (D7c s (no.map (·&& false)) (lo+1) (co++[aA v]) (IntKind.i64.wrap (IntKind.i64.wrap (i+1)+1)))else A4b)
  else K (D7c s (no.map (·&& false)) (lo+1) (co++[aA v]) (IntKind.i64.wrap (i+1))))
 else(eF co).bind fun r=>some (.tuple [.str r,.bool true]):=by kernel_rfl
noncomputable def fPs:Func:=Tryz.f55
def hPs:B4:=⟨[],[(5,⟨[(2,false),(4,false),(7,false),(9,true),(10,false),(11,false),(12,false),(13,false)],[2,4]⟩),(3,⟨[(2,false),(4,false),(7,false),(9,true),(10,false),(11,false),(12,false)],[2,4]⟩),(1,⟨[(2,false),(4,false),(7,false),(9,true),(10,false)],[2,4]⟩)]⟩
def z4:List TV:=[(.int .i64 0,0),(.int .i64 0,0),(.int .i64 0,0),(.str [],0)]
def B3p (s:List UInt8)(no:Option Bool)(lo:Nat)(co:List PV)(i:Int):St:=frame 157 [(2,(.ptr 2 0,0)),(4,(.ptr 4 0,0)),(7,(.str s,0)),(9,(.sl no 1 lo co,168)),(10,(.int .i64 i,0))] [(2,z4),(4,z4)]
def A76 (s:List UInt8)(no:Option Bool)(lo:Nat)(co:List PV)(i c k:Int):St:=frame 157 [(2,(.ptr 2 0,0)),(4,(.ptr 4 0,0)),(7,(.str s,0)),(9,(.sl no 1 lo co,168)),(10,(.int .i64 i,0)),(11,(.int .i64 c,0)),(12,(.int .i64 k,0))] [(2,z4),(4,z4)]
def B5y (s:List UInt8)(no:Option Bool)(lo:Nat)(co:List PV)(i c k d:Int):St:=frame 157 [(2,(.ptr 2 0,0)),(4,(.ptr 4 0,0)),(7,(.str s,0)),(9,(.sl no 1 lo co,168)),(10,(.int .i64 i,0)),(11,(.int .i64 c,0)),(12,(.int .i64 k,0)),(13,(.int .i64 d,0))] [(2,z4),(4,z4)]
section
variable (fi:List UInt8->Option (List UInt8 × Bool)) (fr:Int->Int->Int->List UInt8->Option Bool) (fp:List UInt8->Option (Int × Int × Bool))
noncomputable def B6b:K6:=F8 [(106,tSB fi),(47,tvB fr),(57,tD3 fp)] [] []
noncomputable def ps1 (fu n:Nat)(st:St):Option PV:=N3 (B6b fi fr fp) hPs fu false fPs [1,1,1,1,0,1,0,1,1,1,0,1,0] 1 n st
noncomputable def ps3 (fu:Nat)(K:St->Option PV)(n:Nat)(st:St):Option PV:=A26 (B6b fi fr fp) hPs fu false fPs (fun st=>C2 (hPs.loop.lookup 1) st K) [1,1,1,1,0,1,0,1,1,1,0,1,0,0,1,0,0,1,0,1,0] 3 n st
noncomputable def ps5 (fu:Nat)(K:St->Option PV)(n:Nat)(st:St):Option PV:=A26 (B6b fi fr fp) hPs fu false fPs (fun st=>C2 (hPs.loop.lookup 3) st K) [1,1,1,1,0,1,0,1,1,1,0,1,0,0,1,0,0,1,0,1,0,0,1,0,0,1,0,0] 5 n st
def qN:Option PV:=some (.tuple [zT ⟨0,0,0,[]⟩,.bool false])
theorem E4v (fu:Nat)(t:List UInt8):C6 (B6b fi fr fp) hPs fu false fPs [.str (39::t)]=
 Z5 (39::t) 0 fun _=>(fi (39::t)).bind fun q=>bif !!q.2 then(fr 4 0 0 q.1).bind fun b=>bif !b then qN else some (.tuple [zT ⟨4,0,0,q.1⟩,.bool true])else qN:=L9.trans (by kernel_rfl)
theorem E3l (fu:Nat)(t:List UInt8):C6 (B6b fi fr fp) hPs fu false fPs [.str (88::t)]=
 Z5 (88::t) 0 fun _=>Z5 (88::t) 0 fun _=>bif decide ((1:Int)<=((((88:UInt8)::t).length:Nat):Int))then(fi ((((88:UInt8)::t).take ((88:UInt8)::t).length).drop 1)).bind fun q=>bif !!q.2 then(bif(q.1.length:Int).tmod 2==1 then qN else ps1 fi fr fp fu fu (B3p q.1 (some true) 0 [] 0))else qN else none:=L9.trans (by kernel_rfl)
theorem B26 (fu:Nat)(s:List UInt8)(no:Option Bool)(lo:Nat)(co:List PV)(i:Int)(K:St->Option PV) :
 P1 (B6b fi fr fp) hPs fu false fPs [1,1,1,1,0,1,0,1,1,1,0,1,0] (B3p s no lo co i) (fun st=>C2 (hPs.loop.lookup 1) st K)=
 bif decide (i<(s.length:Int))then ps3 fi fr fp fu K fu (A76 s no lo co i 0 i)else(eF co).bind fun r=>(fr 5 0 0 r).bind fun b=>bif !b then qN else some (.tuple [zT ⟨5,0,0,r⟩,.bool true]):=(mB (by kernel_rfl)).trans (by kernel_rfl)
theorem A3b (fu:Nat)(s:List UInt8)(no:Option Bool)(lo:Nat)(co:List PV)(i c k:Int)(K K3:St->Option PV) :
 gE (B6b fi fr fp) hPs fu false fPs [1,1,1,1,0,1,0,1,1,1,0,1,0,0,1,0,0,1,0,1,0] (fun st=>C2 (hPs.loop.lookup 1) st K) (A76 s no lo co i c k) (fun st=>C2 (hPs.loop.lookup 3) st K3)=
 bif decide (k<IntKind.i64.wrap (i+2))then ps5 fi fr fp fu K3 fu (B5y s no lo co i c k 0)else rmB lo 1 (K (B3p s (no.map (·&& false)) (lo+1) (co++[.int .u8 (IntKind.u8.wrap c)]) (IntKind.i64.wrap (i+2)))):=(vV (by kernel_rfl)).trans (by kernel_rfl)
def E8b (s:List UInt8)(no:Option Bool)(lo:Nat)(co:List PV)(i c k d:Int)(K3:St->Option PV):Option PV:=bif d==16 then qN else K3 (A76 s no lo co i (IntKind.i64.wrap (IntKind.i64.wrap (16 * c)+d)) (IntKind.i64.wrap (k+1)))
theorem B3s (fu:Nat)(s:List UInt8)(no:Option Bool)(lo:Nat)(co:List PV)(i c k d:Int)(K3 K5:St->Option PV) :
 gE (B6b fi fr fp) hPs fu false fPs [1,1,1,1,0,1,0,1,1,1,0,1,0,0,1,0,0,1,0,1,0,0,1,0,0,1,0,0] (fun st=>C2 (hPs.loop.lookup 3) st K3) (B5y s no lo co i c k d) (fun st=>C2 (hPs.loop.lookup 5) st K5)=
 bif decide (d<16)then Z5 hxD d fun a=>Z5 s k fun b=>bif !((a.toNat:Int)==(b.toNat:Int))then K5 (B5y s no lo co i c k (IntKind.i64.wrap (d+1)))else E8b s no lo co i c k d K3 else E8b s no lo co i c k d K3:=by kernel_rfl
end
theorem B7x (acc:List UInt8)(v:UInt8):((some acc.isEmpty).map (·&& false))=some (acc++[v]).isEmpty:=by
 show some (acc.isEmpty&&false)=_;rw[Ch];congr 1
 cases acc<;>rfl
theorem E5u (fu:Nat)(s:List UInt8)(hs:s.length<=100000){r u:List UInt8}(h:Dbl r u):∀(i n:Nat) (acc:List UInt8),s.drop i=r->r.length<n->acc.length<=i->
  inL fu n (D7c s (some acc.isEmpty) acc.length (acc.map aA) (i:Int))=some (.tuple [.str (acc++u),.bool true]):=by
 induction h with
 |nil =>
  intro i n acc hd hn ha;obtain⟨n,rfl⟩:∃m,n=m+1:=⟨n-1,by simp only[Ai]at hn;omega⟩;have:=List.drop_eq_nil_iff.1 hd;unfold inL;rw[B6,A9q,B1 (decide_eq_false (by omega)),nB,Bf];rfl
 | @q r u _ ih =>
  intro i n acc hd hn ha;obtain⟨n,rfl⟩:∃m,n=m+1:=⟨n-1,by simp only[Ac]at hn;omega⟩;have hlen:=congrArg Bn hd;rw[Ax]at hlen;simp only[Ac]at hlen hn
  have hc:s[i]? =some 39:=by rw[<-Dl,hd];rfl
  have hd2:s.drop (i+1)=39::r:=by rw[<-Dr,hd];rfl
  have hc2:s[i+1]? =some 39:=by rw[<-Dl,hd2];rfl
  have hd3:s.drop (i+2)=r:=by rw[show i+2=(i+1)+1 by omega,<-Dr,hd2];rfl
  have ih:=ih (i+2) n (acc++[39]) hd3 (by omega) (by rw[Af];simp only[Ac,Ai];omega);unfold inL at ih ⊢;rw[B6,A9q,A4 (decide_eq_true (by omega)),F0 hc,A2w (by omega),F0 hc,A4 (by rfl),B2 (by omega) (by omega),show(i:Int)+1=((i+1:Nat):Int)by omega,A4 (by rw[beq_eq_false_iff_ne.2 (by omega)];rfl),F0 hc2,B1 (by rfl),B2 (by omega) (by omega),show((i+1:Nat):Int)+1=((i+2:Nat):Int)by omega,B7x acc 39];rw[Af,Dv]at ih;refine Cw ?_ (ih.trans (by rw[Al];rfl));rfl
 | @c c r u hne _ ih =>
  intro i n acc hd hn ha;obtain⟨n,rfl⟩:∃m,n=m+1:=⟨n-1,by simp only[Ac]at hn;omega⟩;have hlen:=congrArg Bn hd;rw[Ax]at hlen;simp only[Ac]at hlen hn
  have hc:s[i]? =some c:=by rw[<-Dl,hd];rfl
  have hd2:s.drop (i+1)=r:=by rw[<-Dr,hd];rfl
  have ih:=ih (i+1) n (acc++[c]) hd2 (by omega) (by rw[Af];simp only[Ac,Ai];omega);unfold inL at ih ⊢;rw[B6,A9q,A4 (decide_eq_true (by omega)),F0 hc,A2w (by omega),F0 hc,n39,decide_eq_false hne,cond_false,B2 (by omega) (by omega),show(i:Int)+1=((i+1:Nat):Int)by omega,B7x acc c];rw[Af,Dv]at ih;refine Cw ?_ (ih.trans (by rw[Al];rfl));rfl
theorem F4l {r u:List UInt8}(h:Dbl r u)(hl:r.length<=10000):∃fu,C6 (F8 [] [] []) hIn fu false fIn [.str (qt r)]=some (.tuple [.str u,.bool true]):=by
 refine⟨r.length+1,(F1o _ (qt r)).trans ?_⟩
 rw[qL,A4 (by rw[decide_eq_false (by omega)];rfl),show((0:Int))=((0:Nat):Int)from rfl,F0 (c:=39) (by rfl),A4 (by rfl),B2 (by omega) (by omega),show(((r.length+2:Nat):Int)-1)=((r.length+1:Nat):Int)by omega,
  F0 (c:=39) (by unfold qt;rw[Bz,Bj (Ak _),Nat.sub_self];rfl),B1 (by rfl),A4 (by simp only[Ae,decide_eq_true_eq];omega),At,A4 (decide_eq_true (by omega))]
 have e:((qt r).take (r.length+1)).drop 1=r:=by
  unfold qt;rw[Ek,Db,Bt,List.take_left]
 rw[e];exact E5u _ r (by omega) h 0 (r.length+1) [] rfl (by omega) (Ak _)
theorem E9o:∀n:Fin 256,∀d:Fin 16,hxN d.val=Bq n.val->bW (Bq n.val)=(d.val:Int):=by decide +kernel
theorem E8j:∀n:Fin 256,(∀d:Fin 16,hxN d.val≠Bq n.val)->bW (Bq n.val)=-1:=by decide +kernel
theorem F2j {b:UInt8}{d:Nat}(hd:d<16)(h:hxN d=b):bW b=(d:Int):=by
 have:=E9o ⟨b.toNat,b.toNat_lt⟩ ⟨d,hd⟩;rw[Fa]at this;exact this h
theorem D0u {b:UInt8}(h:∀d,d<16->hxN d≠b):bW b=-1:=by
 have:=E8j ⟨b.toNat,b.toNat_lt⟩;rw[Fa]at this;exact this fun d=>h d.val d.isLt
section
variable (fi:List UInt8->Option (List UInt8 × Bool)) (fr:Int->Int->Int->List UInt8->Option Bool) (fp:List UInt8->Option (Int × Int × Bool))
theorem B56 (fu:Nat)(s:List UInt8)(no:Option Bool)(lo:Nat)(co:List PV)(i:Int){c:Int}(h0:0<=c)(h1:c<=1000){k:Nat}{b:UInt8}(hb:s[k]? =some b)(hk:k<=100000)(K3:St->Option PV) :
  ∀(j d n:Nat),d+j=16->j<n->(∀d',d'<d->hxN d'≠b)->ps5 fi fr fp fu K3 n (B5y s no lo co i c (k:Int) (d:Int))=bif decide (bW b<0)then qN else K3 (A76 s no lo co i (16 * c+bW b) ((k+1:Nat):Int))
 |j,d,0,_,h,_=>by omega
 |0,d,n+1,hd,hn,hno=>by
  have:d=16:=by omega
  subst this;unfold ps5;rw[R8,B3s,B1 (decide_eq_false (by omega)),D0u hno];rfl
 |j+1,d,n+1,hd,hn,hno=>by
  have ih:=fun h=>B56 fu s no lo co i h0 h1 hb hk K3 j (d+1) n (by omega) (by omega) h;unfold ps5 at ih ⊢;rw[R8,B3s,A4 (decide_eq_true (by omega)),B87 (by omega),F0 hb,jG]
  by_cases he:hxN d=b
  ·have hx:=F2j (by omega) he;rw[beq_iff_eq.2 he,Au,cond_false];unfold E8b;rw[B1 (beq_eq_false_iff_ne.2 (by omega)),hx,B1 (decide_eq_false (by omega)),B2 (x:=16 * c) (by omega) (by omega),B2 (x:=16 * c+(d:Int)) (by omega) (by omega),B2 (x:=(k:Int)+1) (by omega) (by omega)];rfl
  ·rw[beq_eq_false_iff_ne.2 he,Ar,cond_true,B2 (by omega) (by omega),show(d:Int)+1=((d+1:Nat):Int)by omega];refine ih fun d' h=>?_
   by_cases hd':d'=d
   ·subst hd';exact he
   ·exact hno d' (by omega)
theorem A75 {fu:Nat}(hfu:17<=fu)(s:List UInt8)(no:Option Bool)(lo:Nat)(co:List PV)(i:Int){c:Int}(h0:0<=c)(h1:c<=1000){k:Nat}{b:UInt8}(hb:s[k]? =some b)(hk:k<=100000)(K3:St->Option PV) :
  ps5 fi fr fp fu K3 fu (B5y s no lo co i c (k:Int) 0)=bif decide (bW b<0)then qN else K3 (A76 s no lo co i (16 * c+bW b) ((k+1:Nat):Int)) :=
 B56 fi fr fp fu s no lo co i h0 h1 hb hk K3 16 0 fu (by omega) (by omega) (fun d h=>by omega)
theorem E17 {a b:UInt8}(ha:¬bW a<0)(hb:¬bW b<0):PV.int .u8 (IntKind.u8.wrap (16 * (16 * 0+bW a)+bW b))=aA (Bq (16 * (bW a).toNat+(bW b).toNat)):=by
 have ga:=pJ a;have gb:=pJ b
 have hlt:16 * (bW a).toNat+(bW b).toNat<256:=by omega
 unfold aA;rw[Fj hlt];congr 1;rw[show IntKind.u8.wrap (16 * (16 * 0+bW a)+bW b)=(16 * (16 * 0+bW a)+bW b)%256 from rfl];omega
theorem D0z {fu:Nat}(hfu:17<=fu)(s:List UInt8)(no:Option Bool)(lo:Nat)(co:List PV)(hlo:lo<=100000){i:Nat}{a b:UInt8}(ha:s[i]? =some a)(hb:s[i+1]? =some b)(hi:i<=90000)(K:St->Option PV)(n:Nat) :
  ps3 fi fr fp fu K (n+3) (A76 s no lo co (i:Int) 0 (i:Int))=bif decide (bW a<0)||decide (bW b<0)then qN else K (B3p s (no.map (·&& false)) (lo+1) (co++[aA (Bq (16 * (bW a).toNat+(bW b).toNat))]) ((i+2:Nat):Int)):=by
 have ga:=pJ a;have gb:=pJ b
 have w:IntKind.i64.wrap ((i:Int)+2)=((i+2:Nat):Int):=by rw[B2 (by omega) (by omega)];omega
 unfold ps3;rw[R8,A3b,w,A4 (decide_eq_true (by omega)),A75 fi fr fp hfu s no lo co (i:Int) (by omega) (by omega) ha (by omega)]
 by_cases h1:bW a<0
 ·rw[decide_eq_true h1];rfl
 rw[decide_eq_false h1,cond_false,Cv,R8,A3b,w,A4 (decide_eq_true (by omega)),A75 fi fr fp hfu s no lo co (i:Int) (by omega) (by omega) hb (by omega)]
 by_cases h2:bW b<0
 ·rw[decide_eq_true h2];rfl
 rw[decide_eq_false h2,cond_false,cond_false,R8,A3b,w,B1 (decide_eq_false (by omega)),A2w (by omega)];rw[<-E17 h1 h2]
end
section
variable (fi:List UInt8->Option (List UInt8 × Bool)) (fr:Int->Int->Int->List UInt8->Option Bool) (fp:List UInt8->Option (Int × Int × Bool))
def E2e (acc:List UInt8)(o:Option (List UInt8)):Option PV:=match o with
 |none=>qN
 |some l=>(fr 5 0 0 (acc++l)).bind fun b=>bif !b then qN else some (.tuple [zT ⟨5,0,0,acc++l⟩,.bool true])
theorem B2j {fu:Nat}(hfu:20<=fu)(s:List UInt8)(hs:s.length<=10000)(h2:s.length%2=0):∀(k i n:Nat) (acc:List UInt8),2 * i+2 * k=s.length->k<n->acc.length=i->
  ps1 fi fr fp fu n (B3p s (some acc.isEmpty) acc.length (acc.map aA) ((2 * i:Nat):Int))=E2e fr acc (eN (s.drop (2 * i)))
 |k,i,0,_,_,h,_=>by omega
 |0,i,n+1,acc,hi,hn,ha=>by
  unfold ps1;rw[B6,B26,B1 (decide_eq_false (by omega)),nB,Bb (by omega)];simp only[eN,E2e,Bf,Aa]
 |k+1,i,n+1,acc,hi,hn,ha=>by
  have hc:=Ag (l:=s) (i:=2 * i) (by omega);have hc2:=Ag (l:=s) (i:=2 * i+1) (by omega);rw[Av (show 2 * i<s.length by omega),Av (show 2 * i+1<s.length by omega)];generalize s[2 * i]'(by omega)=a at hc;generalize s[2 * i+1]'(by omega)=b at hc2;obtain⟨f3,rfl⟩:∃m,fu=m+3:=⟨fu-3,by omega⟩;unfold ps1;rw[B6,B26,A4 (decide_eq_true (by omega)),D0z fi fr fp (by omega) s _ _ _ (by omega) hc hc2 (by omega),eN]
  by_cases hx:(decide (bW a<0)||decide (bW b<0))=true
  ·rw[hx];rfl
  rw[Bool.eq_false_iff.2 hx,cond_false,cond_false,B7x acc (Bq (16 * (bW a).toNat+(bW b).toNat))];have ih:=B2j hfu s hs h2 k (i+1) n (acc++[Bq (16 * (bW a).toNat+(bW b).toNat)]) (by omega) (by omega) (by rw[Af,ha];rfl);unfold ps1 at ih;rw[Af,Dv,show 2 * (i+1)=2 * i+2 by omega]at ih;refine Cw (show _=_ from rfl) (ih.trans ?_);rw[show 2 * i+1+1=2 * i+2 by omega]
  cases eN (s.drop (2 * i+2))with
  |none=>rfl
  |some l=>simp only[Aq,E2e,Al];rfl
end
def B6q:List UInt8->Option (List UInt8)
 |[]=>none
 |c::t=>if c=39 then(oJ t).bind fun r=>bif r.2.2.isEmpty&&decide (t.length<=5000)then some r.2.1 else none else none
theorem A93 {s u:List UInt8}(h:B6q s=some u):∃r,s=qt r/\Dbl r u/\r.length<=5000:=by
 rcases s with _|⟨c,t⟩
 ·cases h
 rw[B6q]at h;obtain⟨hc,h⟩:=A5 h;obtain⟨q,hq,h⟩:=Ab.1 h;obtain⟨hb,h⟩:=B8 h;injection h with h;subst h hc;simp only[Ae,List.isEmpty_iff,decide_eq_true_eq]at hb;obtain⟨h1,h2,-⟩:=iX _ t q.1 q.2.1 q.2.2 (Ak _) hq;rw[hb.1]at h2;have h3:=congrArg Bn h2;simp only[Af,Ac,Ai]at h3;exact⟨q.1,by rw[h2];rfl,h1,by omega⟩
def inD (s:List UInt8):Option (List UInt8×Bool):=(B6q s).map fun u=>(u,true)
theorem F1a:D8 F6 Ws 106 (tSB inD):=A8d D4 A2 A7 (h:=hIn) Tryz.func106 rfl (by decide) fun s r h=>by
 obtain⟨u,hu,rfl⟩:=Am.1 h;obtain⟨r,rfl,hd,hl⟩:=A93 hu;exact F4l hd (by omega)
def rvD:List UInt8->Option (cX×Bool)
 |[]=>none
 |c::t=>if c=39 then(B6q (c::t)).map A06 else if c=88 then(B6q t).map zW else none
theorem E6l {a n c:Int}{s:List UInt8}(h:s.length<=1000000):wV a n c s=some (G9 a n c s):=by unfold wV;rw[A4 (decide_eq_true h)]
theorem F0m:D8 F6 Ws 55 (A8x rvD):=B5d D4 (A0 F1a (A0 A9h (A0 B5e A2))) A7 (h:=hPs) Tryz.func55 rfl (by decide) fun s r h=>by
 rcases s with _|⟨c,t⟩
 ·cases h
 rw[rvD]at h
 by_cases h39:c=39
 ·rw[if_pos h39]at h;subst h39;obtain⟨u,hu,rfl⟩:=Am.1 h;obtain⟨r,hr,hd,hl⟩:=A93 hu;have hul:=nI hd;refine⟨0,(E4v inD wV pQ 0 t).trans ?_⟩
  have hi:inD (39::t)=some (u,true):=by unfold inD;rw[hu];rfl
  rw[show(0:Int)=((0:Nat):Int)from rfl,F0 (c:=39) (by rfl),hi,Aa,A4 (by rfl),E6l (by show u.length<=_;omega),Aa];unfold A06
  cases G9 4 0 0 u<;>rfl
 ·rw[if_neg h39]at h;obtain⟨h88,h⟩:=A5 h;subst h88;obtain⟨u,hu,rfl⟩:=Am.1 h;obtain⟨r,hr,hd,hl⟩:=A93 hu;have hul:=nI hd;refine⟨u.length+20,(E3l inD wV pQ _ t).trans ?_⟩
  have hi:inD t=some (u,true):=by unfold inD;rw[hu];rfl
  rw[show Z5 (88::t) 0=Z5 (88::t) ((0:Nat):Int)from rfl,F0 (c:=88) (by rfl),F0 (c:=88) (by rfl),A4 (decide_eq_true (by simp only[Ac];omega)),Do,Db,Bt,hi,Aa,A4 (by rfl)]
  have e:(u.length:Int).tmod 2=((u.length%2:Nat):Int):=by rw[Int.tmod_eq_emod_of_nonneg (by omega)];omega
  rw[e];unfold zW
  by_cases h2:u.length%2=0
  ·rw[h2,B1 (by rfl)];refine(B2j inD wV pQ (fu:=u.length+20) (by omega) u (by omega) h2 (u.length/2) 0 (u.length+20) [] (by omega) (by omega) rfl).trans ?_;rw[Nat.mul_zero,Bt]
   cases hv:eN u with
   |none=>rfl
   |some b =>
    have hbl:=(uT _ u b (Ak _) hv).2.2;unfold E2e;simp only[Cd];rw[E6l (by omega),Aa]
    cases G9 5 0 0 b<;>rfl
  ·have h3:u.length%2=1:=by omega
   rw[h3,A4 (by rfl),B0a _ u (Ak _) h3];rfl
def tIn (f:Int->Int->Int->Option Bool):D5:=⟨fun xs k=>match xs with|[.int .u8 c,.int .u8 a,.int .u8 z]=>(f c a z).bind fun b=>k (.bool b)|_=>none,false⟩
theorem E4t (f:Int->Int->Int->Option Bool):(tIn f).nat:=by
 intro R xs k;simp only[tIn];split
 ·rw[Ad];rfl
 ·rfl
theorem D6y (fu:Nat)(c a z:Int):C6 (F8 [] [] []) I4 fu false Tryz.f56 [.int .u8 c,.int .u8 a,.int .u8 z]=some (.bool (bif decide (a<=c)then decide (c<=z)else false)):=by kernel_rfl
noncomputable def sK:Func:=Tryz.f24
def dB:B4:=⟨[],[(2,⟨[(0,false),(5,true),(6,false),(8,false),(9,false)],[9]⟩),(6,⟨[(0,false),(5,true),(6,false),(8,false),(9,false)],[9]⟩),(4,⟨[(0,false),(5,true),(6,false),(8,false),(9,false)],[9]⟩),(10,⟨[(0,false),(5,true),(6,false),(8,false),(9,false),(15,false),(201,false),(202,false),(203,false)],[9]⟩),(8,⟨[(0,false),(5,true),(6,false),(8,false),(9,false)],[9]⟩),(12,⟨[(0,false),(5,true),(6,false),(8,false),(9,false)],[9]⟩),(0,⟨[(0,false),(5,true),(6,false)],[]⟩)]⟩
structure TA where
 no:Option Bool
 lo:Nat
 co:List PV
def TA.put (A:TA)(t:TR):TA:=⟨A.no.map (·&& false),A.lo+1,A.co++t.cells⟩
def TA.sl (A:TA):PV:=.sl A.no 7 A.lo A.co
def frL (s:List UInt8)(A:TA)(i:Int):St:=frame 312 [(0,(.str s,0)),(5,(A.sl,319)),(6,(.int .i64 i,0))] []
def tzB (a:Int):List TV:=[(.int .i64 0,0),(.int .i64 a,0),(.str [],0),(.int .i64 0,0),(.int .i64 0,0),(.int .i64 0,0),(.str [],0)]
def rK (s:List UInt8)(A:TA)(i a:Int):St:=frame 312 [(0,(.str s,0)),(5,(A.sl,319)),(6,(.int .i64 i,0)),(8,(.int .i64 a,0)),(9,(.ptr 9 0,0))] [(9,tzB a)]
def C7f (s:List UInt8)(A:TA)(i a:Int)(kn:Bool)(nl:Option Bool)(n:Nat)(c:List PV)(j:Int):St :=
 frame 312 [(0,(.str s,0)),(5,(A.sl,319)),(6,(.int .i64 i,0)),(8,(.int .i64 a,0)),(9,(.ptr 9 0,0)),(15,(.bool kn,0)),(201,(.sl nl 1 n c,0)),(202,(.int .i64 n,0)),(203,(.int .i64 j,0))] [(9,tzB a)]
structure FL2 where
 fin:Int->Int->Int->Option Bool
 fp:List UInt8->Option (cX×Bool)
 fd:List UInt8->Option (Int×Int×Bool)
 fk:Option (Option Bool×Nat×List PV)
def slS {R:Type}(s:List UInt8)(a j:Int)(k:List UInt8->Option R):Option R:=bif decide (0<=j)&&decide (j<=(s.length:Int))then bif decide (0<=a)&&decide (a<=(j.toNat:Int))then k ((s.take j.toNat).drop a.toNat)else none else none
def l2F (a:Int):Option PV:=some (.tuple [.sl (some true) 7 0 [],.int .i64 a,.bool false])
section
variable (F:FL2)
noncomputable def cA:K6:=F8 [(55,A8x F.fp),(56,tIn F.fin),(57,tD3 F.fd),(58,A59 F.fk)] [] []
noncomputable def l0 (fu n:Nat)(st:St):Option PV:=N3 (cA F) dB fu false sK [1,1,1,1,0,0] 0 n st
noncomputable def lI (fu:Nat)(p:List Nat)(b:Nat)(K:St->Option PV)(n:Nat)(st:St):Option PV:=A26 (cA F) dB fu false sK (fun st=>C2 (dB.loop.lookup 0) st K) p b n st
abbrev p2:List Nat:=[1,1,1,1,0,0,0,1,0,1,1,1,1,0,1,0,1,1,0,0]
abbrev p4:List Nat:=[1,1,1,1,0,0,0,1,0,1,1,1,1,0,1,1,1,0,0,0]
abbrev p6:List Nat:=[1,1,1,1,0,0,0,1,0,1,1,1,1,0,1,1,1,0,1,0,1,0,1,0]
abbrev p8:List Nat:=[1,1,1,1,0,0,0,1,0,1,1,1,1,0,1,1,1,1,1,0,0,0]
abbrev p10:List Nat:=[1,1,1,1,0,0,0,1,0,1,1,1,1,0,1,1,1,1,1,0,1,1,0,1,0]
abbrev p12:List Nat:=[1,1,1,1,0,0,0,1,0,1,1,1,1,0,1,1,1,1,1,1,1,0,0,0]
variable (fu:Nat) (s:List UInt8) (A:TA) (i a:Int) (K K2:St->Option PV)
def B40 (t:TR)(i:Int):Option PV:=C0q A.lo 1 (K (frL s (A.put t) i))
def A2i (i:Int):Option PV:=slS s a i fun r=>(F.fd r).bind fun p=>bif !p.2.2 then l2F a else bif decide (0<p.2.1)then B40 s A K ⟨2,a,[],3,p.1,p.2.1,[]⟩ i else B40 s A K ⟨2,a,[],2,p.1,0,[]⟩ i
def E5s (i:Int):Option PV:=bif decide ((s.length:Int)<=i)then l2F a else slS s a (IntKind.i64.wrap (i+1)) fun r=>(F.fp r).bind fun q=>bif !q.2 then l2F a else B40 s A K ⟨2,a,[],q.1.kind,q.1.n,q.1.scale,q.1.s⟩ (IntKind.i64.wrap (i+1))
noncomputable def C6h:Option PV:=bif decide (IntKind.i64.wrap (i+1)<(s.length:Int))then Z5 s i fun v=>bif(v.toNat:Int)==46 then Z5 s (IntKind.i64.wrap (i+1)) fun w=>(F.fin (w.toNat:Int) 48 57).bind fun b=>bif b then lI F fu p6 6 K fu (rK s A (IntKind.i64.wrap (i+1)) a)else A2i F s A a K i else A2i F s A a K i else A2i F s A a K i
def F2p (kn:Bool):Option PV:=bif !kn then l2F a else slS s a i fun r=>B40 s A K ⟨1,a,r,0,0,0,[]⟩ i
def D32:Option PV:=bif decide (24<IntKind.i64.wrap (i-a))then l2F a else slS s a i fun r=>B40 s A K ⟨0,a,r,0,0,0,[]⟩ i
def B34 (i:Int):Option PV:=slS s a i fun r=>B40 s A K ⟨3,a,r,0,0,0,[]⟩ i
def orI {S:Type}(v:Int)(x y:S):List Int->S
 |[]=>y
 |[c]=>bif v==c then x else y
 |c::cs=>bif v==c then(bif v==c then x else y)else orI v x y cs
def sgE (v n:Int):Option PV :=
 let ten:=orI v (B34 s A a K i) (l2F a) [40,41,44,46,43,45,42,47,37,61]
 let two:=bif(bif n==61 then true else bif v==60 then n==62 else false)then B34 s A a K (IntKind.i64.wrap (i+1))else B34 s A a K i
 bif v==60 then(bif v==60 then two else ten)else bif v==62 then two else ten
theorem E2n:C6 (cA F) dB fu false sK [.str s]=bif decide ((2000:Int)<(s.length:Int))then l2F 2000 else l0 F fu fu (frL s ⟨some true,0,[]⟩ 0):=L9.trans (by kernel_rfl)
theorem st6:gE (cA F) dB fu false sK p6 (fun st=>C2 (dB.loop.lookup 0) st K) (rK s A i a) (fun st=>C2 (dB.loop.lookup 6) st K2)=
 bif decide (i<(s.length:Int))then Z5 s i fun v=>(F.fin (v.toNat:Int) 48 57).bind fun b=>bif b then K2 (rK s A (IntKind.i64.wrap (i+1)) a)else A2i F s A a K i else A2i F s A a K i:=by kernel_rfl
theorem st8:gE (cA F) dB fu false sK p8 (fun st=>C2 (dB.loop.lookup 0) st K) (rK s A i a) (fun st=>C2 (dB.loop.lookup 8) st K2)=
 (let X:=F.fk.bind fun r=>lI F fu p10 10 K fu (C7f s A i a false r.1 r.2.1 r.2.2 0)
 bif decide (i<(s.length:Int))then Z5 s i fun v=>(F.fin (v.toNat:Int) 65 90).bind fun b=>bif b then K2 (rK s A (IntKind.i64.wrap (i+1)) a)else X else X):=(vV (by kernel_rfl)).trans (by kernel_rfl)
theorem F4m (kn:Bool)(nl:Option Bool)(n:Nat)(c:List PV)(j:Int):gE (cA F) dB fu false sK p10 (fun st=>C2 (dB.loop.lookup 0) st K) (C7f s A i a kn nl n c j) (fun st=>C2 (dB.loop.lookup 10) st K2)=
 bif decide (j<(n:Int))then X0 (decide (0<=j)&&decide (j<(n:Int))) (((c.drop (j.toNat * 1)).take 1).head?.bind fun x=>x.asStr.bind fun u=>bif !kn then slS s a i fun r=>K2 (C7f s A i a (u==r) nl n c (IntKind.i64.wrap (j+1)))else K2 (C7f s A i a true nl n c (IntKind.i64.wrap (j+1))))else F2p s A i a K kn:=by kernel_rfl
theorem F9f:gE (cA F) dB fu false sK p12 (fun st=>C2 (dB.loop.lookup 0) st K) (rK s A i a) (fun st=>C2 (dB.loop.lookup 12) st K2)=
 (let X:=D32 s A i a K
 let Y:=K2 (rK s A (IntKind.i64.wrap (i+1)) a)
 bif decide (i<(s.length:Int))then Z5 s i fun v=>(F.fin (v.toNat:Int) 97 122).bind fun b=>bif !b then Z5 s i fun w=>(F.fin (w.toNat:Int) 48 57).bind fun d=>bif !d then Z5 s i fun z=>bif(z.toNat:Int)==95 then Y else X else Y else Y else X):=by kernel_rfl
theorem st4:gE (cA F) dB fu false sK p4 (fun st=>C2 (dB.loop.lookup 0) st K) (rK s A i a) (fun st=>C2 (dB.loop.lookup 4) st K2)=
 bif decide (i<(s.length:Int))then Z5 s i fun v=>(F.fin (v.toNat:Int) 48 57).bind fun b=>bif b then K2 (rK s A (IntKind.i64.wrap (i+1)) a)else C6h F fu s A i a K else C6h F fu s A i a K:=(vV (by kernel_rfl)).trans (by kernel_rfl)
theorem aH:gE (cA F) dB fu false sK p2 (fun st=>C2 (dB.loop.lookup 0) st K) (rK s A i a) (fun st=>C2 (dB.loop.lookup 2) st K2)=
 (let X:=E5s F s A a K i
 let Y:=Z5 s i fun u=>bif(u.toNat:Int)==39 then K2 (rK s A (IntKind.i64.wrap (IntKind.i64.wrap (i+1)+1)) a)else K2 (rK s A (IntKind.i64.wrap (i+1)) a)
 bif decide (i<(s.length:Int))then Z5 s i fun v=>bif(bif !((v.toNat:Int) !=39)then decide (IntKind.i64.wrap (i+1)<(s.length:Int))else false)then Z5 s (IntKind.i64.wrap (i+1)) fun w=>bif(w.toNat:Int)==39 then Y else X
  else bif(bif !((v.toNat:Int) !=39)then decide (IntKind.i64.wrap (i+1)<(s.length:Int))else false)then none else bif(bif(v.toNat:Int) !=39 then true else bif decide (IntKind.i64.wrap (i+1)<(s.length:Int))then false else false)then Y else X
 else X):=by kernel_rfl
end
end Go.Proofs.YtkpfigikffphdaaGreatDoor
end
