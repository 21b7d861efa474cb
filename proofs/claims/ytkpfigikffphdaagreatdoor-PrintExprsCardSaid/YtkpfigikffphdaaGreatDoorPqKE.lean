/-
  Lemmas, part K5: what the claim needs of the texts of wip/tpl.
-/
import Derived.Test.YtkpfigikffphdaaGreatDoorPqKD
set_option linter.unusedVariables false
set_option linter.unusedSimpArgs false
open Bool renaming and_eq_true→Ae,and_eq_true_iff→Bc
open List renaming length_cons→Ac,length_append→Af,getElem?_eq_getElem→Ag,length_nil→Ai,getElem?_eq_some_iff→Aj,map_eq_cons_iff→Ao,mem_cons_self→An,mem_cons_of_mem→Ap,getElem?_map→Az,mem_cons→Be,append_nil→Bf,all_eq_true→Bg,mem_of_getElem?→Bi,map_eq_nil_iff→Bx,length_map→By,length_eq_zero_iff→Cg,getElem?_of_mem→Cm,not_mem_nil→Cz,map_eq_append_iff→Dj,any_eq_true→Dp,head_eq_of_cons_eq→Ea
open Option renaming bind_some→Aa,bind_eq_some_iff→Ab
section
set_option maxRecDepth 100000
namespace Go.Proofs.YtkpfigikffphdaaGreatDoor
open Go.RowKit
def opT (op:List UInt8):TR:=bif W3 op then Z7 op else S8 op
def B3q (k s:Int):List TR:=bif k==3 then [Z7 [68,69,67,73,77,65,76],S8 [40],jI (s,0),S8 [41]]else [Z7 (tyN k s)]
def F9c (k:Int)(op:List UInt8)(nt:Bool)(tk ts:Int):List (List TR)->List TR
 |[]=>[S8 [42]]
 |[a]=>bif k==2 then opT op::a else bif k==4 then a++(Z7 wX::((bif nt then [Z7 G4]else [])++[Z7 O7]))else bif k==5 then a else a++(Z7 zJ::B3q tk ts)
 |a::b::_=>a++(opT op::b)
def F9i (k:Int)(op:List UInt8):List TR:=bif k==5 then [Z7 op]else bif k==6 then [Z7 aU]else []
def F6y (tb nm:List UInt8):List TR:=(bif tb==[]then []else [nmT tb,S8 [46]])++[nmT nm]
def J5:Nat->TX->List TR
 |0,_=>[]
 |d+1,.mk k op vk vn vc vs tb nm nt tk ts ks=>bif k==0 then [A9d vk vn vc vs]else bif k==1 then F6y tb nm else F9i k op++[S8 [40]]++F9c k op nt tk ts (ks.map (J5 d))++[S8 [41]]
theorem Lx.sp1 {Q:UInt8->Prop}{s:List UInt8}{ts:List TR}(h:Lx Q s ts)(hn:s≠[]):Lx Q (32::s) ts:=Lx.app Lx.sp h (fun _ _=>trivial) hn
theorem Lx.par {Q:UInt8->Prop}{s:List UInt8}{ts:List TR}(h:Lx Q s ts)(hn:s≠[]):Lx Q (40::s) (S8 [40]::ts):=Lx.app (Lx.sign1 (by decide)) h (fun _ _=>trivial) hn
theorem Lx.shut {s:List UInt8}{ts:List TR}(h:Lx eJ s ts):Lx (fun _=>True) (s++[41]) (ts++[S8 [41]]):=Lx.app h (Lx.sign1 (by decide)) (fun c hc=>by
 have:(41:UInt8)=c:=by simpa using hc
 exact .inr this.symm) (by simp)
theorem Lx.any {P:UInt8->Prop}{s:List UInt8}{ts:List TR}(h:Lx (fun _=>True) s ts):Lx P s ts:=h.weak fun _ _=>trivial
theorem Lx.op {op:List UInt8}(h:D1 cV op=true\/op=G4):Lx (fun c=>c=32) op [opT op]:=by
 have h':op∈cV\/op=G4:=h.imp (fun h=>by
  unfold D1 at h;rw[Dp]at h;obtain⟨x,hx,e⟩:=h;rw[eq_of_beq e]
  exact hx) id
 have key:∀(d:UInt8) (w:List UInt8),(∀x∈d::w,P3 x=true)->d≠88->D1 R7 (d::w)=true->Lx (fun c=>c=32) (d::w) [Z7 (d::w)]:=fun d w h1 h2 h3=>(Lx.key h1 h2 h3).weak fun d hd=>by subst hd;rfl
 have gD:∀c,c∈[40,41,42,43,45,46,47,37]->Lx (fun c=>c=32) [c] [S8 [c]]:=fun c hc=>(Lx.sign1 hc).any;simp only[cV,Be,Cz,or_false]at h';rcases h' with(rfl|rfl|rfl|rfl|rfl|rfl|rfl|rfl|rfl|rfl|rfl|rfl|rfl)|rfl
 ·exact key _ _ (by decide) (by decide) (by decide)
 ·exact key _ _ (by decide) (by decide) (by decide)
 ·exact Lx.cmp (by decide)
 ·exact Lx.cmp (by decide)
 ·exact Lx.cmp (by decide)
 ·exact Lx.cmp (by decide)
 ·exact Lx.cmp (by decide)
 ·exact Lx.cmp (by decide)
 ·exact gD _ (by decide)
 ·exact gD _ (by decide)
 ·exact gD _ (by decide)
 ·exact gD _ (by decide)
 ·exact gD _ (by decide)
 ·exact key _ _ (by decide) (by decide) (by decide)
theorem Lx.call {op:List UInt8}(h:D1 J1 op=true):Lx (fun d=>P3 d=false) op [Z7 op]:=by
 have h':op∈J1:=by
  unfold D1 at h;rw[Dp]at h;obtain⟨x,hx,e⟩:=h;rw[eq_of_beq e];exact hx
 simp only[J1,Be,Cz,or_false]at h';rcases h' with rfl|rfl|rfl|rfl<;>exact Lx.key (by decide) (by decide) (by decide)
theorem Lx.ty {k s:Int}(h:tyB k s=true):Lx eJ (tyN k s) (B3q k s):=by
 have hg:∀d,eJ d->P3 d=false:=fun d hd=>by rcases hd with rfl|rfl<;>rfl
 rcases rM h with⟨rfl,h3⟩|rfl|rfl|rfl|rfl
 ·have h6:0<=s/\s<=6:=by simpa [zY]using h3
  have hn:=Lx.num (n:=s) (sc:=0) h6.1 (aK.2 (by omega)) (by decide)
  have hne:tG s 0++[41]≠[]:=by simp
  have:=Lx.app (P:=fun d=>P3 d=false) (s:=[68,69,67,73,77,65,76]) (Lx.key (by decide) (by decide) (by decide)) (Lx.par hn.shut hne) (fun c hc=>by
   have:(40:UInt8)=c:=by simpa using hc
   subst this
   rfl) (by simp)
  have e:tyN 3 s=[68,69,67,73,77,65,76]++40::(tG s 0++[41]):=by
   show [68,69,67,73,77,65,76,40]++tG s 0++[41]=_;simp
  rw[e];exact this.any
 ·show Lx eJ (66::[79,79,76]) [Z7 (66::[79,79,76])];exact(Lx.key (c:=66) (w:=[79,79,76]) (by decide) (by decide) (by decide)).weak hg
 ·show Lx eJ (73::[78,84]) [Z7 (73::[78,84])];exact(Lx.key (c:=73) (w:=[78,84]) (by decide) (by decide) (by decide)).weak hg
 ·show Lx eJ (84::[69,88,84]) [Z7 (84::[69,88,84])];exact(Lx.key (c:=84) (w:=[69,88,84]) (by decide) (by decide) (by decide)).weak hg
 ·show Lx eJ (66::[89,84,69,83]) [Z7 (66::[89,84,69,83])];exact(Lx.key (c:=66) (w:=[89,84,69,83]) (by decide) (by decide) (by decide)).weak hg
theorem D08 {e:XR}(h:zV e=true):(e.k=1->M9 e.nm=true/\(e.tb=[]\/M9 e.tb=true))/\(e.k=2->e.op=G4\/e.op=[45])/\(e.k=3->D1 cV e.op=true)/\(e.k=5->D1 J1 e.op=true):=by
 unfold zV at h;refine⟨fun hk=>?_,fun hk=>?_,fun hk=>?_,fun hk=>?_⟩
 ·rw[hk]at h;have h:=(Bc.1 (show((M9 e.nm&&(e.tb==[]||M9 e.tb))&&(e.op==[]&&(dA e.vk e.vn e.vc e.vs 0 0 0 []&&(e.nt==false&&cZ e.tk e.ts 0 0))))=true from h)).1;simpa using h
 ·rw[hk]at h;have h:=(Bc.1 (show((e.op==G4||e.op==[45])&&(dA e.vk e.vn e.vc e.vs 0 0 0 []&&(e.tb==[]&&(e.nm==[]&&(e.nt==false&&cZ e.tk e.ts 0 0)))))=true from h)).1;simpa using h
 ·rw[hk]at h;exact(Bc.1 (show(D1 cV e.op&&(dA e.vk e.vn e.vc e.vs 0 0 0 []&&(e.tb==[]&&(e.nm==[]&&(e.nt==false&&cZ e.tk e.ts 0 0)))))=true from h)).1
 ·rw[hk]at h;exact(Bc.1 (show(D1 J1 e.op&&(dA e.vk e.vn e.vc e.vs 0 0 0 []&&(e.tb==[]&&(e.nm==[]&&(e.nt==false&&cZ e.tk e.ts 0 0)))))=true from h)).1
theorem Lx.col {tb nm:List UInt8}(h1:M9 nm=true)(h2:tb=[]\/M9 tb=true):Lx eJ (A01 tb nm) (F6y tb nm):=by
 have hs:∀d,eJ d->Y4 d=false:=fun d hd=>by rcases hd with rfl|rfl<;>rfl
 have hn:=(Lx.name h1).weak hs
 have hne:nm≠[]:=by rintro rfl;simp[M9]at h1
 rcases tb with _|⟨c,tb⟩
 ·exact hn
 ·have h2:M9 (c::tb)=true:=h2.elim (fun h=>by cases h) id;have hd:Lx eJ (46::nm) [S8 [46],nmT nm]:=Lx.app (Lx.sign1 (c:=46) (by decide)) hn (fun _ _=>trivial) hne
  have:=Lx.app (Lx.name h2) hd (fun d hd=>by
   have:(46:UInt8)=d:=by simpa using hd
   subst this
   rfl) (by simp)
  have e:A01 (c::tb) nm=c::tb++46::nm:=by
   show(c::tb++[46])++nm=_;simp
  rw[e];exact this
theorem A44:∀(n:Nat) (t:TX),S3 n t=true->inG n t=true->Lx eJ (D3 n t) (J5 n t)/\D3 n t≠[]
 |0,t,h,_=>by cases h
 |n+1,.mk k op vk vn vc vs tb nm nt tk ts ks,hr,hi=>by
  obtain⟨ho,hall⟩:=Bc.1 hr;obtain⟨ho,hkid⟩:=Bc.1 ho;obtain⟨hvn,hin⟩:=Bc.1 (show(mG vn&&ks.all (inG n))=true from hi);obtain⟨k3,k1,k5,k0⟩:=qZ hkid;obtain⟨o1,o2,o3,o5⟩:=D08 ho;dsimp only at o1 o2 o3 o5 k3 k1 k5 k0;have kid:∀t∈ks,Lx eJ (D3 n t) (J5 n t)/\D3 n t≠[]:=fun t ht=>A44 n t (Bg.1 hall t ht) (Bg.1 hin t ht)
  have h32:∀(s:List UInt8) (c:UInt8),(32::s).head? =some c->c=32:=fun s c hc=>by
   have:(32:UInt8)=c:=by simpa using hc
   exact this.symm
  have h32E:∀(s:List UInt8) (c:UInt8),(32::s).head? =some c->eJ c:=fun s c hc=>.inl (h32 s c hc)
  have h32G:∀(s:List UInt8) (c:UInt8),(32::s).head? =some c->P3 c=false:=fun s c hc=>by rw[h32 s c hc];rfl
  have h40G:∀(s:List UInt8) (c:UInt8),(40::s).head? =some c->P3 c=false:=fun s c hc=>by
   have:(40:UInt8)=c:=by simpa using hc
   rw[<-this];rfl
  rcases pE ho with⟨hk,hlit⟩|hk|hk|hk|hk|hk|⟨hk,hty⟩<;>dsimp only at hk<;>subst hk
  ·refine⟨Lx.lit hlit hvn,fun e=>?_⟩;have h9:=Lx.lit hlit hvn 0 [] (fun c hc=>by cases hc);have e:vI vk vn vc vs=[]:=e;rw[e]at h9;obtain⟨A,h10,h11⟩:=h9
   have:A=[]:=by
    have:(Sum.inr []:Nat ⊕ List TR)=Sum.inr (A++[]):=h11;injection this with this;rw[Bf]at this;exact this.symm
   rw[this]at h10
   cases h10
  ·obtain⟨h1,h2⟩:=o1 rfl;refine⟨Lx.col h1 h2,fun e=>?_⟩
   have hne:nm≠[]:=by rintro rfl;simp[M9]at h1
   have e:(bif tb==[]then []else tb++[46])++nm=[]:=e;exact hne (List.append_eq_nil_iff.1 e).2
  ·obtain⟨t0,rfl⟩:=gN (k1 (.inl rfl));obtain⟨h0,hn0⟩:=kid t0 (An ..);refine⟨?_,by show []++[40]++_++[41]≠[];simp⟩;have hop:Lx (fun c=>c=32) op [opT op]:=(o2 rfl).elim (fun h=>Lx.op (.inr h)) fun h=>Lx.op (.inl (by rw[h];decide));have:=Lx.par (Lx.app hop (Lx.sp1 h0.shut (by simp)) (h32 _) (by simp)) (by simp)
   have e1:D3 (n+1) (.mk 2 op vk vn vc vs tb nm nt tk ts [t0])=40::(op++32::(D3 n t0++[41])):=by
    show []++[40]++(op++[32]++D3 n t0)++[41]=_;simp
   have e2:J5 (n+1) (.mk 2 op vk vn vc vs tb nm nt tk ts [t0])=S8 [40]::([opT op]++(J5 n t0++[S8 [41]])):=by
    show []++[S8 [40]]++(opT op::J5 n t0)++[S8 [41]]=_;simp
   rw[e1,e2];exact this.any
  ·obtain⟨t0,t1,rfl⟩:=C46 (k3 rfl);obtain⟨h0,hn0⟩:=kid t0 (An ..);obtain⟨h1,hn1⟩:=kid t1 (Ap _ (An ..));refine⟨?_,by show []++[40]++_++[41]≠[];simp⟩
   have hopn:op≠[]:=by rintro rfl;have:=o3 rfl;revert this;decide
   have hop:Lx (fun c=>c=32) op [opT op]:=Lx.op (.inl (o3 rfl));have:=Lx.par (Lx.app h0 (Lx.sp1 (Lx.app hop (Lx.sp1 h1.shut (by simp)) (h32 _) (by simp)) (by simp)) (h32E _) (by simp)) (by simp)
   have e1:D3 (n+1) (.mk 3 op vk vn vc vs tb nm nt tk ts [t0,t1])=40::(D3 n t0++32::(op++32::(D3 n t1++[41]))):=by
    show []++[40]++(D3 n t0++([32]++op++[32])++D3 n t1)++[41]=_;simp
   have e2:J5 (n+1) (.mk 3 op vk vn vc vs tb nm nt tk ts [t0,t1])=S8 [40]::(J5 n t0++([opT op]++(J5 n t1++[S8 [41]]))):=by
    show []++[S8 [40]]++(J5 n t0++(opT op::J5 n t1))++[S8 [41]]=_;simp
   rw[e1,e2];exact this.any
  ·obtain⟨t0,rfl⟩:=gN (k1 (.inr (.inl rfl)));obtain⟨h0,hn0⟩:=kid t0 (An ..);refine⟨?_,by show []++[40]++_++[41]≠[];simp⟩
   have hnull:Lx eJ O7 [Z7 O7]:=(Lx.key (by decide) (by decide) (by decide)).weak fun d hd=>by rcases hd with rfl|rfl<;>rfl
   have his:Lx (fun d=>P3 d=false) wX [Z7 wX]:=Lx.key (by decide) (by decide) (by decide);have hnot:Lx (fun d=>P3 d=false) G4 [Z7 G4]:=Lx.key (by decide) (by decide) (by decide)
   cases nt with
   |false =>
    have:=Lx.par (Lx.app h0 (Lx.sp1 (Lx.app his (Lx.sp1 hnull.shut (by simp)) (h32G _) (by simp)) (by simp)) (h32E _) (by simp)) (by simp)
    have e1:D3 (n+1) (.mk 4 op vk vn vc vs tb nm false tk ts [t0])=40::(D3 n t0++32::(wX++32::(O7++[41]))):=by
     show []++[40]++(D3 n t0++[32,73,83,32]++[]++[78,85,76,76])++[41]=_;simp
    have e2:J5 (n+1) (.mk 4 op vk vn vc vs tb nm false tk ts [t0])=S8 [40]::(J5 n t0++([Z7 wX]++([Z7 O7]++[S8 [41]]))):=by
     show []++[S8 [40]]++(J5 n t0++(Z7 wX::([]++[Z7 O7])))++[S8 [41]]=_;simp
    rw[e1,e2];exact this.any
   |true =>
    have:=Lx.par (Lx.app h0 (Lx.sp1 (Lx.app his (Lx.sp1 (Lx.app hnot (Lx.sp1 hnull.shut (by simp)) (h32G _) (by simp)) (by simp)) (h32G _) (by simp)) (by simp)) (h32E _) (by simp)) (by simp)
    have e1:D3 (n+1) (.mk 4 op vk vn vc vs tb nm true tk ts [t0])=40::(D3 n t0++32::(wX++32::(G4++32::(O7++[41])))):=by
     show []++[40]++(D3 n t0++[32,73,83,32]++[78,79,84,32]++[78,85,76,76])++[41]=_;simp
    have e2:J5 (n+1) (.mk 4 op vk vn vc vs tb nm true tk ts [t0])=S8 [40]::(J5 n t0++([Z7 wX]++([Z7 G4]++([Z7 O7]++[S8 [41]])))):=by
     show []++[S8 [40]]++(J5 n t0++(Z7 wX::([Z7 G4]++[Z7 O7])))++[S8 [41]]=_;simp
    rw[e1,e2];exact this.any
  ·have hcall:=Lx.call (o5 rfl)
   have hopn:op≠[]:=by rintro rfl;have:=o5 rfl;revert this;decide
   refine⟨?_,by show op++[40]++_++[41]≠[];simp⟩;rcases k5 rfl with h1|h1
   ·obtain⟨t0,rfl⟩:=gN h1;obtain⟨h0,hn0⟩:=kid t0 (An ..);have:=Lx.app hcall (Lx.par h0.shut (by simp)) (h40G _) (by simp)
    have e1:D3 (n+1) (.mk 5 op vk vn vc vs tb nm nt tk ts [t0])=op++40::(D3 n t0++[41]):=by
     show op++[40]++D3 n t0++[41]=_;simp
    have e2:J5 (n+1) (.mk 5 op vk vn vc vs tb nm nt tk ts [t0])=[Z7 op]++S8 [40]::(J5 n t0++[S8 [41]]):=by
     show [Z7 op]++[S8 [40]]++J5 n t0++[S8 [41]]=_;simp
    rw[e1,e2];exact this.any
   ·obtain rfl:=Cg.1 h1;have hst:Lx eJ [42] [S8 [42]]:=(Lx.sign1 (by decide)).any;have:=Lx.app hcall (Lx.par hst.shut (by simp)) (h40G _) (by simp)
    have e1:D3 (n+1) (.mk 5 op vk vn vc vs tb nm nt tk ts [])=op++40::([42]++[41]):=by
     show op++[40]++[42]++[41]=_;simp
    have e2:J5 (n+1) (.mk 5 op vk vn vc vs tb nm nt tk ts [])=[Z7 op]++S8 [40]::([S8 [42]]++[S8 [41]]):=by
     show [Z7 op]++[S8 [40]]++[S8 [42]]++[S8 [41]]=_;simp
    rw[e1,e2];exact this.any
  ·obtain⟨t0,rfl⟩:=gN (k1 (.inr (.inr rfl)));obtain⟨h0,hn0⟩:=kid t0 (An ..);refine⟨?_,by show [67,65,83,84]++[40]++_++[41]≠[];simp⟩;have hcast:Lx (fun d=>P3 d=false) aU [Z7 aU]:=Lx.key (by decide) (by decide) (by decide);have has:Lx (fun d=>P3 d=false) zJ [Z7 zJ]:=Lx.key (by decide) (by decide) (by decide);have:=Lx.app hcast (Lx.par (Lx.app h0 (Lx.sp1 (Lx.app has (Lx.sp1 (Lx.ty hty).shut (by simp)) (h32G _) (by simp)) (by simp)) (h32E _) (by simp)) (by simp)) (h40G _) (by simp)
   have e1:D3 (n+1) (.mk 6 op vk vn vc vs tb nm nt tk ts [t0])=aU++40::(D3 n t0++32::(zJ++32::(tyN tk ts++[41]))):=by
    show [67,65,83,84]++[40]++(D3 n t0++([32,65,83,32]++tyN tk ts))++[41]=_;simp
   have e2:J5 (n+1) (.mk 6 op vk vn vc vs tb nm nt tk ts [t0])=[Z7 aU]++S8 [40]::(J5 n t0++([Z7 zJ]++(B3q tk ts++[S8 [41]]))):=by
    show [Z7 aU]++[S8 [40]]++(J5 n t0++(Z7 zJ::B3q tk ts))++[S8 [41]]=_;simp
   rw[e1,e2];exact this.any
def Ty (y:XR)(t:TX):Prop:=∃D,er D y=some t
def aL (r:J3 XR)(t:TX)(Z:List TR):Prop:=(∃a,r=.bad a)\/∃y,r=.ok y Z/\Ty y t
theorem aL.bad {a:Int}{t:TX}{Z:List TR}:aL (.bad a) t Z:=.inl ⟨a,rfl⟩
theorem aL.ok {y:XR}{t:TX}{Z:List TR}(h:Ty y t):aL (.ok y Z) t Z:=.inr ⟨y,rfl,h⟩
theorem aL.bind {r:J3 XR}{t u:TX}{Z Z':List TR}{k:XR->List TR->J3 XR}(h:aL r t Z)(hk:∀y,Ty y t->aL (k y Z) u Z'):aL (r.bind k) u Z':=by
 rcases h with⟨a,rfl⟩|⟨y,rfl,hy⟩
 ·exact .bad
 ·exact hk y hy
section
variable {e:Int} {low:Option GF} {T Z:List TR} {t:TX}
theorem A6v {n:Nat}{part:List TR->J3 XR}{m:Nat}{x:XR}(h:A8 (opK n) (opW n) Z=false):J4 e n part (m+1) x Z=.ok x Z:=by
 rw[J4,h];rfl
theorem A0u {n:Nat}{part:List TR->J3 XR}(h:aL (part T) t Z)(hs:A8 (opK n) (opW n) Z=false):aL (A1p e n part T) t Z:=by
 unfold A1p;refine h.bind fun y hy=>?_;show aL (J4 e n part (4999+1) y Z) t Z;rw[A6v hs];exact .ok hy
theorem up1 (h:aL (G3 e low T) t Z)(hs:A8 3 [[42],[47],[37]] Z=false):aL (uX e low T) t Z:=A0u (n:=3) h hs
theorem up2 (h:aL (uX e low T) t Z)(hs:A8 3 [[43],[45]] Z=false):aL (tW e low T) t Z:=A0u (n:=2) h hs
theorem up3 (h:aL (tW e low T) t Z)(hs:A8 3 bN Z=false)(hi:A8 1 [wX] Z=false):aL (nR e low T) t Z:=by
 unfold nR;refine h.bind fun y hy=>?_;unfold fR;rw[hs,hi];exact .ok hy
theorem up4 (h:aL (nR e low T) t Z)(hs:A8 1 [G4] T=false):aL (bS e low T) t Z:=by
 unfold bS;rw[hs];exact h
theorem up5 (h:aL (bS e low T) t Z)(hs:A8 1 [[65,78,68]] Z=false):aL (sW e low T) t Z:=A0u (n:=1) h hs
theorem up6 (h:aL (sW e low T) t Z)(hs:A8 1 [[79,82]] Z=false):aL (T9 e low T) t Z:=A0u (n:=0) h hs
structure Stop (Z:List TR):Prop where
 s3:A8 3 [[42],[47],[37]] Z=false
 s2:A8 3 [[43],[45]] Z=false
 sc:A8 3 bN Z=false
 si:A8 1 [wX] Z=false
 s1:A8 1 [[65,78,68]] Z=false
 s0:A8 1 [[79,82]] Z=false
 sd:A8 3 [[46]] Z=false
theorem D7y (h:aL (G3 e low T) t Z)(hz:Stop Z):aL (tW e low T) t Z:=up2 (up1 h hz.s3) hz.s2
theorem A8k (h:aL (G3 e low T) t Z)(hz:Stop Z)(hn:A8 1 [G4] T=false):aL (bS e low T) t Z:=up4 (up3 (D7y h hz) hz.sc hz.si) hn
theorem A10 (h:aL (G3 e low T) t Z)(hz:Stop Z)(hn:A8 1 [G4] T=false):aL (T9 e low T) t Z:=up6 (up5 (A8k h hz hn) hz.s1) hz.s0
theorem A1b {n:Nat}{part:List TR->J3 XR}{o:TR}{R:List TR}{t0 t1:TX}{op:List UInt8}(h0:aL (part T) t0 (o::R))(ho:A8 (opK n) (opW n) (o::R)=true)(hop:o.t=op)(h1:aL (part R) t1 Z)(hs:A8 (opK n) (opW n) Z=false)
  (ht:∀a y0 y1,Ty y0 t0->Ty y1 t1->Ty (Z9 a op y0 y1) t):aL (A1p e n part T) t Z:=by
 unfold A1p;refine h0.bind fun y0 hy0=>?_;show aL (J4 e n part (4998+1+1) y0 (o::R)) t Z;rw[J4,ho,cond_true];refine aL.bind (t:=t1) (Z:=Z) h1 fun y1 hy1=>?_;rw[A6v hs];refine .ok ?_;show Ty (Z9 o.a o.t y0 y1) t;rw[hop];exact ht _ _ _ hy0 hy1
end
theorem Ty.un {a:Int}{op:List UInt8}{y:XR}{t:TX}(h:Ty y t):Ty (wW a op y) (.mk 2 op 0 0 0 [] [] [] false 0 0 [t]):=by
 obtain⟨D,h⟩:=h;refine⟨D+1,?_⟩;rw[er,show sG (wW a op y)=true from rfl,cond_true,show bE 13 xrG (wW a op y).kn (wW a op y).kc=some [y]from B43 y,Aa,K7,h];rfl
theorem Ty.bin {a:Int}{op:List UInt8}{y z:XR}{t u:TX}(h:Ty y t)(k:Ty z u):Ty (Z9 a op y z) (.mk 3 op 0 0 0 [] [] [] false 0 0 [t,u]):=by
 obtain⟨D,h⟩:=h;obtain⟨D',k⟩:=k;refine⟨max D D'+1,?_⟩;rw[er,show sG (Z9 a op y z)=true from rfl,cond_true,show bE 13 xrG (Z9 a op y z).kn (Z9 a op y z).kc=some [y,z]from F5c y z,Aa,K7,A66 (Nat.le_max_left ..) h,Aa,K7,A66 (Nat.le_max_right ..) k];rfl
theorem Ty.null {a:Int}{nt:Bool}{y:XR}{t:TX}(h:Ty y t):Ty (fS a nt y) (.mk 4 [] 0 0 0 [] [] [] nt 0 0 [t]):=by
 obtain⟨D,h⟩:=h;refine⟨D+1,?_⟩;rw[er,show sG (fS a nt y)=true from rfl,cond_true,show bE 13 xrG (fS a nt y).kn (fS a nt y).kc=some [y]from B43 y,Aa,K7,h];rfl
theorem Ty.call {a:Int}{op:List UInt8}{y:XR}{t:TX}(h:Ty y t):Ty (S2 a op y) (.mk 5 op 0 0 0 [] [] [] false 0 0 [t]):=by
 obtain⟨D,h⟩:=h;refine⟨D+1,?_⟩;rw[er,show sG (S2 a op y)=true from rfl,cond_true,show bE 13 xrG (S2 a op y).kn (S2 a op y).kc=some [y]from B43 y,Aa,K7,h];rfl
theorem Ty.cast {a k s:Int}{y:XR}{t:TX}(h:Ty y t):Ty (gG a k s y) (.mk 6 [] 0 0 0 [] [] [] false k s [t]):=by
 obtain⟨D,h⟩:=h;refine⟨D+1,?_⟩;rw[er,show sG (gG a k s y)=true from rfl,cond_true,show bE 13 xrG (gG a k s y).kn (gG a k s y).kc=some [y]from B43 y,Aa,K7,h];rfl
theorem Ty.call0 {a:Int}{op:List UInt8}:Ty (call0 a op) (.mk 5 op 0 0 0 [] [] [] false 0 0 []):=⟨1,rfl⟩
theorem Ty.lit {a vk vn vc:Int}{vs:List UInt8}(h:vs.length<=1000000):Ty (pN a vk vn vc vs) (.mk 0 [] vk vn vc vs [] [] false 0 0 []):=by
 refine⟨1,?_⟩
 have hs:sG (pN a vk vn vc vs)=true:=by
  unfold sG pN;simp only[decide_eq_true h];rfl
 rw[er,hs];rfl
theorem Ty.col {a:Int}{tb nm:List UInt8}(h:tb.length<=1000000)(k:nm.length<=1000000):Ty (dX a tb nm) (.mk 1 [] 0 0 0 [] tb nm false 0 0 []):=by
 refine⟨1,?_⟩
 have hs:sG (dX a tb nm)=true:=by
  unfold sG dX;simp only[decide_eq_true h,decide_eq_true k];rfl
 rw[er,hs];rfl
theorem P7 {x y:TR}(h:bd x=y):x.k=y.k/\x.t=y.t/\x.vk=y.vk/\x.vn=y.vn/\x.vc=y.vc/\x.vs=y.vs:=by
 subst h;exact⟨rfl,rfl,rfl,rfl,rfl,rfl⟩
theorem F2 {a:Int}{ws:List (List UInt8)}{x:TR}{R:List TR}{k:Int}{w:List UInt8}(hk:x.k=k)(hw:x.t=w):A8 a ws (x::R)=(k==a&&D1 ws w):=by
 subst hk hw;rfl
theorem rC {z:TR}{Z:List TR}(h:bd z=S8 [41]):Stop (z::Z):=by
 obtain⟨h1,h2,-⟩:=P7 h;exact⟨(F2 h1 h2).trans rfl,(F2 h1 h2).trans rfl,(F2 h1 h2).trans rfl,(F2 h1 h2).trans rfl,(F2 h1 h2).trans rfl,(F2 h1 h2).trans rfl,(F2 h1 h2).trans rfl⟩
theorem E49 {z:TR}{Z:List TR}(h:bd z=Z7 zJ):Stop (z::Z):=by
 obtain⟨h1,h2,-⟩:=P7 h;exact⟨(F2 h1 h2).trans rfl,(F2 h1 h2).trans rfl,(F2 h1 h2).trans rfl,(F2 h1 h2).trans rfl,(F2 h1 h2).trans rfl,(F2 h1 h2).trans rfl,(F2 h1 h2).trans rfl⟩
theorem D4j:Stop []:=⟨rfl,rfl,rfl,rfl,rfl,rfl,rfl⟩
theorem E5m {e:Int}{low:Option GF}{T0 T1 Z:List TR}{o:TR}{op:List UInt8}{t0 t1 t:TX}(hop:D1 cV op=true)(ho:bd o=opT op)(hz:Stop Z)
  (h0:∀Z',A8 3 [[46]] Z'=false->aL (G3 e low (T0++Z')) t0 Z') (h1:∀Z',A8 3 [[46]] Z'=false->aL (G3 e low (T1++Z')) t1 Z') (n0:∀Z',A8 1 [G4] (T0++Z')=false) (n1:∀Z',A8 1 [G4] (T1++Z')=false)
  (ht:∀a y0 y1,Ty y0 t0->Ty y1 t1->Ty (Z9 a op y0 y1) t):aL (T9 e low (T0++o::(T1++Z))) t Z:=by
 obtain⟨k1,k2,-⟩:=P7 ho
 have hw:op∈cV:=by
  unfold D1 at hop;rw[Dp]at hop;obtain⟨x,hx,e⟩:=hop;rw[eq_of_beq e];exact hx
 have f1:=h1 Z hz.sd;have key:∀(a:Int) (ws:List (List UInt8)) (k:Int),(opT op).k=k->(opT op).t=op->A8 a ws (o::(T1++Z))=(k==a&&D1 ws op):=fun a ws k hk ht=>F2 (k1.trans hk) (k2.trans ht);have hot:o.t=op:=k2.trans (by unfold opT;cases W3 op<;>rfl);simp only[cV,Be,Cz,or_false]at hw
 have hor:op=[79,82]->aL (T9 e low (T0++o::(T1++Z))) t Z:=fun h=>by
  subst h;have q:=fun a ws=>key a ws 1 rfl rfl;exact A1b (n:=0) (up5 (up4 (up3 (up2 (up1 (h0 _ (q _ _)) (q _ _)) (q _ _)) (q _ _) (q _ _)) (n0 _)) (q _ _)) (q _ _) hot (up5 (A8k f1 hz (n1 _)) hz.s1) hz.s0 ht
 have hand:op=[65,78,68]->aL (T9 e low (T0++o::(T1++Z))) t Z:=fun h=>by
  subst h;have q:=fun a ws=>key a ws 1 rfl rfl;exact up6 (A1b (n:=1) (up4 (up3 (up2 (up1 (h0 _ (q _ _)) (q _ _)) (q _ _)) (q _ _) (q _ _)) (n0 _)) (q _ _) hot (A8k f1 hz (n1 _)) hz.s1 ht) hz.s0
 have hcmp:D1 bN op=true->(opT op)=S8 op->D1 [[43],[45]] op=false->D1 [[42],[47],[37]] op=false->D1 [[46]] op=false->aL (T9 e low (T0++o::(T1++Z))) t Z:=fun hc hs g2 g3 gd=>by
  have q:=fun ws=>key 3 ws 3 (by rw[hs];rfl) (by rw[hs];rfl);have hsum:=up2 (up1 (h0 (o::(T1++Z)) ((q _).trans (by rw[gd];rfl))) ((q _).trans (by rw[g3];rfl))) ((q _).trans (by rw[g2];rfl));refine up6 (up5 (up4 ?_ (n0 _)) hz.s1) hz.s0;unfold nR;refine hsum.bind fun y0 hy0=>?_;unfold fR;rw[(q bN).trans (show((3:Int)==3&&D1 bN op)=true by rw[hc];rfl),cond_true];refine aL.bind (t:=t1) (Z:=Z) (D7y f1 hz) fun y1 hy1=>.ok ?_;show Ty (Z9 o.a o.t y0 y1) t;rw[hot];exact ht _ _ _ hy0 hy1
 have hadd:D1 [[43],[45]] op=true->(opT op)=S8 op->D1 [[42],[47],[37]] op=false->D1 [[46]] op=false->aL (T9 e low (T0++o::(T1++Z))) t Z:=fun hc hs g3 gd=>by
  have q:=fun ws=>key 3 ws 3 (by rw[hs];rfl) (by rw[hs];rfl);exact up6 (up5 (up4 (up3 (A1b (n:=2) (up1 (h0 _ ((q _).trans (by rw[gd];rfl))) ((q _).trans (by rw[g3];rfl))) ((q _).trans (show((3:Int)==3&&D1 [[43],[45]] op)=true by rw[hc];rfl)) hot (up1 f1 hz.s3) hz.s2 ht) hz.sc hz.si) (n0 _)) hz.s1) hz.s0
 have hmul:D1 [[42],[47],[37]] op=true->(opT op)=S8 op->D1 [[46]] op=false->aL (T9 e low (T0++o::(T1++Z))) t Z:=fun hc hs gd=>by
  have q:=fun ws=>key 3 ws 3 (by rw[hs];rfl) (by rw[hs];rfl);exact up6 (up5 (up4 (up3 (up2 (A1b (n:=3) (h0 _ ((q _).trans (by rw[gd];rfl))) ((q _).trans (show((3:Int)==3&&D1 [[42],[47],[37]] op)=true by rw[hc];rfl)) hot f1 hz.s3 ht) hz.s2) hz.sc hz.si) (n0 _)) hz.s1) hz.s0
 rcases hw with h|h|h|h|h|h|h|h|h|h|h|h|h
 ·exact hor h
 ·exact hand h
 ·subst h;exact hcmp (by decide) rfl (by decide) (by decide) (by decide)
 ·subst h;exact hcmp (by decide) rfl (by decide) (by decide) (by decide)
 ·subst h;exact hcmp (by decide) rfl (by decide) (by decide) (by decide)
 ·subst h;exact hcmp (by decide) rfl (by decide) (by decide) (by decide)
 ·subst h;exact hcmp (by decide) rfl (by decide) (by decide) (by decide)
 ·subst h;exact hcmp (by decide) rfl (by decide) (by decide) (by decide)
 ·subst h;exact hadd (by decide) rfl (by decide) (by decide)
 ·subst h;exact hadd (by decide) rfl (by decide) (by decide)
 ·subst h;exact hmul (by decide) rfl (by decide)
 ·subst h;exact hmul (by decide) rfl (by decide)
 ·subst h;exact hmul (by decide) rfl (by decide)
theorem D8e {e:XR}(h:zV e=true):(e.k≠0->e.vk=0/\e.vn=0/\e.vc=0/\e.vs=[])/\(e.k≠1->e.tb=[]/\e.nm=[])/\(e.k≠4->e.nt=false)/\(e.k≠6->e.tk=0/\e.ts=0)/\(e.k=0\/e.k=1\/e.k=4\/e.k=6->e.op=[]):=by
 have hk:=pE h;unfold zV at h;rcases hk with⟨hk,-⟩|hk|hk|hk|hk|hk|⟨hk,-⟩<;>rw[hk]at h ⊢ <;> simp[dA,cZ]at h ⊢ <;> simp_all
section
variable {e:Int} {low:Option GF} {T Z I:List TR} {t:TX}
theorem eK (h:A8 3 [[45]] T=false):G3 e low T=gF e low T:=by
 unfold G3;rw[h];rfl
theorem D64 (h1:A8 3 [[40]] T=false)(h2:A8 1 [aU] T=false)(h3:A8 1 J1 T=false){v:VR}(h4:oN T=some v):gF e low T=.ok (pN (bB e T) v.vk v.vn v.vc v.vs) T.tail:=by
 unfold gF;rw[h1,h2,h3];simp only[cond_false];rw[h4]
theorem A67 (h1:A8 3 [[40]] T=false)(h2:A8 1 [aU] T=false)(h3:A8 1 J1 T=false)(h4:oN T=none):gF e low T=(iF e T).bind fun n R=>bif A8 3 [[46]] R then(iF e R.tail).bind fun m R=>.ok (dX (bB e T) n m) R else .ok (dX (bB e T) [] n) R:=by
 unfold gF;rw[h1,h2,h3];simp only[cond_false];rw[h4]
theorem lX {y:TR}(hy:bd y=S8 [41]):O9 e 3 [41] (y::Z)=.ok () Z:=by
 obtain⟨h1,h2,-⟩:=P7 hy;unfold O9;rw[(F2 h1 h2).trans (show((3:Int)==3&&D1 [[41]] [41])=true from rfl)];rfl
theorem E5v {y:TR}(hy:bd y=Z7 zJ):O9 e 1 zJ (y::Z)=.ok () Z:=by
 obtain⟨h1,h2,-⟩:=P7 hy;unfold O9;rw[(F2 h1 h2).trans (show((1:Int)==1&&D1 [zJ] zJ)=true from rfl)];rfl
theorem nM {x:TR}(hx:bd x=S8 [40]){body:GF->List TR->J3 XR}{R:List TR}(h:∀k,aL ((body ⟨T9 e (nW e k),bS e (nW e k),G3 e (nW e k)⟩ R).bind fun x R=>(O9 e 3 [41] R).bind fun _ R=>.ok x R) t Z):∀k,aL (Y3 e (nW e k) (x::R) body) t Z
 |0=>by
  unfold Y3;obtain⟨h1,h2,-⟩:=P7 hx;rw[(F2 h1 h2).trans (show((3:Int)==3&&D1 [[40]] [40])=true from rfl)];exact .bad
 |k+1=>by
  unfold Y3;obtain⟨h1,h2,-⟩:=P7 hx;rw[(F2 h1 h2).trans (show((3:Int)==3&&D1 [[40]] [40])=true from rfl)];exact h k
theorem B07 {x y:TR}(hx:bd x=S8 [40])(hy:bd y=S8 [41])(h:∀k,aL (T9 e (nW e k) (I++y::Z)) t (y::Z))(k:Nat):aL (G3 e (nW e k) (x::(I++y::Z))) t Z:=by
 obtain⟨h1,h2,-⟩:=P7 hx;rw[eK ((F2 h1 h2).trans rfl)];unfold gF;rw[(F2 h1 h2).trans (show((3:Int)==3&&D1 [[40]] [40])=true from rfl),cond_true];refine nM hx (fun k=>(h k).bind fun y' hy'=>?_) k;rw[lX hy];exact .ok hy'
theorem D19 {o x y:TR}{op:List UInt8}{t0:TX}(ho:bd o=Z7 op)(hop:D1 J1 op=true)(hx:bd x=S8 [40])(hy:bd y=S8 [41])(h:∀k,aL (T9 e (nW e k) (I++y::Z)) t0 (y::Z))(hs:A8 3 [[42]] (I++y::Z)=false)(ht:∀a y,Ty y t0->Ty (S2 a op y) t)(k:Nat):aL (G3 e (nW e k) (o::x::(I++y::Z))) t Z:=by
 obtain⟨h1,h2,-⟩:=P7 ho
 have hw:op∈J1:=by
  unfold D1 at hop;rw[Dp]at hop;obtain⟨x,hx,e⟩:=hop;rw[eq_of_beq e];exact hx
 have hc:D1 [aU] op=false:=by
  simp only[J1,Be,Cz,or_false]at hw;rcases hw with rfl|rfl|rfl|rfl<;>decide
 rw[eK ((F2 h1 h2).trans rfl)];unfold gF;rw[(F2 h1 h2).trans (show((1:Int)==3&&D1 [[40]] op)=false from rfl),cond_false,(F2 h1 h2).trans (show((1:Int)==1&&D1 [aU] op)=false by rw[hc];rfl),cond_false,(F2 h1 h2).trans (show((1:Int)==1&&D1 J1 op)=true by rw[hop];rfl),cond_true];unfold zG;refine nM hx (fun k=>?_) k
 have fin:aL (((T9 e (nW e k) (I++y::Z)).bind fun x' R=>J3.ok (S2 (bB e (o::x::(I++y::Z))) (yP (o::x::(I++y::Z))) x') R).bind fun x R=>(O9 e 3 [41] R).bind fun _ R=>.ok x R) t Z:=by
  refine aL.bind (t:=t) (Z:=y::Z) ((h k).bind fun y' hy'=>.ok ?_) fun y' hy'=>?_
  ·show Ty (S2 _ o.t y') t;rw[show o.t=op from h2];exact ht _ _ hy'
  ·rw[lX hy];exact .ok hy'
 dsimp only;rw[hs,cond_false]
 cases yP (o::x::(I++y::Z))==L0 with
 |true=>exact fin
 |false=>exact fin
theorem C5g {o x s y:TR}(ho:bd o=Z7 L0)(hx:bd x=S8 [40])(hs:bd s=S8 [42])(hy:bd y=S8 [41])(ht:∀a,Ty (call0 a L0) t)(k:Nat):aL (G3 e (nW e k) (o::x::s::y::Z)) t Z:=by
 obtain⟨h1,h2,-⟩:=P7 ho;obtain⟨g1,g2,-⟩:=P7 hs;rw[eK ((F2 h1 h2).trans rfl)];unfold gF;rw[(F2 h1 h2).trans (show((1:Int)==3&&D1 [[40]] L0)=false from rfl),cond_false,(F2 h1 h2).trans (show((1:Int)==1&&D1 [aU] L0)=false from rfl),cond_false,(F2 h1 h2).trans (show((1:Int)==1&&D1 J1 L0)=true from rfl),cond_true];unfold zG;refine nM hx (fun k=>?_) k;dsimp only;rw[(F2 g1 g2).trans (show((3:Int)==3&&D1 [[42]] [42])=true from rfl),cond_true,show yP (o::x::s::y::Z)=L0 from h2,show(L0==L0)=true from rfl,cond_true];show aL ((O9 e 3 [41] (y::Z)).bind _) t Z;rw[lX hy];exact .ok (ht _)
theorem C4x {k s:Int}(h:tyB k s=true){A:List TR}(hA:A.map bd=B3q k s):U7 e (A++Z)=.ok (k,s) Z:=by
 rcases rM h with⟨rfl,h3⟩|rfl|rfl|rfl|rfl
 ·have h6:0<=s/\s<=6:=by simpa [zY]using h3
  have hA:A.map bd=[Z7 [68,69,67,73,77,65,76],S8 [40],jI (s,0),S8 [41]]:=hA;obtain⟨a1,A,rfl,e1,hA⟩:=Ao.1 hA;obtain⟨a2,A,rfl,e2,hA⟩:=Ao.1 hA;obtain⟨a3,A,rfl,e3,hA⟩:=Ao.1 hA;obtain⟨a4,A,rfl,e4,hA⟩:=Ao.1 hA;obtain rfl:=Bx.1 hA;obtain⟨b1,b2,-⟩:=P7 e1;obtain⟨c1,c2,-⟩:=P7 e2;obtain⟨d1,-,d3,d4,-⟩:=P7 e3
  have hn:A5g e 6 (a3::a4::Z)=.ok s (a4::Z):=by
   rw[A5g,show a3.k=2 from d1,show a3.vk=2 from d3,show a3.vn=s from d4,decide_eq_true h6.2];rfl
  have hp:O9 e 3 [40] (a2::a3::a4::Z)=.ok () (a3::a4::Z):=by
   unfold O9;rw[(F2 c1 c2).trans (show((3:Int)==3&&D1 [[40]] [40])=true from rfl)];rfl
  show U7 e (a1::a2::a3::a4::Z)=_;rw[U7,show a1.k=1 from b1,show a1.t=[68,69,67,73,77,65,76]from b2];show((O9 e 3 [40] (a2::a3::a4::Z)).bind _)=_;rw[hp];show((A5g e 6 (a3::a4::Z)).bind _)=_;rw[hn];show((O9 e 3 [41] (a4::Z)).bind _)=_;rw[lX e4];rfl
 all_goals
  have hs:s=0:=by
   have:=h;simp[tyB]at this;exact this
  subst hs
 ·have hA:A.map bd=[Z7 [66,79,79,76]]:=hA;obtain⟨a1,A,rfl,e1,hA⟩:=Ao.1 hA;obtain rfl:=Bx.1 hA;obtain⟨b1,b2,-⟩:=P7 e1;show U7 e (a1::Z)=_;rw[U7,show a1.k=1 from b1,show a1.t=[66,79,79,76]from b2];rfl
 ·have hA:A.map bd=[Z7 [73,78,84]]:=hA;obtain⟨a1,A,rfl,e1,hA⟩:=Ao.1 hA;obtain rfl:=Bx.1 hA;obtain⟨b1,b2,-⟩:=P7 e1;show U7 e (a1::Z)=_;rw[U7,show a1.k=1 from b1,show a1.t=[73,78,84]from b2];rfl
 ·have hA:A.map bd=[Z7 [84,69,88,84]]:=hA;obtain⟨a1,A,rfl,e1,hA⟩:=Ao.1 hA;obtain rfl:=Bx.1 hA;obtain⟨b1,b2,-⟩:=P7 e1;show U7 e (a1::Z)=_;rw[U7,show a1.k=1 from b1,show a1.t=[84,69,88,84]from b2];rfl
 ·have hA:A.map bd=[Z7 [66,89,84,69,83]]:=hA;obtain⟨a1,A,rfl,e1,hA⟩:=Ao.1 hA;obtain rfl:=Bx.1 hA;obtain⟨b1,b2,-⟩:=P7 e1;show U7 e (a1::Z)=_;rw[U7,show a1.k=1 from b1,show a1.t=[66,89,84,69,83]from b2];rfl
theorem D6p {o x z y:TR}{tk ts:Int}{A:List TR}{t0:TX}(ho:bd o=Z7 aU)(hx:bd x=S8 [40])(hz:bd z=Z7 zJ)(hty:tyB tk ts=true)(hA:A.map bd=B3q tk ts)(hy:bd y=S8 [41])(h:∀k,aL (T9 e (nW e k) (I++z::(A++y::Z))) t0 (z::(A++y::Z)))(ht:∀a y,Ty y t0->Ty (gG a tk ts y) t)(k:Nat):aL (G3 e (nW e k) (o::x::(I++z::(A++y::Z)))) t Z:=by
 obtain⟨h1,h2,-⟩:=P7 ho;rw[eK ((F2 h1 h2).trans rfl)];unfold gF;rw[(F2 h1 h2).trans (show((1:Int)==3&&D1 [[40]] aU)=false from rfl),cond_false,(F2 h1 h2).trans (show((1:Int)==1&&D1 [aU] aU)=true from rfl),cond_true];unfold A5q;refine nM hx (fun k=>?_) k;refine aL.bind (t:=t) (Z:=y::Z) ((h k).bind fun y' hy'=>?_) fun y' hy'=>?_
 ·rw[E5v hz];show aL ((U7 e (A++y::Z)).bind _) t (y::Z);rw[C4x hty hA];exact .ok (ht _ _ hy')
 ·rw[lX hy];exact .ok hy'
theorem E1c {o:TR}{t0:TX}(ho:bd o=Z7 G4)(h:∀k,aL (bS e (nW e k) I) t0 Z)(ht:∀a y,Ty y t0->Ty (wW a G4 y) t):∀k,aL (bS e (nW e k) (o::I)) t Z
 |0=>by
  obtain⟨h1,h2,-⟩:=P7 ho;unfold bS;rw[(F2 h1 h2).trans (show((1:Int)==1&&D1 [G4] G4)=true from rfl)];exact .bad
 |k+1=>by
  obtain⟨h1,h2,-⟩:=P7 ho;unfold bS;rw[(F2 h1 h2).trans (show((1:Int)==1&&D1 [G4] G4)=true from rfl)];exact aL.bind (t:=t0) (Z:=Z) (h k) fun y hy=>.ok (ht _ _ hy)
theorem D8x {o:TR}{t0:TX}(ho:bd o=S8 [45])(h:∀k,aL (G3 e (nW e k) I) t0 Z)(ht:∀a y,Ty y t0->Ty (wW a [45] y) t):∀k,aL (G3 e (nW e k) (o::I)) t Z
 |0=>by
  obtain⟨h1,h2,-⟩:=P7 ho;unfold G3;rw[(F2 h1 h2).trans (show((3:Int)==3&&D1 [[45]] [45])=true from rfl)];exact .bad
 |k+1=>by
  obtain⟨h1,h2,-⟩:=P7 ho;unfold G3;rw[(F2 h1 h2).trans (show((3:Int)==3&&D1 [[45]] [45])=true from rfl)];exact aL.bind (t:=t0) (Z:=Z) (h k) fun y hy=>.ok (ht _ _ hy)
theorem D78 {i u:TR}{t0:TX}(hi:bd i=Z7 wX)(hu:bd u=Z7 O7){B:List TR}{nt:Bool}(hB:B.map bd=bif nt then [Z7 G4]else [])(h:aL (tW e low T) t0 (i::(B++u::Z)))(ht:∀a y,Ty y t0->Ty (fS a nt y) t):aL (nR e low T) t Z:=by
 obtain⟨h1,h2,-⟩:=P7 hi;obtain⟨u1,u2,-⟩:=P7 hu;unfold nR;refine h.bind fun y hy=>?_;unfold fR
 have hw:O9 e 1 O7 (u::Z)=.ok () Z:=by
  unfold O9;rw[(F2 u1 u2).trans (show((1:Int)==1&&D1 [O7] O7)=true from rfl)];rfl
 rw[(F2 h1 h2).trans (show((1:Int)==3&&D1 bN wX)=false from rfl),cond_false,(F2 h1 h2).trans (show((1:Int)==1&&D1 [wX] wX)=true from rfl),cond_true,List.tail_cons]
 cases nt with
 |false =>
  obtain rfl:=Bx.1 (show B.map bd=[]from hB);rw[List.nil_append,(F2 u1 u2).trans (show((1:Int)==1&&D1 [G4] O7)=false from rfl),cond_false,hw];exact .ok (ht _ _ hy)
 |true =>
  obtain⟨b,B,rfl,e1,hB⟩:=Ao.1 (show B.map bd=[Z7 G4]from hB);obtain rfl:=Bx.1 hB;obtain⟨b1,b2,-⟩:=P7 e1;show aL ((O9 e 1 O7 (bif A8 1 [G4] (b::u::Z)then(b::u::Z).tail else b::u::Z)).bind _) t Z;rw[(F2 b1 b2).trans (show((1:Int)==1&&D1 [G4] G4)=true from rfl),cond_true,List.tail_cons,hw];show aL (.ok (fS _ (A8 1 [G4] (b::u::Z)) y) Z) t Z;rw[(F2 b1 b2).trans (show((1:Int)==1&&D1 [G4] G4)=true from rfl)];exact .ok (ht _ _ hy)
end
def D7k (f:List UInt8->Option (Int ⊕ XR)):D5:=⟨fun xs k=>match xs with|[.str s]=>prK (f s) (fun a=>k (.tuple [.agg XR.zero.cells,.int .i64 a,.bool false])) fun x=>k (.tuple [.agg x.cells,.int .i64 0,.bool true])|_=>none,false⟩
theorem D3y (f:List UInt8->Option (Int ⊕ XR)):(D7k f).nat:=by
 intro R xs k;simp only[D7k];split
 ·simp only[B53,Aa]
 ·rfl
theorem F0o:D8 F6 Ws 10 (D7k feD):=O3 F4s (D3y _) rfl fun xs r h=>by
 simp only[D7k]at h;split at h
 ·rename_i s;unfold prK feD at h;rw[Aa]at h;refine Eq.trans (b:=some (pyV (C0l (gI s)))) rfl ?_
  cases hv:gI s with
  |inl a=>rw[hv]at h;exact h
  |inr x=>rw[hv]at h;exact h
 ·cases h
noncomputable def E9y (fs:XR->Int->Option Int)(ft fr:XR->Option (List UInt8))(fi:XR->Int->Option Bool)(fe fy:List UInt8->Option (Int ⊕ XR))(fz:XR->XR->Bool->Option Bool):List (FuncId×D5) :=
 [(14,A13),(17,A57 fs),(18,tXS ft),(19,tXS fr),(20,C6d fi),(9,D1l fe),(10,D7k fy),(11,A5c fz)]
theorem E4z (fs:XR->Int->Option Int)(ft fr:XR->Option (List UInt8))(fi:XR->Int->Option Bool)(fe fy:List UInt8->Option (Int ⊕ XR))(fz:XR->XR->Bool->Option Bool)(fu:Nat)(e:XR) :
 C6 (en (E9y fs ft fr fi fe fy fz)) I4 fu false Tryz.f7 [.agg e.cells]=
  (fs e 70).bind fun n=>bif decide ((3000:Int)<n)then some (.bool true)else(ft e).bind fun t=>(fr e).bind fun u=>bif t !=u then some (.bool false)else bif t==[]then(fi e 0).bind fun b=>some (.bool (!b))else
   prK (fe t) (fun _=>prK (fy t) (fun _=>some (.bool true)) (fun _=>some (.bool false))) (fun x=>prK (fy t) (fun _=>some (.bool false)) (fun _=>(fz x e false).bind fun s=>some (.bool s))):=by kernel_rfl
theorem C0p {a n c:Int}{s:List UInt8}{x:TR}{Z:List TR}(hx:bd x=A9d a n c s)(h:kY a n c s=true) :
  oN (x::Z)=some ⟨a,n,c,s,true⟩/\(∀ws,A8 3 ws (x::Z)=false)/\A8 1 [aU] (x::Z)=false/\A8 1 J1 (x::Z)=false/\A8 1 [G4] (x::Z)=false:=by
 have hr:=hC h;obtain⟨k,p,w,vk,vn,vc,vs⟩:=x
 have fin:∀(k':Int) (w':List UInt8) (vk' vn' vc':Int) (vs':List UInt8),A9d a n c s=⟨k',0,w',vk',vn',vc',vs'⟩->k=k'/\w=w'/\vk=vk'/\vn=vn'/\vc=vc'/\vs=vs':=fun k' w' vk' vn' vc' vs' he=>by
  rw[he]at hx;injection hx with q1 q2 q3 q4 q5 q6 q7;exact⟨q1,q3,q4,q5,q6,q7⟩
 by_cases h1:a=1
 ·subst h1
  have:(n=0\/n=1)/\c=0/\s=[]:=by simpa [G9]using hr
  obtain⟨hn,rfl,rfl⟩:=this;rcases hn with rfl|rfl
  ·obtain⟨rfl,rfl,rfl,rfl,rfl,rfl⟩:=fin 1 kW 0 0 0 [] rfl;exact⟨rfl,fun _=>rfl,rfl,rfl,rfl⟩
  ·obtain⟨rfl,rfl,rfl,rfl,rfl,rfl⟩:=fin 1 sA 0 0 0 [] rfl;exact⟨rfl,fun _=>rfl,rfl,rfl,rfl⟩
 by_cases h2:a=2
 ·subst h2
  have:c=0/\s=[]:=by simpa [G9]using hr
  obtain⟨rfl,rfl⟩:=this;obtain⟨rfl,rfl,rfl,rfl,rfl,rfl⟩:=fin 2 [] 2 n 0 [] rfl;exact⟨rfl,fun _=>rfl,rfl,rfl,rfl⟩
 by_cases h3:a=3
 ·subst h3
  have:s=[]/\zY c=true:=by simpa [G9]using hr
  obtain⟨rfl,hc⟩:=this;have h0:=yH h;obtain⟨m,rfl⟩:∃m:Nat,c=m:=⟨c.toNat,by omega⟩
  have e:A9d 3 n (m:Int) []=⟨2,0,[],3,n,m,[]⟩:=by
   show jI (n,(m:Int).toNat)=_;unfold jI;rw[Int.toNat_natCast,decide_eq_true (by show 0<m;omega)];rfl
  obtain⟨rfl,rfl,rfl,rfl,rfl,rfl⟩:=fin _ _ _ _ _ _ e;exact⟨rfl,fun _=>rfl,rfl,rfl,rfl⟩
 by_cases h4:a=4
 ·subst h4
  have:n=0/\c=0/\s.length<=200/\Lib.validD s=true:=by simpa [G9]using hr
  obtain⟨rfl,rfl,-⟩:=this;obtain⟨rfl,rfl,rfl,rfl,rfl,rfl⟩:=fin 2 [] 4 0 0 s rfl;exact⟨rfl,fun _=>rfl,rfl,rfl,rfl⟩
 by_cases h5:a=5
 ·subst h5
  have:n=0/\c=0/\s.length<=200:=by simpa [G9]using hr
  obtain⟨rfl,rfl,-⟩:=this;obtain⟨rfl,rfl,rfl,rfl,rfl,rfl⟩:=fin 2 [] 5 0 0 s rfl;exact⟨rfl,fun _=>rfl,rfl,rfl,rfl⟩
 have h0:a=0:=by
  by_cases h0:a=0
  ·exact h0
  ·exfalso;unfold G9 at hr;rw[beq_eq_false_iff_ne.2 h0,beq_eq_false_iff_ne.2 h1,beq_eq_false_iff_ne.2 h2,beq_eq_false_iff_ne.2 h3,beq_eq_false_iff_ne.2 h4,beq_eq_false_iff_ne.2 h5]at hr
   cases hr
 subst h0
 have:n=0/\c=0/\s=[]:=by simpa [G9]using hr
 obtain⟨rfl,rfl,rfl⟩:=this;obtain⟨rfl,rfl,rfl,rfl,rfl,rfl⟩:=fin 1 O7 0 0 0 [] rfl;exact⟨rfl,fun _=>rfl,rfl,rfl,rfl⟩
theorem A2c {w:List UInt8}(h:M9 w=true):w.length<=1000000:=by
 unfold M9 at h;simp only[Ae,decide_eq_true_eq]at h;omega
theorem C36:∀(n:Nat) (t:TX),S3 n t=true->inG n t=true->(∀(e:Int) (k:Nat) (T Z:List TR),T.map bd=J5 n t->A8 3 [[46]] Z=false->aL (G3 e (nW e k) (T++Z)) t Z)/\∀(T Z:List TR),T.map bd=J5 n t->A8 1 [G4] (T++Z)=false/\A8 3 [[42]] (T++Z)=false
 |0,t,h,_=>by cases h
 |n+1,.mk k op vk vn vc vs tb nm nt tk ts ks,hr,hi=>by
  obtain⟨ho,hall⟩:=Bc.1 hr;obtain⟨ho,hkid⟩:=Bc.1 ho;obtain⟨hvn,hin⟩:=Bc.1 (show(mG vn&&ks.all (inG n))=true from hi);obtain⟨k3,k1,k5,k0⟩:=qZ hkid;obtain⟨o1,o2,o3,o5⟩:=D08 ho;obtain⟨z0,z1,z4,z6,zo⟩:=D8e ho;dsimp only at o1 o2 o3 o5 k3 k1 k5 k0 z0 z1 z4 z6 zo;have kid:∀t∈ks,(∀(e:Int) (k:Nat) (T Z:List TR),T.map bd=J5 n t->A8 3 [[46]] Z=false->aL (G3 e (nW e k) (T++Z)) t Z)/\∀(T Z:List TR),T.map bd=J5 n t->A8 1 [G4] (T++Z)=false/\A8 3 [[42]] (T++Z)=false:=fun t ht=>C36 n t (Bg.1 hall t ht) (Bg.1 hin t ht)
  have open_:∀{x:TR} {R:List TR},bd x=S8 [40]->A8 1 [G4] (x::R)=false/\A8 3 [[42]] (x::R)=false:=fun {x R} hx=>by
   obtain⟨h1,h2,-⟩:=P7 hx;exact⟨(F2 h1 h2).trans rfl,(F2 h1 h2).trans rfl⟩
  have keyw:∀{x:TR} {R:List TR} {w:List UInt8},bd x=Z7 w->D1 [G4] w=false->A8 1 [G4] (x::R)=false/\A8 3 [[42]] (x::R)=false:=fun {x R w} hx hw=>by
   obtain⟨h1,h2,-⟩:=P7 hx;exact⟨(F2 h1 h2).trans (show((1:Int)==1&&D1 [G4] w)=false by rw[hw];rfl),(F2 h1 h2).trans rfl⟩
  rcases pE ho with⟨hk,hlit⟩|hk|hk|hk|hk|hk|⟨hk,hty⟩<;>dsimp only at hk<;>subst hk
  ·obtain⟨rfl,rfl⟩:=z1 (by decide);obtain rfl:=z4 (by decide);obtain⟨rfl,rfl⟩:=z6 (by decide);obtain rfl:=zo (.inl rfl);obtain rfl:=Cg.1 (k0 (.inl rfl));have hs:vs.length<=200:=yG (hC hlit);constructor
   ·intro e k T Z hT hZ;obtain⟨x,T,rfl,hx,hT⟩:=Ao.1 (show T.map bd=[A9d vk vn vc vs]from hT);obtain rfl:=Bx.1 hT;obtain⟨h1,h2,h3,h4,-⟩:=C0p (Z:=Z) hx hlit;show aL (G3 e (nW e k) (x::Z)) _ Z;rw[eK (h2 _),D64 (h2 _) h3 h4 h1];exact .ok (Ty.lit (by show vs.length<=_;omega))
   ·intro T Z hT;obtain⟨x,T,rfl,hx,hT⟩:=Ao.1 (show T.map bd=[A9d vk vn vc vs]from hT);obtain⟨h1,h2,h3,h4,h5⟩:=C0p (Z:=T++Z) hx hlit;exact⟨h5,h2 _⟩
  ·obtain⟨hnm,htb⟩:=o1 rfl;obtain⟨rfl,rfl,rfl,rfl⟩:=z0 (by decide);obtain rfl:=z4 (by decide);obtain⟨rfl,rfl⟩:=z6 (by decide);obtain rfl:=zo (.inr (.inl rfl));obtain rfl:=Cg.1 (k0 (.inr rfl))
   have nm0:∀{x:TR} {R:List TR} {w:List UInt8},bd x=nmT w->(∀ws,A8 1 ws (x::R)=false)/\(∀ws,A8 3 ws (x::R)=false)/\oN (x::R)=none/\∀e,iF e (x::R)=.ok w R:=fun {x R w} hx=>by
    obtain⟨h1,h2,-⟩:=P7 hx;obtain⟨k,p,w',vk,vn,vc,vs⟩:=x;dsimp only[nmT]at h1 h2;subst h1 h2;exact⟨fun _=>rfl,fun _=>rfl,rfl,fun _=>rfl⟩
   rcases tb with _|⟨c,tb⟩
   ·constructor
    ·intro e k T Z hT hZ;obtain⟨x,T,rfl,hx,hT⟩:=Ao.1 (show T.map bd=[nmT nm]from hT);obtain rfl:=Bx.1 hT;obtain⟨h1,h3,h4,h5⟩:=nm0 (R:=Z) hx;show aL (G3 e (nW e k) (x::Z)) _ Z;rw[eK (h3 _),A67 (h3 _) (h1 _) (h1 _) h4,h5];show aL (bif A8 3 [[46]] Z then _ else _) _ Z;rw[hZ];exact .ok (Ty.col (by simp) (A2c hnm))
    ·intro T Z hT;obtain⟨x,T,rfl,hx,hT⟩:=Ao.1 (show T.map bd=[nmT nm]from hT);obtain⟨h1,h3,-⟩:=nm0 (R:=T++Z) hx;exact⟨h1 _,h3 _⟩
   ·have htb:M9 (c::tb)=true:=htb.elim (fun h=>by cases h) id;constructor
    ·intro e k T Z hT hZ;obtain⟨x,T,rfl,hx,hT⟩:=Ao.1 (show T.map bd=[nmT (c::tb),S8 [46],nmT nm]from hT);obtain⟨y,T,rfl,hy,hT⟩:=Ao.1 hT;obtain⟨z,T,rfl,hz,hT⟩:=Ao.1 hT;obtain rfl:=Bx.1 hT;obtain⟨h1,h3,h4,h5⟩:=nm0 (R:=y::z::Z) hx;obtain⟨g1,g3,g4,g5⟩:=nm0 (R:=Z) hz;obtain⟨y1,y2,-⟩:=P7 hy;show aL (G3 e (nW e k) (x::y::z::Z)) _ Z;rw[eK (h3 _),A67 (h3 _) (h1 _) (h1 _) h4,h5];show aL (bif A8 3 [[46]] (y::z::Z)then(iF e (z::Z)).bind _ else _) _ Z;rw[(F2 y1 y2).trans (show((3:Int)==3&&D1 [[46]] [46])=true from rfl),cond_true,g5];exact .ok (Ty.col (A2c htb) (A2c hnm))
    ·intro T Z hT;obtain⟨x,T,rfl,hx,hT⟩:=Ao.1 (show T.map bd=[nmT (c::tb),S8 [46],nmT nm]from hT);obtain⟨h1,h3,-⟩:=nm0 (R:=T++Z) hx;exact⟨h1 _,h3 _⟩
  ·obtain⟨rfl,rfl,rfl,rfl⟩:=z0 (by decide);obtain⟨rfl,rfl⟩:=z1 (by decide);obtain rfl:=z4 (by decide);obtain⟨rfl,rfl⟩:=z6 (by decide);obtain⟨t0,rfl⟩:=gN (k1 (.inl rfl));obtain⟨F,H⟩:=kid t0 (An ..)
   have e2:J5 (n+1) (.mk 2 op 0 0 0 [] [] [] false 0 0 [t0])=S8 [40]::(opT op::(J5 n t0++[S8 [41]])):=by
    show []++[S8 [40]]++(opT op::J5 n t0)++[S8 [41]]=_;simp
   rw[e2];constructor
   ·intro e k T Z hT hZ;obtain⟨x,T,rfl,hx,hT⟩:=Ao.1 hT;obtain⟨o,T,rfl,ho',hT⟩:=Ao.1 hT;obtain⟨T0,T,rfl,h0,hT⟩:=Dj.1 hT;obtain⟨y,T,rfl,hy,hT⟩:=Ao.1 hT;obtain rfl:=Bx.1 hT
    have e1:(x::o::(T0++[y]))++Z=x::((o::T0)++y::Z):=by simp
    rw[e1];have hst:Stop (y::Z):=rC hy;refine B07 hx hy (fun k=>?_) k;rcases o2 rfl with rfl|rfl
    ·exact up6 (up5 (E1c (I:=T0++y::Z) ho' (fun k=>A8k (F e k T0 _ h0 hst.sd) hst (H T0 _ h0).1) (fun _ _ hy=>hy.un) k) hst.s1) hst.s0
    ·exact A10 (D8x (I:=T0++y::Z) ho' (fun k=>F e k T0 _ h0 hst.sd) (fun _ _ hy=>hy.un) k) hst ((F2 (P7 ho').1 (P7 ho').2.1).trans rfl)
   ·intro T Z hT;obtain⟨x,T,rfl,hx,hT⟩:=Ao.1 hT;exact open_ hx
  ·obtain⟨rfl,rfl,rfl,rfl⟩:=z0 (by decide);obtain⟨rfl,rfl⟩:=z1 (by decide);obtain rfl:=z4 (by decide);obtain⟨rfl,rfl⟩:=z6 (by decide);obtain⟨t0,t1,rfl⟩:=C46 (k3 rfl);obtain⟨F,H⟩:=kid t0 (An ..);obtain⟨F1,H1⟩:=kid t1 (Ap _ (An ..))
   have e2:J5 (n+1) (.mk 3 op 0 0 0 [] [] [] false 0 0 [t0,t1])=S8 [40]::(J5 n t0++(opT op::(J5 n t1++[S8 [41]]))):=by
    show []++[S8 [40]]++(J5 n t0++(opT op::J5 n t1))++[S8 [41]]=_;simp
   rw[e2];constructor
   ·intro e k T Z hT hZ;obtain⟨x,T,rfl,hx,hT⟩:=Ao.1 hT;obtain⟨T0,T,rfl,h0,hT⟩:=Dj.1 hT;obtain⟨o,T,rfl,ho',hT⟩:=Ao.1 hT;obtain⟨T1,T,rfl,h1,hT⟩:=Dj.1 hT;obtain⟨y,T,rfl,hy,hT⟩:=Ao.1 hT;obtain rfl:=Bx.1 hT
    have e1:(x::(T0++o::(T1++[y])))++Z=x::((T0++o::T1)++y::Z):=by simp
    rw[e1];refine B07 hx hy (fun k=>?_) k
    have e3:(T0++o::T1)++y::Z=T0++o::(T1++y::Z):=by simp
    rw[e3];exact E5m (o3 rfl) ho' (rC hy) (fun Z' hZ'=>F e k T0 Z' h0 hZ') (fun Z' hZ'=>F1 e k T1 Z' h1 hZ') (fun Z'=>(H T0 Z' h0).1) (fun Z'=>(H1 T1 Z' h1).1) fun _ _ _ h1 h2=>h1.bin h2
   ·intro T Z hT;obtain⟨x,T,rfl,hx,hT⟩:=Ao.1 hT;exact open_ hx
  ·obtain⟨rfl,rfl,rfl,rfl⟩:=z0 (by decide);obtain⟨rfl,rfl⟩:=z1 (by decide);obtain⟨rfl,rfl⟩:=z6 (by decide);obtain rfl:=zo (.inr (.inr (.inl rfl)));obtain⟨t0,rfl⟩:=gN (k1 (.inr (.inl rfl)));obtain⟨F,H⟩:=kid t0 (An ..)
   have e2:J5 (n+1) (.mk 4 [] 0 0 0 [] [] [] nt 0 0 [t0])=S8 [40]::(J5 n t0++(Z7 wX::((bif nt then [Z7 G4]else [])++(Z7 O7::[S8 [41]])))):=by
    show []++[S8 [40]]++(J5 n t0++(Z7 wX::((bif nt then [Z7 G4]else [])++[Z7 O7])))++[S8 [41]]=_;simp
   rw[e2];constructor
   ·intro e k T Z hT hZ;obtain⟨x,T,rfl,hx,hT⟩:=Ao.1 hT;obtain⟨T0,T,rfl,h0,hT⟩:=Dj.1 hT;obtain⟨i,T,rfl,hi',hT⟩:=Ao.1 hT;obtain⟨B,T,rfl,hB,hT⟩:=Dj.1 hT;obtain⟨u,T,rfl,hu,hT⟩:=Ao.1 hT;obtain⟨y,T,rfl,hy,hT⟩:=Ao.1 hT;obtain rfl:=Bx.1 hT
    have e1:(x::(T0++i::(B++[u,y])))++Z=x::((T0++i::(B++[u]))++y::Z):=by simp
    rw[e1];have hst:Stop (y::Z):=rC hy;refine B07 hx hy (fun k=>?_) k
    have e3:(T0++i::(B++[u]))++y::Z=T0++i::(B++u::(y::Z)):=by simp
    rw[e3];have q:=fun(a:Int) (ws:List (List UInt8))=>F2 (a:=a) (ws:=ws) (R:=B++u::(y::Z)) (P7 hi').1 (P7 hi').2.1;exact up6 (up5 (up4 (D78 hi' hu hB (up2 (up1 (F e k T0 _ h0 ((q _ _).trans rfl)) ((q _ _).trans rfl)) ((q _ _).trans rfl)) fun _ _ hy=>hy.null) (H T0 _ h0).1) hst.s1) hst.s0
   ·intro T Z hT;obtain⟨x,T,rfl,hx,hT⟩:=Ao.1 hT;exact open_ hx
  ·obtain⟨rfl,rfl,rfl,rfl⟩:=z0 (by decide);obtain⟨rfl,rfl⟩:=z1 (by decide);obtain rfl:=z4 (by decide);obtain⟨rfl,rfl⟩:=z6 (by decide);have hcall:=o5 rfl
   have hnot:D1 [G4] op=false:=by
    have hw:op∈J1:=by
     unfold D1 at hcall;rw[Dp]at hcall;obtain⟨x,hx,e⟩:=hcall;rw[eq_of_beq e];exact hx
    simp only[J1,Be,Cz,or_false]at hw;rcases hw with rfl|rfl|rfl|rfl<;>decide
   rcases k5 rfl with h1|h1
   ·obtain⟨t0,rfl⟩:=gN h1;obtain⟨F,H⟩:=kid t0 (An ..)
    have e2:J5 (n+1) (.mk 5 op 0 0 0 [] [] [] false 0 0 [t0])=Z7 op::S8 [40]::(J5 n t0++[S8 [41]]):=by
     show [Z7 op]++[S8 [40]]++J5 n t0++[S8 [41]]=_;simp
    rw[e2];constructor
    ·intro e k T Z hT hZ;obtain⟨o,T,rfl,ho',hT⟩:=Ao.1 hT;obtain⟨x,T,rfl,hx,hT⟩:=Ao.1 hT;obtain⟨T0,T,rfl,h0,hT⟩:=Dj.1 hT;obtain⟨y,T,rfl,hy,hT⟩:=Ao.1 hT;obtain rfl:=Bx.1 hT
     have e1:(o::x::(T0++[y]))++Z=o::x::(T0++y::Z):=by simp
     rw[e1];have hst:Stop (y::Z):=rC hy;exact D19 ho' hcall hx hy (fun k=>A10 (F e k T0 _ h0 hst.sd) hst (H T0 _ h0).1) (H T0 _ h0).2 (fun _ _ hy=>hy.call) k
    ·intro T Z hT;obtain⟨x,T,rfl,hx,hT⟩:=Ao.1 hT;exact keyw hx hnot
   ·obtain rfl:=Cg.1 h1
    have hop:op=L0:=by
     have:A2m 5 op 0=true:=hkid;simpa [A2m]using this
    subst hop;have e2:J5 (n+1) (.mk 5 L0 0 0 0 [] [] [] false 0 0 [])=[Z7 L0,S8 [40],S8 [42],S8 [41]]:=rfl;rw[e2];constructor
    ·intro e k T Z hT hZ;obtain⟨o,T,rfl,ho',hT⟩:=Ao.1 hT;obtain⟨x,T,rfl,hx,hT⟩:=Ao.1 hT;obtain⟨s,T,rfl,hs,hT⟩:=Ao.1 hT;obtain⟨y,T,rfl,hy,hT⟩:=Ao.1 hT;obtain rfl:=Bx.1 hT;exact C5g ho' hx hs hy (fun _=>Ty.call0) k
    ·intro T Z hT;obtain⟨x,T,rfl,hx,hT⟩:=Ao.1 hT;exact keyw hx (by decide)
  ·obtain⟨rfl,rfl,rfl,rfl⟩:=z0 (by decide);obtain⟨rfl,rfl⟩:=z1 (by decide);obtain rfl:=z4 (by decide);obtain rfl:=zo (.inr (.inr (.inr rfl)));obtain⟨t0,rfl⟩:=gN (k1 (.inr (.inr rfl)));obtain⟨F,H⟩:=kid t0 (An ..)
   have e2:J5 (n+1) (.mk 6 [] 0 0 0 [] [] [] false tk ts [t0])=Z7 aU::S8 [40]::(J5 n t0++(Z7 zJ::(B3q tk ts++[S8 [41]]))):=by
    show [Z7 aU]++[S8 [40]]++(J5 n t0++(Z7 zJ::B3q tk ts))++[S8 [41]]=_;simp
   rw[e2];constructor
   ·intro e k T Z hT hZ;obtain⟨o,T,rfl,ho',hT⟩:=Ao.1 hT;obtain⟨x,T,rfl,hx,hT⟩:=Ao.1 hT;obtain⟨T0,T,rfl,h0,hT⟩:=Dj.1 hT;obtain⟨z,T,rfl,hz,hT⟩:=Ao.1 hT;obtain⟨A,T,rfl,hA,hT⟩:=Dj.1 hT;obtain⟨y,T,rfl,hy,hT⟩:=Ao.1 hT;obtain rfl:=Bx.1 hT
    have e1:(o::x::(T0++z::(A++[y])))++Z=o::x::(T0++z::(A++y::Z)):=by simp
    rw[e1];have hst:Stop (z::(A++y::Z)):=E49 hz;exact D6p ho' hx hz hty hA hy (fun k=>A10 (F e k T0 _ h0 hst.sd) hst (H T0 _ h0).1) (fun _ _ hy=>hy.cast) k
   ·intro T Z hT;obtain⟨x,T,rfl,hx,hT⟩:=Ao.1 hT;exact keyw hx (by decide)
theorem F1f {y:XR}{t u:TX}{D D':Nat}(h:er D y=some t)(k:er D' y=some u):t=u:=by
 have h1:=A66 (Nat.le_max_left D D') h;have h2:=A66 (Nat.le_max_right D D') k;rw[h1]at h2;injection h2
theorem B7f {t:TX}(hr:S3 60 t=true)(hi:inG 60 t=true){x:XR}(h:gI (D3 60 t)=.inr x):er 6000 x=some t:=by
 obtain⟨T,hT,hx⟩:=C3t h;obtain⟨hl,-⟩:=A44 60 t hr hi;obtain⟨A,hA,e⟩:=hl 0 [] (fun c hc=>by cases hc);rw[Bf,E30 hT]at e
 have hTA:T=A:=by
  have:(Sum.inr T:Nat ⊕ List TR)=Sum.inr (A++[]):=e;injection this with this;rw[Bf]at this;exact this
 subst hTA;obtain⟨F,H⟩:=C36 60 t hr hi;have hf:=A10 (F ((D3 60 t).length:Int) 20 T [] hA rfl) D4j (H T [] hA).1;rw[Bf,hx]at hf;rcases hf with⟨a,ha⟩|⟨y,hy,D,hD⟩
 ·cases ha
 ·injection hy with hy;subst hy;obtain⟨-,u,hu⟩:=C4u h;rw[hu,F1f hD hu]
def okX:Nat->XR->Prop
 |0,_=>True
 |d+1,e=>mG e.vn=true/\mG e.ts=true/\∃l,bE 13 xrG e.kn e.kc=some l/\∀x∈l,okX d x
theorem C1y {f:XR->Option Int}:∀(l:List XR) (n:Int),(∀x∈l,∃m,f x=some m)->∃r,szG f n l=some r
 |[],n,_=>⟨n,rfl⟩
 |x::l,n,h=>by
  rw[szG]
  by_cases h3:3000<n
  ·rw[A4 (decide_eq_true h3)];exact⟨_,rfl⟩
  ·obtain⟨m,hm⟩:=h x (An ..);rw[B1 (decide_eq_false h3),hm,Aa];exact C1y l (n+m) fun y hy=>h y (Ap _ hy)
theorem C25:∀(d:Nat) (e:XR),okX d e->∃n,szS d e=some n
 |0,e,_=>⟨_,rfl⟩
 |d+1,e,h=>by
  obtain⟨-,-,l,hl,hx⟩:=h;rw[szS]
  cases B00 e with
  |true=>exact⟨_,rfl⟩
  |false =>
   rw[cond_false,hl,Aa];exact C1y l _ fun x hx'=>C25 d x (hx x hx')
def zZ:List Int->Int
 |[]=>0
 |m::l=>m+zZ l
theorem C10 {f:XR->Option Int}(hf:∀x m,f x=some m->0<=m):∀(l:List XR) (n r:Int),szG f n l=some r->r<=3000->∃ms:List Int,F7 f l=some ms/\r=n+zZ ms
 |[],n,r,h,_=>by
  injection h with h;exact⟨[],rfl,by rw[<-h];simp[zZ]⟩
 |x::l,n,r,h,hr=>by
  rw[szG]at h
  by_cases h3:3000<n
  ·rw[A4 (decide_eq_true h3)]at h;injection h with h;omega
  ·rw[B1 (decide_eq_false h3)]at h;obtain⟨m,hm,h⟩:=Ab.1 h;obtain⟨ms,h1,h2⟩:=C10 hf l (n+m) r h hr;refine⟨m::ms,by rw[K7,hm,Aa,h1,Aa],?_⟩;rw[zZ];omega
theorem B7q {n c:Int}(hn:mG n=true):(tG n c).length<=60:=(C4k hn).2
theorem D4y {a n c:Int}{s:List UInt8}(hn:mG n=true)(hs:s.length<=3000):(vI a n c s).length<=10000:=by
 have h1:=B7q (c:=0) hn;have h2:=B7q (c:=c) hn;have h3:=nK s;have h4:=jX s;unfold vI
 cases a==1 with
 |true=>cases n==1<;>simp
 |false =>
  cases a==2 with
  |true=>simp only[cond_true,cond_false];omega
  |false =>
   cases a==3 with
   |true=>simp only[cond_true,cond_false];omega
   |false =>
    cases a==4 with
    |true=>simp only[cond_true,cond_false,qL];omega
    |false =>
     cases a==5 with
     |true=>simp only[cond_true,cond_false,Ac,qL];omega
     |false=>simp
theorem E34 {k s:Int}(hs:mG s=true):(tyN k s).length<=100:=by
 have h1:=B7q (c:=0) hs;unfold tyN
 cases k==3 with
 |true=>simp only[cond_true,Af,Ac,Ai];omega
 |false =>
  cases k==1 with
  |true=>simp
  |false =>
   cases k==2 with
   |true=>simp
   |false=>cases k==4<;>simp
theorem D25 {k:Int}{op:List UInt8}{nt:Bool}{tk ts:Int}{ks:List (List UInt8)}{S:Int}(hs:mG ts=true)(ho:op.length<=3000)(h1:∀a l,ks=a::l->(a.length:Int)<=S)(h2:∀a b l,ks=a::b::l->(a.length:Int)+b.length<=S)(h0:0<=S):((B79 k op nt tk ts ks).length:Int)<=S+4000:=by
 have h5:=E34 (k:=tk) hs
 match ks with
 |[]=>simp[B79];omega
 |[a]=>
  have ha:=h1 a [] rfl;unfold B79
  cases k==2 with
  |true=>simp only[cond_true,Af,Ac,Ai];omega
  |false =>
   cases k==4 with
   |true=>cases nt<;>simp only[cond_true,cond_false,Af,Ac,Ai]<;>omega
   |false =>
    cases k==5 with
    |true=>simp only[cond_true,cond_false];omega
    |false=>simp only[cond_true,cond_false,Af,Ac,Ai];omega
 |a::b::l =>
  have hb:=h2 a b l rfl;unfold B79;simp only[Af,Ac,Ai];omega
theorem A7n {ms:List Int}(h:∀m∈ms,0<=m):0<=zZ ms:=by
 induction ms with
 |nil=>exact Int.le_refl _
 |cons m ms ih =>
  rw[zZ];have:=h m (An ..);have:=ih fun x hx=>h x (Ap _ hx);omega
theorem C0i {ms:List Int}(h:∀m∈ms,0<=m){m:Int}(hm:m∈ms):m<=zZ ms:=by
 induction ms with
 |nil=>cases hm
 |cons a ms ih =>
  rw[zZ];have h0:=h a (An ..);have h1:=A7n fun x hx=>h x (Ap a hx);rcases Be.1 hm with rfl|hm
  ·omega
  ·have:=ih (fun x hx=>h x (Ap a hx)) hm;omega
theorem B2q {α β:Type}{f:α->Option β}:∀{l:List α},(∀x∈l,∃y,f x=some y)->∃r,F7 f l=some r
 |[],_=>⟨[],rfl⟩
 |x::l,h=>by
  obtain⟨y,hy⟩:=h x (An ..);obtain⟨r,hr⟩:=B2q fun z hz=>h z (Ap _ hz);exact⟨y::r,by rw[K7,hy,Aa,hr,Aa]⟩
theorem E7p :∀(d:Nat) (e:XR) (n:Int),okX d e->szS d e=some n->n<=3000->∃t,er d e=some t/\inG d t=true/\1<=n/\∀m,((D3 m t).length:Int)<=20000 * n
 |0,e,n,_,h,hn=>by
  injection h with h;omega
 |d+1,e,n,E4,h,hn=>by
  obtain⟨hvn,hts,l,hl,hx⟩:=E4;rw[szS]at h
  cases hb:B00 e with
  |true =>
   rw[hb]at h;injection h with h;omega
  |false =>
   rw[hb,cond_false,hl,Aa]at h;obtain⟨b1,b2,b3,b4,b5⟩:=A91 hb;obtain⟨ms,hms,hsum⟩:=C10 (fun x m hxm=>(rJ d x m hxm).1) l (szN e) n h hn
   have hpos:∀m∈ms,0<=m:=fun m hm=>by
    obtain⟨i,hi⟩:=Cm hm
    have hil:i<l.length:=by
     have:=(Aj.1 hi).1;rw[E6 hms]at this;exact this
    obtain⟨y,h1,h2⟩:=J8 hms i _ (Ag hil);rw[h1]at hi;injection hi with hi;subst hi;exact(rJ d _ _ h2).1
   have h0:=A7n hpos
   have hn1:1<=n:=by unfold szN at hsum;omega
   have kid:∀(i:Nat) (x:XR),l[i]? =some x->∃(m:Int) (t:TX),ms[i]? =some m/\er d x=some t/\inG d t=true/\∀q,((D3 q t).length:Int)<=20000 * m:=fun i x hi=>by
    obtain⟨m,h1,h2⟩:=J8 hms i x hi;have hm:=C0i hpos (Bi h1);obtain⟨t,h3,h4,-,h6⟩:=E7p d x m (hx x (Bi hi)) h2 (by unfold szN at hsum;omega);exact⟨m,t,h1,h3,h4,h6⟩
   obtain⟨ts,hts'⟩:∃ts,F7 (er d) l=some ts:=B2q fun x hx'=>by
    obtain⟨i,hi⟩:=Cm hx';obtain⟨m,t,-,h3,-⟩:=kid i x hi;exact⟨t,h3⟩
   have hsm:sG e=true:=by
    unfold sG;simp only[Ae,decide_eq_true_eq];omega
   refine⟨.mk e.k e.op e.vk e.vn e.vc e.vs e.tb e.nm e.nt e.tk e.ts ts,?_,?_,hn1,?_⟩
   ·rw[er,hsm,cond_true,hl,Aa,hts'];rfl
   ·show(mG e.vn&&ts.all (inG d))=true;rw[hvn,Bool.true_and,Bg];intro t ht;obtain⟨i,hi⟩:=Cm ht
    have hil:i<l.length:=by
     have:=(Aj.1 hi).1;rw[E6 hts']at this;exact this
    obtain⟨m,u,-,h3,h4,-⟩:=kid i _ (Ag hil);obtain⟨u',h5,h6⟩:=J8 hts' i _ (Ag hil);rw[h3]at h6;injection h6 with h6;subst h6;rw[h5]at hi;injection hi with hi;subst hi;exact h4
   ·intro q
    cases q with
    |zero=>show((0:Nat):Int)<=_;omega
    |succ q =>
     have hkt:∀(i:Nat) (t:TX),ts[i]? =some t->∃m,ms[i]? =some m/\((D3 q t).length:Int)<=20000 * m:=fun i t hi=>by
      have hil:i<l.length:=by
       have:=(Aj.1 hi).1;rw[E6 hts']at this;exact this
      obtain⟨m,u,h1,h3,-,h4⟩:=kid i _ (Ag hil);obtain⟨u',h5,h6⟩:=J8 hts' i _ (Ag hil);rw[h3]at h6;injection h6 with h6;subst h6;rw[h5]at hi;injection hi with hi;subst hi;exact⟨m,h1,h4 q⟩
     have hin:((B79 e.k e.op e.nt e.tk e.ts (ts.map (D3 q))).length:Int)<=20000 * zZ ms+4000:=by
      refine D25 hts b2 (fun a l' he=>?_) (fun a b l' he=>?_) (by omega)
      ·obtain⟨t0,ts',rfl,rfl,-⟩:=Ao.1 he;obtain⟨m,h1,h2⟩:=hkt 0 t0 rfl;have:=C0i hpos (Bi h1);omega
      ·match ts,he,hkt with
       |t0::t1::ts',he,hkt =>
       injection he with q1 q2;injection q2 with q2 q3;subst q1 q2;obtain⟨m,h1,h2⟩:=hkt 0 t0 rfl;obtain⟨m1,h3,h4⟩:=hkt 1 t1 rfl
       match ms,h1,h3 with
       |a::b::ms',h1,h3 =>
        simp only[List.getElem?_cons_zero,List.getElem?_cons_succ,Option.some.injEq]at h1 h3;subst h1 h3;have:=A7n fun x hx=>hpos x (Ap _ (Ap _ hx));rw[zZ,zZ];omega
     show((bif e.k==0 then vI e.vk e.vn e.vc e.vs else bif e.k==1 then A01 e.tb e.nm else D8w e.k e.op++[40]++B79 e.k e.op e.nt e.tk e.ts (ts.map (D3 q))++[41]).length:Int)<=_
     have hsz:1+zZ ms<=n:=by unfold szN at hsum;omega
     cases e.k==0 with
     |true =>
      have:=D4y (a:=e.vk) (c:=e.vc) hvn b5;rw[cond_true];omega
     |false =>
      cases e.k==1 with
      |true =>
       have:(A01 e.tb e.nm).length<=7000:=by
        unfold A01
        cases e.tb==[]<;>simp only[cond_true,cond_false,Af,Ac,Ai]<;>omega
       simp only[cond_true,cond_false];omega
      |false =>
       have:(D8w e.k e.op).length<=3000:=by
        unfold D8w
        cases e.k==5 with
        |true=>exact b2
        |false=>cases e.k==6<;>simp
       simp only[cond_false,Af,Ac,Ai];omega
theorem B4p:∀{n m:Nat} {t:TX},n<=m->inG m t=true->S3 n t=true->inG n t=true
 |0,m,t,_,_,h=>by cases h
 |n+1,0,t,hm,_,_=>absurd hm (Nat.not_succ_le_zero n)
 |n+1,m+1,.mk k op vk vn vc vs tb nm nt tk ts ks,hm,h,hr=>by
  obtain⟨h1,h2⟩:=Bc.1 (show(mG vn&&ks.all (inG m))=true from h);obtain⟨-,hall⟩:=Bc.1 hr;show(mG vn&&ks.all (inG n))=true;rw[h1,Bool.true_and,Bg];exact fun t ht=>B4p (Nat.le_of_succ_le_succ hm) (Bg.1 h2 t ht) (Bg.1 hall t ht)
theorem D0p {e:XR}(E4:okX 70 e):C6 (en (E9y szD pxT rxT (fun x d=>uF 6000 x d) feD feD (vQ 6000))) I4 0 false Tryz.f7 [.agg e.cells]=some (.bool true):=by
 rw[E4z];obtain⟨n,hn⟩:=C25 70 e E4
 have h1:szD e 70=some n:=by
  unfold szD;rw[if_pos (show(70:Int)=((70:Nat):Int)from rfl),hn]
 rw[h1,Aa]
 by_cases h3:3000<n
 ·rw[A4 (decide_eq_true h3)]
 rw[B1 (decide_eq_false h3)];obtain⟨t,ht,hin,-,hlen⟩:=E7p 70 e n E4 hn (by omega);have ht6:er 6000 e=some t:=A66 (by omega) ht
 have hrg:rgX e=some (S3 60 t):=by rw[B7u ht6];unfold kS;rw[ht6]
 have hrd:uF 6000 e 0=some (S3 60 t):=hrg
 cases hr:S3 60 t with
 |false =>
  have e1:pxT e=some []:=by unfold pxT pxO;rw[hrg,hr];rfl
  have e2:rxT e=some []:=by unfold rxT pxO;dsimp only;rw[hrd,hr];rfl
  rw[e1,e2,Aa,Aa,hrd,hr];rfl
 |true =>
  have hin60:inG 60 t=true:=B4p (by omega) hin hr;have hl:=hlen 60;have hle:decide ((D3 60 t).length<=1000000000)=true:=decide_eq_true (by omega)
  have e1:pxT e=some (D3 60 t):=by
   unfold pxT pxO;rw[hrg,hr,Aa,Bool.not_true,cond_false];unfold txD;rw[ht6,Aa,hr,hin60,hle];rfl
  have e2:rxT e=some (D3 60 t):=by
   unfold rxT pxO;dsimp only;rw[hrd,hr,Aa,Bool.not_true,cond_false];unfold rtX;rw[show 60+5940=6000 from rfl,ht6,Aa,hr,hin60,hle];rfl
  have hne:=(A44 60 t hr hin60).2;rw[e1,e2,Aa,Aa,show(D3 60 t !=D3 60 t)=false by simp,cond_false,beq_eq_false_iff_ne.2 hne,cond_false];unfold feD
  cases hv:gI (D3 60 t)with
  |inl a=>rw[E6w,E6w]
  |inr x =>
   rw[E75,E75];have hx:=B7f hr hin60 hv
   have hs:vQ 6000 x e false=some true:=by
    unfold vQ smD;rw[cond_false,hx,ht6,Aa,Aa,A3x]
   rw[hs];rfl
def tJn:D5:=⟨fun xs k=>match xs with|[.sl _ z n c,.str sep]=>if z=1 then(bE 1 stG n c).bind fun l=>bif decide ((Lib.join l sep).length<=1000000)&&decide (l.length<=1000000)then k (.str (Lib.join l sep))else none else none|_=>none,false⟩
theorem E4s:tJn.nat:=by
 intro R xs k;simp only[tJn];split
 ·rw[F4];split
  ·rw[Option.bind_assoc];congr 1;funext l;rw[B5];rfl
  ·rfl
 ·rfl
theorem B32 {M:C4}:∀(l:List (List UInt8)) (us:List Value),D7 M (l.flatMap pB) us->us=l.map fun s=>.string ⟨s.toArray⟩
 |[],us,h=>by
  have h:D7 M [] us:=h;simp only[D7]at h;exact h
 |s::l,us,h=>by
  have h:D7 M (.str s::l.flatMap pB) us:=h;simp only[D7,B7]at h;obtain⟨_,us',rfl,_,rfl,h2⟩:=h;rw[B32 l us' h2];rfl
theorem B20:D8 F6 Ws 78 tJn:=by
 refine W7 Tryz.func78 (by kernel_rfl) (by decide) E4s rfl ?_;intro xs r M vs hW h hr;simp only[tJn]at h;split at h
 ·rename_i nl z n c sep;obtain⟨hz,h⟩:=A5 h;subst hz;obtain⟨l,hl,h⟩:=Ab.1 h;obtain⟨hb,h⟩:=B8 h;injection h with h;subst h;simp only[Ae,decide_eq_true_eq]at hb;obtain⟨v1,v2,rfl,h1,h2⟩:=A7a hr;simp only[B7]at h1 h2;subst h2;obtain⟨A,cp,us,rfl,hnc,hcm,_,_,hlen,hrl,hx⟩:=h1;obtain⟨e1,e2⟩:=T7 A0t hl;subst e1 e2;obtain rfl:=B32 l us hrl;rcases l with _|⟨s0,l⟩
  ·refine(Any.strings_Join_none Tryz.lays156 Tryz.Builder_Extra_156 A cp ⟨sep.toArray⟩ M.w).mono ?_
   rintro e w' ⟨rfl,rfl⟩
   exact⟨_,rfl,Below.refl _ _,fun U' _=>rfl⟩
  ·rcases hx with hx|⟨b,o,rfl,hcell⟩
   ·cases hx
   ·have hj:=Any.strings_Join Tryz.lays156 Tryz.Builder_Extra_156 b o cp ((s0::l).map fun s=>⟨s.toArray⟩) ⟨sep.toArray⟩ M.w (fun j x hj=>by
     rw[Az]at hj;obtain⟨s,hs,rfl⟩:=Option.map_eq_some_iff.1 hj
     exact(hcell j (.string ⟨s.toArray⟩) (by rw[Az,hs];rfl)).1) (World.block_lt_of_cell? M.w _ (hcell 0 _ rfl).1) (by rw[By];omega) (by rw[By];exact hnc)
     (by
      have e:(((s0::l).map fun s=>(⟨s.toArray⟩:ByteArray)).map (·.data.toList))=s0::l:=by rw[List.map_map];simp[Function.comp_def]
      rw[e]
      exact Nat.le_trans hb.1 (by decide))
    rw[By]at hj
    have e:(((s0::l).map fun s=>(⟨s.toArray⟩:ByteArray)).map (·.data.toList))=s0::l:=by rw[List.map_map];simp[Function.comp_def]
    rw[e]at hj;refine hj.mono ?_
    rintro e w' ⟨rfl,hbl⟩
    exact⟨_,rfl,hbl,fun U' _=>rfl⟩
 ·cases h
def hLi:B4:=⟨[],[(0,⟨[(1,false),(5,true),(8,false),(9,false),(10,false)],[]⟩)]⟩
noncomputable def D1z:D5:=E8 [] ⟨[],[]⟩ 0 Tryz.f33
theorem D7p:D8 F6 Ws 33 D1z:=C0 D4 A2 Tryz.func33 rfl (by decide)
noncomputable def F1m:D5:=E8 [(78,tJn),(35,tXS txD)] hLi 6 Tryz.f34
theorem E7v:D8 F6 Ws 34 F1m:=C0 D4 (A0 B20 (A0 uO A2)) Tryz.func34 rfl (by decide)
noncomputable def F76:D5:=E8 [(78,tJn)] hLi 6 Tryz.f36
theorem F73:D8 F6 Ws 36 F76:=C0 D4 (A0 B20 A2) Tryz.func36 rfl (by decide)
noncomputable def F6u:D5:=E8 [(78,tJn)] hLi 6 Tryz.f38
theorem F4u:D8 F6 Ws 38 F6u:=C0 D4 (A0 B20 A2) Tryz.func38 rfl (by decide)
noncomputable def A9x:D5:=E8 [] ⟨[],[]⟩ 0 Tryz.f86
theorem B1g:D8 F6 Ws 86 A9x:=C0 D4 A2 Tryz.func86 rfl (by decide)
noncomputable def F5t:D5:=E8 [(35,tXS txD),(86,A9x)] ⟨[],[]⟩ 0 Tryz.f85
theorem F53:D8 F6 Ws 85 F5t:=C0 D4 (A0 uO (A0 B1g A2)) Tryz.func85 rfl (by decide)
noncomputable def F4h:D5:=E8 [(35,tXS txD)] ⟨[],[]⟩ 0 Tryz.f88
theorem F4f:D8 F6 Ws 88 F4h:=C0 D4 (A0 uO A2) Tryz.func88 rfl (by decide)
noncomputable def F4w:D5:=E8 [(78,tJn),(85,F5t)] hLi 6 Tryz.f84
theorem F42:D8 F6 Ws 84 F4w:=C0 D4 (A0 B20 (A0 F53 A2)) Tryz.func84 rfl (by decide)
noncomputable def F4i:D5:=E8 [(78,tJn),(88,F4h)] hLi 6 Tryz.f87
theorem F60:D8 F6 Ws 87 F4i:=C0 D4 (A0 B20 (A0 F4f A2)) Tryz.func87 rfl (by decide)
noncomputable def E6e:D5:=E8 [(33,D1z),(34,F1m),(84,F4w),(86,A9x),(87,F4i),(89,A22)] ⟨[],[]⟩ 0 Tryz.f45
theorem F0k:D8 F6 Ws 45 E6e:=C0 D4 (A0 D7p (A0 E7v (A0 F42 (A0 B1g (A0 F60 (A0 (sC (B36 C3q)) A2)))))) Tryz.func45 rfl (by decide)
noncomputable def F68:D5:=E8 [(32,C87 A1r),(33,D1z),(34,F1m),(36,F76),(38,F6u),(45,E6e)] ⟨[],[]⟩ 0 Tryz.f15
theorem F50:D8 F6 Ws 15 F68:=C0 D4 (A0 A5s (A0 D7p (A0 E7v (A0 F73 (A0 F4u (A0 F0k A2)))))) Tryz.func15 rfl (by decide)
def fjT:List UInt8:=[83,69,76,69,67,84,32,40,97,32,43,32,49,41,32,65,83,32,120,32,70,82,79,77,32,116,32,87,72,69,82,69,32,40,78,79,84,32,40,98,32,73,83,32,78,85,76,76,41,41,32,79,82,68,69,82,32,66,89,32,97,32,68,69,83,67,32,76,73,77,73,84,32,51]
def fjA:XR:=Z9 10 [43] (dX 8 [] [97]) (pN 12 2 1 0 [])
def fjW:XR:=wW 34 G4 (fS 41 false (dX 39 [] [98]))
def fjS:SR:=⟨9,[],[],false,.nil,.nil,.nil,.nil,.one fjW.cells,.one (IR.cells ⟨fjA,[120]⟩),.one (SoR.cells ⟨[116],[]⟩),.nil,.nil,.one (OR.cells ⟨dX 60 [] [97],true⟩),3⟩
theorem F9r:A7i fjT=some (fjS,0,0):=by kernel_rfl
def fpJ (s:List UInt8):Option (SR×Int×Int):=bif s==fjT then some (fjS,0,0)else none
theorem C4f:D8 F6 Ws 13 (tPs fpJ):=O3 D21 (C3a _) rfl fun xs r h=>by
 simp only[tPs]at h;split at h
 ·rename_i s;obtain⟨v,hv,h⟩:=Ab.1 h
  have e:A7i s=some v:=by
   unfold fpJ at hv;obtain⟨h2,hv⟩:=B8 hv;rw[eq_of_beq h2,F9r];exact hv
  show(A7i s).bind _=_;rw[e];exact h
 ·cases h
noncomputable def C3v:D5:=E8 [(13,tPs fpJ),(15,F68),(18,tXS pxT)] ⟨[],[]⟩ 0 Tryz.f14
theorem B0s:C3v.F [] (R:=PV) some=some (.bool true):=by kernel_rfl
theorem B82:D8 F6 Ws 14 A13 :=
 O3 (C0 D4 (A0 C4f (A0 F50 (A0 D1f A2))) (h:=⟨[],[]⟩) (fuel:=0) Tryz.func14 rfl (by decide)) (by
  intro R xs k;simp only[A13]
  split<;>rfl) rfl fun xs r h=>by
  simp only[A13]at h;split at h
  ·exact B0s.trans h
  ·cases h
theorem E4l:E0 F6 Ws (E9y szD pxT rxT (fun x d=>uF 6000 x d) feD feD (vQ 6000)) :=
 A0 B82 (A0 D3m (A0 D1f (A0 F0r (A0 B75 (A0 E9w (A0 F0o (A0 (B63 6000) A2)))))))
end Go.Proofs.YtkpfigikffphdaaGreatDoor
end
section
set_option maxRecDepth 100000
namespace Go.Proofs.YtkpfigikffphdaaGreatDoor
open Go.ChangeShapes Go.WideShapes Go.ChangeAt Go.RowKit Go.Deep
theorem C7i {H:Type}{enc:TypeId×Value->H}{w:World}{base:Nat}{sp:Nat->Bool}{held:Bool}{n:Nat}{cs:List Value}{x:DataW H×List MemPlace}
  (h:DataW.trod enc Tryz.prog w base sp held n 26 cs=some x):∃(a n c:Int) (s:List UInt8),mG n=true/\cs=[.int .i64 a,.int .i64 n,.int .i64 c,.string ⟨s.toArray⟩]:=by
 obtain⟨xs,k,_,_,hl,hxl,hf⟩:=DataW.trod_struct Tryz.underlying26 h;rw[show Tryz.prog.cellsOf 26=4 by kernel_rfl]at hl
 match cs,hl with
 |[v0,v1,v2,v3],_ =>
  match xs,hxl with
  |[y0,y1,y2,y3],_ =>
   have g0:DataW.trod enc Tryz.prog w base sp held k 24 [v0]=some y0:=hf 0 _ rfl;have g1:DataW.trod enc Tryz.prog w base sp held k 3 [v1]=some y1:=hf 1 _ rfl;have g2:DataW.trod enc Tryz.prog w base sp held k 3 [v2]=some y2:=hf 2 _ rfl;have g3:DataW.trod enc Tryz.prog w base sp held k 9 [v3]=some y3:=hf 3 _ rfl;obtain⟨a,e0,_,_⟩:=DataW.trod_int Tryz.underlying24 g0;obtain⟨b,e1,_,hb⟩:=DataW.trod_int Tryz.underlying3 g1;obtain⟨c,e2,_,_⟩:=DataW.trod_int Tryz.underlying3 g2;obtain⟨s,e3,_,_⟩:=DataW.trod_string Tryz.underlying9 g3;obtain rfl:=Ea e0;obtain rfl:=Ea e1;obtain rfl:=Ea e2;obtain rfl:=Ea e3;exact⟨a,b,c,s.data.toList,aK.2 (bounds_i64 hb),by simp⟩
theorem C49 {H:Type}{enc:TypeId×Value->H}{w:World}{base:Nat}{sp:Nat->Bool}{held:Bool}{n:Nat}{cs:List Value}{x:DataW H×List MemPlace}
  (h:DataW.trod enc Tryz.prog w base sp held n 28 cs=some x):∃a b:Int,mG b=true/\cs=[.int .i64 a,.int .i64 b]:=by
 obtain⟨xs,k,_,_,hl,hxl,hf⟩:=DataW.trod_struct Tryz.underlying28 h;rw[show Tryz.prog.cellsOf 28=2 by kernel_rfl]at hl
 match cs,hl with
 |[v0,v1],_ =>
  match xs,hxl with
  |[y0,y1],_ =>
   have g0:DataW.trod enc Tryz.prog w base sp held k 24 [v0]=some y0:=hf 0 _ rfl;have g1:DataW.trod enc Tryz.prog w base sp held k 3 [v1]=some y1:=hf 1 _ rfl;obtain⟨a,e0,_,_⟩:=DataW.trod_int Tryz.underlying24 g0;obtain⟨b,e1,_,hb⟩:=DataW.trod_int Tryz.underlying3 g1;obtain rfl:=Ea e0;obtain rfl:=Ea e1;exact⟨a,b,aK.2 (bounds_i64 hb),rfl⟩
theorem A5r {H:Type}{enc:TypeId×Value->H}{w:World}{base:Nat}{sp:Nat->Bool}{held:Bool}:∀(F fuel:Nat) (cs:List Value) (y:DataW H×List MemPlace),fuel<=F->
  DataW.trod enc Tryz.prog w base sp held fuel 31 cs=some y->∃x:XR,(∀d,okX d x)/\A5a w x.cells cs
 |0,fuel,cs,y,hF,h=>by
  obtain⟨xs,k,hk,_⟩:=DataW.trod_struct Tryz.underlying31 h;omega
 |F+1,fuel,cs,y,hF,h=>by
  obtain⟨xs,k,hk,_,hl,hxl,hf⟩:=DataW.trod_struct Tryz.underlying31 h;rw[show Tryz.prog.cellsOf 31=13 by kernel_rfl]at hl
  match cs,hl with
  |[v0,v1,v2,v3,v4,v5,v6,v7,v8,v9,v10,v11,v12],_ =>
   match xs,hxl with
   |[y0,y1,y2,y3,y4,y5,y6,y7,y8],_ =>
    have g0:DataW.trod enc Tryz.prog w base sp held k 23 [v0]=some y0:=hf 0 _ rfl;have g1:DataW.trod enc Tryz.prog w base sp held k 3 [v1]=some y1:=hf 1 _ rfl;have g2:DataW.trod enc Tryz.prog w base sp held k 9 [v2]=some y2:=hf 2 _ rfl;have g3:DataW.trod enc Tryz.prog w base sp held k 26 [v3,v4,v5,v6]=some y3:=(hf 3 _ rfl);have g4:DataW.trod enc Tryz.prog w base sp held k 9 [v7]=some y4:=hf 4 _ rfl;have g5:DataW.trod enc Tryz.prog w base sp held k 9 [v8]=some y5:=hf 5 _ rfl;have g6:DataW.trod enc Tryz.prog w base sp held k 4 [v9]=some y6:=hf 6 _ rfl;have g7:DataW.trod enc Tryz.prog w base sp held k 28 [v10,v11]=some y7:=hf 7 _ rfl;have g8:DataW.trod enc Tryz.prog w base sp held k 29 [v12]=some y8:=hf 8 _ rfl;obtain⟨k1,e0,_,_⟩:=DataW.trod_int Tryz.underlying23 g0;obtain⟨a1,e1,_,_⟩:=DataW.trod_int Tryz.underlying3 g1;obtain⟨o1,e2,_,_⟩:=DataW.trod_string Tryz.underlying9 g2;obtain⟨va,vn,vc,vs,iv,e3⟩:=C7i g3;obtain⟨tb,e4,_,_⟩:=DataW.trod_string Tryz.underlying9 g4;obtain⟨nm,e5,_,_⟩:=DataW.trod_string Tryz.underlying9 g5;obtain⟨b1,e6,_⟩:=DataW.trod_bool Tryz.underlying4 g6;obtain⟨t1,u1,iu,e7⟩:=C49 g7;obtain⟨A,c,l,e8,wl,B,hB⟩:=D6n (f:=XR.cells) (Pa:=fun x=>∀d,okX d x) (size:=13) (by omega) Tryz.underlying29 (by kernel_rfl) tQ (fun n cs' y hn h=>A5r F n cs' y (by omega) h) g8;simp only[List.cons.injEq,and_true]at e0 e1 e2 e3 e4 e5 e6 e7 e8;obtain⟨rfl,rfl,rfl,rfl⟩:=e3;obtain⟨rfl,rfl⟩:=e7;subst e0 e1 e2 e4 e5 e6 e8;refine⟨⟨k1,a1,o1.data.toList,va,vn,vc,vs,tb.data.toList,nm.data.toList,b1,t1,u1,none,l.length,l.flatMap XR.cells⟩,fun d=>?_,B,fun U hU=>?_⟩
    ·cases d with
     |zero=>trivial
     |succ d=>exact⟨iv,iu,l,rG tQ A1t l,fun x hx=>wl x hx d⟩
    ·have:=hB U hU;simp only[XR.cells,D7];refine⟨_,_,rfl,rfl,rfl,_,_,rfl,rfl,rfl,_,_,rfl,rfl,?_,_,_,rfl,rfl,rfl,_,_,rfl,rfl,rfl,_,_,rfl,rfl,rfl,_,_,rfl,rfl,rfl,_,_,rfl,rfl,?_,_,_,rfl,rfl,?_,_,_,rfl,rfl,rfl,_,_,rfl,rfl,rfl,_,_,rfl,rfl,rfl,_,_,rfl,rfl,this,rfl⟩<;>simp[B7]
def F6x (w:World)(p:PV)(v:Value):Prop:=∃B:Nat,∀U:Nat->Nat,(∀b,B<=U b)->B7 (C7v w U) p v
theorem C8c {H:Type}{enc:TypeId×Value->H}{W W0:World}{r:Reach}{b0 base:Nat}{sp:Nat->Bool}{held:Bool}{v:Value}{d:DataW H}{ps:List MemPlace}
  (hval:Value.okWide Tryz.prog W0 r b0 31 v) (hd:DataW.Trod enc Tryz.prog W base sp held 31 v d ps):∃x:XR,(∀d,okX d x)/\F6x W (.agg x.cells) v:=by
 simp only[Value.okWide,Tryz.underlying31]at hval;obtain⟨cs,rfl,hs,_⟩:=hval;obtain⟨l⟩:=cs;obtain⟨fuel,hf⟩:=hd;obtain⟨x,hx,B,hB⟩:=A5r fuel fuel l _ (Nat.le_refl _) hf;exact⟨x,hx,B,fun U hU=>⟨l,rfl,hB U hU⟩⟩
theorem F17 (W:World)(v:Value){x:XR}(hx:∀d,okX d x)(ha:F6x W (.agg x.cells) v)(hW:Ws W)(hng:F6<=W.heap.size) :
  Calls Tryz.prog 7 #[v] W fun e W'=>e=.returned (.bool true)/\Below W.heap.size W W':=by
 obtain⟨B,hB⟩:=ha;exact D8l (vs:=[v]) (xs:=[.agg x.cells]) D4 E4l Tryz.func7 (U:=fun _=>B) hW hng ⟨v,[],rfl,hB _ fun _=>Nat.le_refl _,rfl⟩ (D0p (hx 70))
end Go.Proofs.YtkpfigikffphdaaGreatDoor
end
