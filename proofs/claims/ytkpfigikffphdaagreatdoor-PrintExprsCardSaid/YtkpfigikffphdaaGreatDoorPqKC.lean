/-
  Lemmas, part K3: what the claim needs of the texts of wip/tpl.
-/
import Derived.Laws.RangeAny
import Derived.LoopTactic
import Derived.Test.YtkpfigikffphdaaGreatDoorPqKB
set_option linter.unusedVariables false
set_option linter.unusedSimpArgs false
open Bool renaming and_eq_true→Ae,not_false→Ar,not_true→Au,true_and→Ba,or_eq_true→Cc,and_false→Ch,or_false→Co,false_and→Cs,false_or→Cv,eq_iff_iff→Df
open Eq renaming trans→Cw
open Int renaming toNat_natCast→At
open List renaming length_cons→Ac,length_append→Af,getElem?_eq_getElem→Ag,length_nil→Ai,getElem?_eq_some_iff→Aj,append_assoc→Al,mem_cons_self→An,drop_eq_getElem_cons→Av,length_drop→Ax,getElem?_map→Az,drop_of_length_le→Bb,mem_cons→Be,append_nil→Bf,cons_append→Bk,length→Bn,getElem?_eq_none→Bs,drop_zero→Bt,map_cons→Cb,length_take→Cf,all_cons→Ci,any_cons→Cj,lookup_cons→Ct,tail_drop→Cu,not_mem_nil→Cz,map_congr_left→Dk,head?_drop→Dl,any_eq_true→Dp,drop_drop→Dr,head?_cons→Eb,any_nil→Eg,takeWhile_prefix→Fc,tail→Fr
open Nat renaming le_refl→Ak,le_succ→Cq,eq_zero_or_pos→Ed
open Option renaming bind_some→Aa,bind_eq_some_iff→Ab,bind_assoc→Ad,map_eq_some_iff→Am,map_some→Aq
open Or renaming inr→Cp,inl→Fb
open UInt8 renaming toNat_inj→Du
section
namespace Go.Proofs.YtkpfigikffphdaaGreatDoor
open Go.RowKit
def oB:List Nat->Code->Code
 |0::p,.seq a _=>oB p a
 |_::p,.seq _ b=>oB p b
 |0::p,.cond _ a _=>oB p a
 |_::p,.cond _ _ b=>oB p b
 |_::p,.block _ a=>oB p a
 |_::p,.loop a=>oB p a
 |_,c=>c
def S0:Code->Bool
 |.seq a b=>S0 a&&S0 b
 |.cond _ a b=>S0 a&&S0 b
 |.block _ a=>S0 a
 |.loop a=>S0 a
 |.rangeFunc _ _ _ _=>false
 |_=>true
section
variable {R:Type}
def LeK (k k':St->Option R):Prop:=∀st q,k st=some q->k' st=some q
def LeX (kx kx':List (Nat×(St->Option R))):Prop:=∀id f,kx.lookup id=some f->∃f',kx'.lookup id=some f'/\LeK f f'
theorem LeK.rfl {k:St->Option R}:LeK k k:=fun _ _ h=>h
theorem LeX.rfl {kx:List (Nat×(St->Option R))}:LeX kx kx:=fun _ f h=>⟨f,h,LeK.rfl⟩
theorem LeX.cons {id:Nat}{f f':St->Option R}{kx kx':List (Nat×(St->Option R))}(hf:LeK f f')(h:LeX kx kx'):LeX ((id,f)::kx) ((id,f')::kx'):=fun i g hg=>by
 simp only[Ct]at hg ⊢;split at hg
 ·injection hg with hg;subst hg;exact⟨f',by rfl,hf⟩
 ·exact h i g hg
theorem A8z {α:Type}{x:Option α}{k k':α->Option R}(h:∀a q,k a=some q->k' a=some q){r:R}(hr:x.bind k=some r):x.bind k'=some r:=by
 obtain⟨a,ha,hk⟩:=Ab.1 hr;rw[ha];exact h a r hk
theorem B9k {en:K6}(hE:en.nat){ops:Array Oper}{draw:Bool}{st:St}{k k':St->Option R}(h:LeK k k'){r:R}(hr:dQ en ops draw st k=some r):dQ en ops draw st k'=some r:=by
 have e:∀k:St->Option R,dQ en ops draw st k=(dQ en ops draw st some).bind k:=fun k=>zM (k0:=some) hE;rw[e]at hr ⊢;exact A8z h hr
theorem B1h {kp:Option zX}{st:St}{k k':St->Option R}(h:LeK k k'){r:R}(hr:C2 kp st k=some r):C2 kp st k'=some r:=by
 have e:∀k:St->Option R,C2 kp st k=(C2 kp st some).bind k:=fun k=>gV (k0:=some);rw[e]at hr ⊢;exact A8z h hr
theorem E0l {l:Option (List (Nat×Bool))}{st:St}{k k':St->Option R}(h:LeK k k'){r:R}(hr:A4s l st k=some r):A4s l st k'=some r:=by
 have e:∀k:St->Option R,A4s l st k=(A4s l st some).bind k:=fun k=>A1v (k0:=some);rw[e]at hr ⊢;exact A8z h hr
variable (e:K6) (h:B4) (fu:Nat) (kr:St->Option R) (nm:List Nat->Nat->St->Option R)
theorem gZ (hE:e.nat):∀(c:Code) (acc:List Nat) (cur:Nat) (st:St) (kn kn':St->Option R) (kx kx':List (Nat×(St->Option R))) (r:R),S0 c=true->LeK kn kn'->LeX kx kx'->
  H6 e h fu kr nm c acc cur st kn kx=some r->H6 e h fu kr nm c acc cur st kn' kx'=some r
 |.skip,acc,cur,st,kn,kn',kx,kx',r,_,h1,_,hr=>h1 _ _ hr
 |.region id ops draw,acc,cur,st,kn,kn',kx,kx',r,_,h1,_,hr=>by
  simp only[H6]at hr ⊢;exact E0l (fun st' q hq=>B9k hE h1 hq) hr
 |.seq a b,acc,cur,st,kn,kn',kx,kx',r,hn,h1,h2,hr=>by
  simp only[S0,Ae]at hn;simp only[H6]at hr ⊢;exact gZ hE a _ _ _ _ _ _ _ _ hn.1 (fun st' q hq=>gZ hE b _ _ _ _ _ _ _ _ hn.2 h1 h2 hq) h2 hr
 |.cond c a b,acc,cur,st,kn,kn',kx,kx',r,hn,h1,h2,hr=>by
  simp only[S0,Ae]at hn;simp only[H6]at hr ⊢;split
  ·rename_i t ht;rw[ht]at hr
   cases t with
   |true=>exact gZ hE a _ _ _ _ _ _ _ _ hn.1 h1 h2 hr
   |false=>exact gZ hE b _ _ _ _ _ _ _ _ hn.2 h1 h2 hr
  ·rename_i hno;split at hr
   ·rename_i t ht;exact absurd ht (hno t)
   ·cases hr
 |.block id a,acc,cur,st,kn,kn',kx,kx',r,hn,h1,h2,hr=>by
  simp only[S0]at hn;simp only[H6]at hr ⊢;exact gZ hE a _ _ _ _ _ _ _ _ hn (fun st' q hq=>B1h h1 hq) (LeX.cons (fun st' q hq=>B1h h1 hq) h2) hr
 |.loop a,acc,cur,st,kn,kn',kx,kx',r,hn,h1,h2,hr=>hr
 |.exit id,acc,cur,st,kn,kn',kx,kx',r,hn,h1,h2,hr=>by
  simp only[H6]at hr ⊢
  cases hl:kx.lookup id with
  |none=>rw[hl]at hr;cases hr
  |some f =>
   rw[hl]at hr;obtain⟨f',h3,h4⟩:=h2 id f hl;rw[h3];exact h4 _ _ hr
 |.ret,acc,cur,st,kn,kn',kx,kx',r,hn,h1,h2,hr=>hr
 |.label _,acc,cur,st,kn,kn',kx,kx',r,hn,h1,h2,hr=>h1 _ _ hr
 |.rangeFunc _ _ _ _,_,_,_,_,_,_,_,_,hn,_,_,_=>by cases hn
 |.scope _,_,_,_,_,_,_,_,_,_,_,_,hr=>by cases hr
 |.goto _,_,_,_,_,_,_,_,_,_,_,_,hr=>by cases hr
 |.refuse _,_,_,_,_,_,_,_,_,_,_,_,hr=>by cases hr
def iO (KM:St->Option R):List Nat->Code->List Nat->Nat->St->(St->Option R)->List (Nat×(St->Option R))->Option R
 |[],_,_,_,st,_,_=>KM st
 |0::p,.seq a b,acc,cur,st,kn,kx=>iO KM p a (0::acc) cur st (fun st'=>H6 e h fu kr nm b (1::acc) cur st' kn kx) kx
 |(_+1)::p,.seq a b,acc,cur,st,kn,kx=>H6 e h fu kr nm a (0::acc) cur st (fun st'=>iO KM p b (1::acc) cur st' kn kx) kx
 |0::p,.cond c a b,acc,cur,st,kn,kx =>
  match(ev e st 0 c).1 with
  |.bool t=>bif t then iO KM p a (0::acc) cur st kn kx else H6 e h fu kr nm b (1::acc) cur st kn kx
  |_=>none
 |(_+1)::p,.cond c a b,acc,cur,st,kn,kx =>
  match(ev e st 0 c).1 with
  |.bool t=>bif t then H6 e h fu kr nm a (0::acc) cur st kn kx else iO KM p b (1::acc) cur st kn kx
  |_=>none
 |_::p,.block id a,acc,_,st,kn,kx=>iO KM p a (0::acc) id st (fun st'=>C2 (h.block.lookup id) st' kn) ((id,fun st'=>C2 (h.block.lookup id) st' kn)::kx)
 |_::_,c,acc,cur,st,kn,kx=>H6 e h fu kr nm c acc cur st kn kx
def A28:List Nat->Code->List Nat->Nat->(St->Option R)->List (Nat×(St->Option R))->St->Option R
 |[],c,acc,cur,kn,kx=>fun st=>H6 e h fu kr nm c acc cur st kn kx
 |0::p,.seq a b,acc,cur,kn,kx=>A28 p a (0::acc) cur (fun st'=>H6 e h fu kr nm b (1::acc) cur st' kn kx) kx
 |(_+1)::p,.seq _ b,acc,cur,kn,kx=>A28 p b (1::acc) cur kn kx
 |0::p,.cond _ a _,acc,cur,kn,kx=>A28 p a (0::acc) cur kn kx
 |(_+1)::p,.cond _ _ b,acc,cur,kn,kx=>A28 p b (1::acc) cur kn kx
 |_::p,.block id a,acc,_,kn,kx=>A28 p a (0::acc) id (fun st'=>C2 (h.block.lookup id) st' kn) ((id,fun st'=>C2 (h.block.lookup id) st' kn)::kx)
 |_,_,_,_,_,_=>fun _=>none
theorem gY (hE:e.nat){KM:St->Option R}:∀(p:List Nat) (c:Code) (acc:List Nat) (cur:Nat) (st:St) (kn:St->Option R) (kx:List (Nat×(St->Option R))) (r:R),S0 c=true->
  LeK KM (A28 e h fu kr nm p c acc cur kn kx)->iO e h fu kr nm KM p c acc cur st kn kx=some r->H6 e h fu kr nm c acc cur st kn kx=some r
 |[],c,acc,cur,st,kn,kx,r,hn,hM,hr=>hM _ _ hr
 |0::p,.seq a b,acc,cur,st,kn,kx,r,hn,hM,hr=>by
  simp only[S0,Ae]at hn;simp only[iO,H6]at hr ⊢;exact gY hE p a _ _ _ _ _ _ hn.1 hM hr
 |(m+1)::p,.seq a b,acc,cur,st,kn,kx,r,hn,hM,hr=>by
  simp only[S0,Ae]at hn;simp only[iO,H6]at hr ⊢;exact gZ e h fu kr nm hE a _ _ _ _ _ _ _ _ hn.1 (fun st' q hq=>gY hE p b _ _ _ _ _ _ hn.2 hM hq) LeX.rfl hr
 |0::p,.cond c a b,acc,cur,st,kn,kx,r,hn,hM,hr=>by
  simp only[S0,Ae]at hn;simp only[iO,H6]at hr ⊢;split
  ·rename_i t ht;rw[ht]at hr
   cases t with
   |true=>exact gY hE p a _ _ _ _ _ _ hn.1 hM hr
   |false=>exact hr
  ·rename_i hno;split at hr
   ·rename_i t ht;exact absurd ht (hno t)
   ·cases hr
 |(m+1)::p,.cond c a b,acc,cur,st,kn,kx,r,hn,hM,hr=>by
  simp only[S0,Ae]at hn;simp only[iO,H6]at hr ⊢;split
  ·rename_i t ht;rw[ht]at hr
   cases t with
   |true=>exact hr
   |false=>exact gY hE p b _ _ _ _ _ _ hn.2 hM hr
  ·rename_i hno;split at hr
   ·rename_i t ht;exact absurd ht (hno t)
   ·cases hr
 |m::p,.block id a,acc,cur,st,kn,kx,r,hn,hM,hr=>by
  simp only[S0]at hn
  cases m<;>exact gY hE p a _ _ _ _ _ _ hn hM hr
 |m::p,.skip,acc,cur,st,kn,kx,r,hn,hM,hr=>by cases m<;>exact hr
 |m::p,.region _ _ _,acc,cur,st,kn,kx,r,hn,hM,hr=>by cases m<;>exact hr
 |m::p,.loop _,acc,cur,st,kn,kx,r,hn,hM,hr=>by cases m<;>exact hr
 |m::p,.exit _,acc,cur,st,kn,kx,r,hn,hM,hr=>by cases m<;>exact hr
 |m::p,.ret,acc,cur,st,kn,kx,r,hn,hM,hr=>by cases m<;>exact hr
 |m::p,.label _,acc,cur,st,kn,kx,r,hn,hM,hr=>by cases m<;>exact hr
 |m::p,.rangeFunc _ _ _ _,acc,cur,st,kn,kx,r,hn,hM,hr=>by cases m<;>exact hr
 |m::p,.scope _,acc,cur,st,kn,kx,r,hn,hM,hr=>by cases m<;>exact hr
 |m::p,.goto _,acc,cur,st,kn,kx,r,hn,hM,hr=>by cases m<;>exact hr
 |m::p,.refuse _,acc,cur,st,kn,kx,r,hn,hM,hr=>by cases m<;>exact hr
variable (fn:Func) (path:List Nat) (cur:Nat) (kx:List (Nat × (St->Option R)))
def E98:List (Nat×(St->Option R)):=kx.map fun p=>(p.1,fun st=>C2 (h.block.lookup p.1) st p.2)
def E6z (st:St)(k:St->Option R):Option R:=H6 e h fu kr nm (oB (path++[0]) (fn.body.getD .skip)) (path++[0]).reverse cur st k (E98 h kx)
def E6u (p:List Nat)(KM:St->Option R)(st:St)(k:St->Option R):Option R:=iO e h fu kr nm KM p (oB (path++[0]) (fn.body.getD .skip)) (path++[0]).reverse cur st k (E98 h kx)
def E7u (p:List Nat)(k:St->Option R):St->Option R:=A28 e h fu kr nm p (oB (path++[0]) (fn.body.getD .skip)) (path++[0]).reverse cur k (E98 h kx)
theorem C7l (hE:e.nat){p:List Nat}{KM k:St->Option R}{st:St}{r:R}(hn:S0 (oB (path++[0]) (fn.body.getD .skip))=true)(hM:LeK KM (E7u e h fu kr nm fn path cur kx p k))
 (hr:E6u e h fu kr nm fn path cur kx p KM st k=some r):E6z e h fu kr nm fn path cur kx st k=some r:=gY e h fu kr nm hE p _ _ _ _ _ _ _ hn hM hr
end
def nmP (e:K6)(h:B4)(fu:Nat)(fn:Func)(k:St->Option PV):List Nat->Nat->St->Option PV:=fun p cur st=>A26 e h fu false fn k p cur fu st
def E96 (e:K6)(h:B4)(fu:Nat)(fn:Func)(p:List Nat)(cur:Nat)(kx:List (Nat×(St->Option PV)))(st:St):Option PV :=
 H6 e h fu (iA e false fn) (fun p cur st=>N3 e h fu false fn p cur fu st) (oB p (fn.body.getD .skip)) p.reverse cur st (iA e false fn) kx
def rdK {R:Type}(n m:Nat)(ts bs:List Nat)(G:List TV->List (Option (List TV))->Option R)(st:St):Option R :=
 match st.out with
 |.nil=>bif Nat.beq st.ρ.length n&&Nat.beq st.bx.length m then G (ts.map fun t=>st.ρ.getD t (.undef,0)) (bs.map fun b=>st.bx.getD b none)else none
 |_=>none
def B8b (n m:Nat)(l:List (Nat×TV))(b:List (Nat×Option (List TV)))(g:Nat->TV)(gb:Nat->Option (List TV)):St :=
 ⟨(List.range n).map fun t=>(l.lookup t).getD (g t),(List.range m).map fun t=>(b.lookup t).getD (gb t),.nil⟩
theorem A1l {α:Type}(f:Nat->α):∀(ts:List Nat) (t:Nat),(ts.zip (ts.map f)).lookup t=none\/(ts.zip (ts.map f)).lookup t=some (f t)
 |[],t=>Fb rfl
 |a::ts,t=>by
  simp only[Cb,List.zip_cons_cons,Ct];split
  ·rename_i h;rw[eq_of_beq h];exact Cp rfl
  ·exact A1l f ts t
theorem yT {α:Type}(f:Nat->α)(ts:List Nat)(t:Nat):((ts.zip (ts.map f)).lookup t).getD (f t)=f t:=by
 rcases A1l f ts t with h|h<;>rw[h]<;>rfl
theorem A63 {α:Type}(l:List α)(d:α):(List.range l.length).map (fun t=>l.getD t d)=l:=by
 apply List.ext_getElem?;intro i;rw[Az]
 by_cases h:i<l.length
 ·rw[List.getElem?_range h,Ag h];simp[List.getD,Ag h]
 ·rw[Bs (by simpa using h),Bs (by omega)];rfl
theorem E3x {R:Type}{n m:Nat}{ts bs:List Nat}{G:List TV->List (Option (List TV))->Option R}{st:St}{q:R}(h:rdK n m ts bs G st=some q) :
  ∃vs ws g gb,G vs ws=some q/\st=B8b n m (ts.zip vs) (bs.zip ws) g gb:=by
 unfold rdK at h;split at h
 ·rename_i ho;refine⟨_,_,fun t=>st.ρ.getD t (.undef,0),fun t=>st.bx.getD t none,(B8 h).2,?_⟩;obtain⟨h1,-⟩:=B8 h;rw[Ae]at h1;have h2:=Nat.eq_of_beq_eq_true h1.1;have h3:=Nat.eq_of_beq_eq_true h1.2;obtain⟨ρ,bx,o⟩:=st;dsimp only at ho h2 h3 ⊢;subst ho;unfold B8b;congr 1
  ·rw[<-h2]
   conv=>lhs;rw[<-A63 ρ (.undef,0)]
   apply Dk;intro t _;exact(yT (fun t=>ρ.getD t (.undef,0)) ts t).symm
  ·rw[<-h3]
   conv=>lhs;rw[<-A63 bx none]
   apply Dk;intro t _;exact(yT (fun t=>bx.getD t none) bs t).symm
 ·cases h
end Go.Proofs.YtkpfigikffphdaaGreatDoor
end
section
set_option maxRecDepth 100000
namespace Go.Proofs.YtkpfigikffphdaaGreatDoor
open Go.RowKit
abbrev p0:List Nat:=[1,1,1,1,0,0]
abbrev pSg:List Nat:=[1,0,1,1,1,1,0,1,1,1,1,1,1,1,1]
section
variable (F:FL2) (fu:Nat) (s:List UInt8) (A:TA) (i a:Int) (K:St->Option PV)
noncomputable def A7m:St->Option PV:=E96 (cA F) dB fu sK [1,1,1,1,1] 0 []
noncomputable def E45 (nm:List Nat->Nat->St->Option PV)(v:Int):Option PV:=bif v==88 then nm p2 2 (rK s A (IntKind.i64.wrap (IntKind.i64.wrap (i+1)+1)) i)else nm p2 2 (rK s A (IntKind.i64.wrap (i+1)) i)
def B08 (v:Int):Option PV:=bif decide (IntKind.i64.wrap (i+1)<(s.length:Int))then Z5 s (IntKind.i64.wrap (i+1)) fun w=>sgE s A (IntKind.i64.wrap (i+1)) a K v (w.toNat:Int)else sgE s A (IntKind.i64.wrap (i+1)) a K v 0
noncomputable def E0o (nm:List Nat->Nat->St->Option PV)(Y:Int->Option PV)(v:Int):Option PV:=(F.fin v 48 57).bind fun b=>bif b then nm p4 4 (rK s A i i)else(F.fin v 65 90).bind fun b=>bif b then nm p8 8 (rK s A i i)else(F.fin v 97 122).bind fun b=>bif b then nm p12 12 (rK s A i i)else Y v
noncomputable def D71 (nm:List Nat->Nat->St->Option PV)(Y:Int->Option PV):Option PV :=
 bif decide (i<(s.length:Int))then Z5 s i fun v=>bif(bif(v.toNat:Int)==32 then true else(v.toNat:Int)==10)then K (frL s A (IntKind.i64.wrap (i+1)))else
  bif(bif !((v.toNat:Int)==39)then(bif(v.toNat:Int)==88 then decide (IntKind.i64.wrap (i+1)<(s.length:Int))else false)else false)then Z5 s (IntKind.i64.wrap (i+1)) fun w=>bif(w.toNat:Int)==39 then E45 s A i nm (v.toNat:Int)else E0o F s A i nm Y (v.toNat:Int)
  else bif(bif !((v.toNat:Int)==39)then(bif(v.toNat:Int)==88 then decide (IntKind.i64.wrap (i+1)<(s.length:Int))else false)else false)then none else bif(bif(v.toNat:Int)==39 then true else bif(bif(v.toNat:Int)==88 then decide (IntKind.i64.wrap (i+1)<(s.length:Int))else false)then false else false)then E45 s A i nm (v.toNat:Int)else E0o F s A i nm Y (v.toNat:Int)
 else some (.tuple [A.sl,.int .i64 0,.bool true])
theorem F9m (nm:List Nat->Nat->St->Option PV)(G:List TV->List (Option (List TV))->Option PV) :
 E6u (cA F) dB fu (iA (cA F) false sK) nm sK p0 0 [(0,A7m F fu)] pSg (rdK 312 312 [0,5,6,7,8,9] [9] G) (frL s A i) (fun st=>C2 (dB.loop.lookup 0) st K)=
  D71 F s A i K nm fun v=>G [(.str s,0),(A.sl,319),(.int .i64 i,0),(.int .u8 v,0),(.int .i64 i,0),(.ptr 9 0,0)] [some (tzB i)]:=by kernel_rfl
end
section
variable (F:FL2) (fu:Nat) (s:List UInt8) (A:TA) (i a:Int) (K:St->Option PV)
theorem F9l (nm:List Nat->Nat->St->Option PV)(v:Int)(g:Nat->TV)(gb:Nat->Option (List TV)) :
 E7u (cA F) dB fu (iA (cA F) false sK) nm sK p0 0 [(0,A7m F fu)] pSg (fun st=>C2 (dB.loop.lookup 0) st K) (B8b 312 312 [(0,(.str s,0)),(5,(A.sl,319)),(6,(.int .i64 i,0)),(7,(.int .u8 v,0)),(8,(.int .i64 a,0)),(9,(.ptr 9 0,0))] [(9,some (tzB a))] g gb)=
  B08 s A i a K v:=by kernel_rfl
end
def nD (c a z:Int):Option Bool:=some (bif decide (a<=c)then decide (c<=z)else false)
theorem E25:D8 F6 Ws 56 (tIn nD):=bG D4 A2 A7 B3 (h:=I4) Tryz.func56 rfl (by decide) (E4t _) fun xs r h=>by
 simp only[tIn]at h;split at h
 ·refine⟨0,(D6y 0 _ _ _).trans ?_⟩;simp only[nD,Aa]at h;exact h
 ·cases h
theorem E99:D8 F6 Ws 58 (A59 yY):=D6d D4 A2 A7 (h:=I4) Tryz.func58 rfl (by decide) fun r h=>⟨0,by
 unfold yY at h;injection h with h;subst h
 kernel_rfl⟩
def lF:FL2:=⟨nD,rvD,pQ,yY⟩
theorem tI {R:Type}{s:List UInt8}{a e:Nat}{k:List UInt8->Option R}(h1:a<=e)(h2:e<=s.length):slS s (a:Int) (e:Int) k=k ((s.drop a).take (e-a)):=by
 unfold slS;rw[A4 (by simp only[Ae,decide_eq_true_eq];omega),At,At,A4 (by simp only[Ae,decide_eq_true_eq];omega),List.drop_take]
theorem A8i {p:UInt8->Bool}(l:List UInt8):l.take (l.takeWhile p).length=l.takeWhile p:=(List.prefix_iff_eq_take.1 (Fc p)).symm
section
variable {F:FL2} {fu:Nat} {s:List UInt8} {A:TA} {a:Int} {K:St->Option PV}
theorem C99 {p:UInt8->Bool}{pa:List Nat}{b:Nat}{E:Int->Option PV}
  (hst:∀(j:Nat) (K2:St->Option PV),gE (cA F) dB fu false sK pa (fun st=>C2 (dB.loop.lookup 0) st K) (rK s A (j:Int) a) (fun st=>C2 (dB.loop.lookup b) st K2)=
   bif decide ((j:Int)<(s.length:Int))then Z5 s (j:Int) fun v=>bif p v then K2 (rK s A (IntKind.i64.wrap ((j:Int)+1)) a)else E j else E j) (hs:s.length<=100000) :
  ∀(k j n:Nat),j+k=s.length->k<n->lI F fu pa b K n (rK s A (j:Int) a)=E ((j+((s.drop j).takeWhile p).length:Nat):Int)
 |k,j,0,_,h=>by omega
 |0,j,n+1,hj,_=>by
  unfold lI;rw[R8,hst,B1 (decide_eq_false (by omega)),Bb (by omega)];rfl
 |k+1,j,n+1,hj,hn=>by
  have hc:=Ag (l:=s) (i:=j) (by omega);have hd:=Av (l:=s) (i:=j) (by omega);generalize s[j]=c at hc hd;have ih:=C99 (p:=p) (E:=E) hst hs k (j+1) n (by omega) (by omega);unfold lI at ih ⊢;rw[R8,hst,A4 (decide_eq_true (by omega)),F0 hc,hd,List.takeWhile_cons]
  cases hp:p c with
  |false=>simp only[cond_false,Bool.false_eq_true,if_false];rfl
  |true =>
   rw[cond_true,if_pos rfl,B2 (by omega) (by omega),show(j:Int)+1=((j+1:Nat):Int)by omega];refine ih.trans ?_;rw[Ac,show j+(Bn ((s.drop (j+1)).takeWhile p)+1)=j+1+Bn ((s.drop (j+1)).takeWhile p)by omega]
theorem vJ {R:Type}{i:Int}{k k':UInt8->Option R}(h:∀v,s[i.toNat]? =some v->k v=k' v):Z5 s i k=Z5 s i k':=by
 unfold Z5;congr 1
 cases hv:s[i.toNat]? with
 |none=>rfl
 |some v=>exact h v hv
theorem qH (v:UInt8):nD (v.toNat:Int) 48 57=some (J2 v):=by
 unfold nD J2
 cases decide ((48:Int)<=(v.toNat:Int))<;>rfl
theorem B5g (v:UInt8):nD (v.toNat:Int) 65 90=some (P3 v):=by
 unfold nD P3
 cases decide ((65:Int)<=(v.toNat:Int))<;>rfl
theorem D41 (v:UInt8):nD (v.toNat:Int) 97 122=some (decide (97<=(v.toNat:Int))&&decide ((v.toNat:Int)<=122)):=by
 unfold nD
 cases decide ((97:Int)<=(v.toNat:Int))<;>rfl
theorem F6h (j:Nat)(K2:St->Option PV):gE (cA lF) dB fu false sK p6 (fun st=>C2 (dB.loop.lookup 0) st K) (rK s A (j:Int) a) (fun st=>C2 (dB.loop.lookup 6) st K2)=
  bif decide ((j:Int)<(s.length:Int))then Z5 s (j:Int) fun v=>bif J2 v then K2 (rK s A (IntKind.i64.wrap ((j:Int)+1)) a)else A2i lF s A a K j else A2i lF s A a K j:=by
 rw[st6];congr 1;refine vJ fun v _=>?_;show(nD (v.toNat:Int) 48 57).bind _=_;rw[qH];rfl
theorem F6o (j:Nat)(K2:St->Option PV):gE (cA lF) dB fu false sK p4 (fun st=>C2 (dB.loop.lookup 0) st K) (rK s A (j:Int) a) (fun st=>C2 (dB.loop.lookup 4) st K2)=
  bif decide ((j:Int)<(s.length:Int))then Z5 s (j:Int) fun v=>bif J2 v then K2 (rK s A (IntKind.i64.wrap ((j:Int)+1)) a)else C6h lF fu s A j a K else C6h lF fu s A j a K:=by
 rw[st4];congr 1;refine vJ fun v _=>?_;show(nD (v.toNat:Int) 48 57).bind _=_;rw[qH];rfl
noncomputable def E38 (F:FL2)(fu:Nat)(s:List UInt8)(A:TA)(a:Int)(K:St->Option PV)(i:Int):Option PV:=F.fk.bind fun r=>lI F fu p10 10 K fu (C7f s A i a false r.1 r.2.1 r.2.2 0)
theorem F4v (j:Nat)(K2:St->Option PV):gE (cA lF) dB fu false sK p8 (fun st=>C2 (dB.loop.lookup 0) st K) (rK s A (j:Int) a) (fun st=>C2 (dB.loop.lookup 8) st K2)=
  bif decide ((j:Int)<(s.length:Int))then Z5 s (j:Int) fun v=>bif P3 v then K2 (rK s A (IntKind.i64.wrap ((j:Int)+1)) a)else E38 lF fu s A a K j else E38 lF fu s A a K j:=by
 rw[st8];show(bif _ then _ else _)=_;congr 1;refine vJ fun v _=>?_;show(nD (v.toNat:Int) 65 90).bind _=_;rw[B5g];rfl
theorem F1i (j:Nat)(K2:St->Option PV):gE (cA lF) dB fu false sK p12 (fun st=>C2 (dB.loop.lookup 0) st K) (rK s A (j:Int) a) (fun st=>C2 (dB.loop.lookup 12) st K2)=
  bif decide ((j:Int)<(s.length:Int))then Z5 s (j:Int) fun v=>bif Y4 v then K2 (rK s A (IntKind.i64.wrap ((j:Int)+1)) a)else D32 s A j a K else D32 s A j a K:=by
 rw[F9f];dsimp only;congr 1;refine vJ fun v hv=>?_;rw[At]at hv;show(nD (v.toNat:Int) 97 122).bind _=_;rw[D41,Aa,Y4]
 cases decide ((97:Int)<=(v.toNat:Int))&&decide ((v.toNat:Int)<=122)with
 |true=>rfl
 |false =>
  simp only[Ar,cond_true];rw[F0 hv];show(nD (v.toNat:Int) 48 57).bind _=_;rw[qH,Aa]
  cases J2 v with
  |true=>rfl
  |false =>
   simp only[Ar,cond_true,Cv];rw[F0 hv]
theorem rO {c d:UInt8}{t:List UInt8}:oJ (c::d::t)=if c=39 then(if d=39 then(oJ t).map fun r=>(39::39::r.1,39::r.2.1,r.2.2)else some ([],[],d::t))else(oJ (d::t)).map fun r=>(c::r.1,c::r.2.1,r.2.2):=rfl
def B7g (s:List UInt8)(j:Nat):Nat:=match oJ (s.drop j)with
 |none=>s.length
 |some r=>j+r.1.length
theorem F0j (hs:s.length<=100000):∀(k j n:Nat),j+k=s.length->k<n->lI F fu p2 2 K n (rK s A (j:Int) a)=E5s F s A a K ((B7g s j:Nat):Int)
 |k,j,0,_,h=>by omega
 |0,j,n+1,hj,_=>by
  unfold lI B7g;rw[R8,aH,Bb (by omega)];dsimp only;rw[B1 (decide_eq_false (by omega)),oJ,show j=s.length by omega]
 |k+1,j,n+1,hj,hn=>by
  have hc:=Ag (l:=s) (i:=j) (by omega);have hd:=Av (l:=s) (i:=j) (by omega);generalize s[j]=c at hc hd;have i1:=fun hk=>F0j hs k (j+1) n (by omega) hk;have i2:=fun hk h1=>F0j hs (k-1) (j+2) n hk h1;unfold lI at i1 i2 ⊢;rw[R8,aH];dsimp only;rw[A4 (decide_eq_true (by omega)),F0 hc,B2 (x:=(j:Int)+1) (by omega) (by omega),show(j:Int)+1=((j+1:Nat):Int)by omega,F0 hc,bne,show((c.toNat:Int)==39)=(c==39)from jG c 39,Bool.not_not]
  by_cases h39:c=39
  ·rw[h39,beq_self_eq_true,Au];rw[h39]at hd;simp only[cond_true,cond_false];rcases hk:s.drop (j+1)with _|⟨d,t⟩
   ·have hk2:=congrArg Bn hk;rw[Ax,Ai]at hk2;rw[decide_eq_false (by omega)];simp only[cond_false];unfold B7g;rw[hd,hk];rfl
   ·have hk2:=congrArg Bn hk;rw[Ax,Ac]at hk2
    have hx:s[j+1]? =some d:=by rw[<-Dl,hk];rfl
    rw[decide_eq_true (by omega),cond_true,F0 hx,show((d.toNat:Int)==39)=(d==39)from jG d 39]
    by_cases hd39:d=39
    ·rw[hd39,beq_self_eq_true,cond_true,B2 (by omega) (by omega),show((j+1:Nat):Int)+1=((j+2:Nat):Int)by omega];have:=i2 (by omega) (by omega);refine this.trans ?_;unfold B7g;rw[hd,hk,rO,if_pos rfl,if_pos hd39]
     have e:s.drop (j+2)=t:=by
      have:=congrArg Fr hk
      rwa [Cu]at this
     rw[e]
     cases oJ t with
     |none=>rfl
     |some r=>simp only[Aq,Ac];congr 2;omega
    ·rw[beq_eq_false_iff_ne.2 hd39,cond_false];unfold B7g;rw[hd,hk,rO,if_pos rfl,if_neg hd39];rfl
  ·rw[beq_eq_false_iff_ne.2 h39,Ar];simp only[cond_true,cond_false];refine(i1 (by omega)).trans ?_;unfold B7g;rw[hd];rcases hk:s.drop (j+1)with _|⟨d,t⟩
   ·rw[show oJ [c]=none by rw[oJ,if_neg h39]];rfl
   ·rw[rO,if_neg h39]
    cases oJ (d::t)with
    |none=>rfl
    |some r=>simp only[Aq,Ac];congr 2;omega
theorem F70 (hs:s.length<=100000){a i:Nat}(ha:a<=i)(hi:i<=s.length):∀(l m:List (List UInt8)) (n:Nat) (kn:Bool),R7=m++l->l.length<n->
  lI F fu p10 10 K n (C7f s A (i:Int) (a:Int) kn (some false) R7.length (R7.flatMap pB) (m.length:Int))=F2p s A (i:Int) (a:Int) K (kn||D1 l ((s.drop a).take (i-a)))
 |l,m,0,_,_,h=>by omega
 |[],m,n+1,kn,hm,_=>by
  unfold lI;rw[R8,F4m,B1 (decide_eq_false (by rw[hm,Bf];omega))]
  cases kn<;>rfl
 |w::l,m,n+1,kn,hm,hn=>by
  have hlen:R7.length=m.length+(l.length+1):=by rw[hm,Af,Ac]
  have hx:R7[m.length]? =some w:=by rw[hm,List.getElem?_append_right (Ak _),Nat.sub_self];rfl
  have ih:=fun kn=>F70 hs ha hi l (m++[w]) n kn (by rw[hm,Al];rfl) (by simp only[Ac]at hn;omega);have h44:R7.length=44:=rfl;unfold lI at ih ⊢;rw[R8,F4m,A4 (decide_eq_true (by omega)),X0,A4 (by rw[decide_eq_true (by omega),decide_eq_true (by omega)];rfl),At,jK A0y hx,B2 (by omega) (by omega),show(m.length:Int)+1=((m++[w]).length:Int)by rw[Af];simp];simp only[pB,Eb,Aa,PV.asStr]
  cases kn with
  |false =>
   rw[Ar,cond_true,tI ha hi];refine(ih _).trans ?_;rw[Cv]
   have:((s.drop a).take (i-a)==w)=(w==(s.drop a).take (i-a)):=by rw[Df,beq_iff_eq,beq_iff_eq,eq_comm]
   rw[show D1 (w::l) ((s.drop a).take (i-a))=((s.drop a).take (i-a)==w||D1 l ((s.drop a).take (i-a)))from rfl,this]
  |true =>
   rw[Au,cond_false];exact ih true
end
theorem B16 {r u:List UInt8}(h:Dbl r u){x:List UInt8}(hx:x.head?≠some 39):oJ (r++39::x)=some (r,u,x):=by
 induction h with
 |nil =>
  rcases x with _|⟨d,t⟩
  ·rfl
  ·have:d≠39:=by simpa using hx
   rw[List.nil_append,rO,if_pos rfl,if_neg this]
 |q h ih=>rw[Bk,Bk,rO,if_pos rfl,if_pos rfl,ih];rfl
 | @c c r u hc h ih =>
  rw[Bk];rcases hr:r++39::x with _|⟨d,t⟩
  ·cases r<;>cases hr
  ·rw[rO,if_neg hc,<-hr,ih];rfl
theorem C12 {r u:List UInt8}(h:Dbl r u)(hl:r.length<=4000):B6q (39::(r++[39]))=some u:=by
 rw[B6q,if_pos rfl,B16 h (by simp),Aa];rw[A4];simp only[List.isEmpty_nil,Ba,decide_eq_true_eq,Af,Ac,Ai];omega
theorem D4d {s:List UInt8}{a j:Nat}(ha:a<=j)(hj:j<=s.length){r x:List UInt8}(h:s.drop j=r++39::x):(s.drop a).take (j+r.length+1-a)=(s.drop a).take (j-a)++(r++[39]):=by
 have e:s.drop a=(s.drop a).take (j-a)++(r++39::x):=by
  rw[<-h,show j=a+(j-a)by omega,<-Dr,show a+(j-a)-a=j-a by omega,List.take_append_drop]
 have hl:((s.drop a).take (j-a)).length=j-a:=by rw[Cf,Ax];omega
 generalize(s.drop a).take (j-a)=p at e hl;rw[e,show j+r.length+1-a=p.length+(r.length+1)by omega,List.take_length_add_append];congr 1;rw[show r++39::x=(r++[39])++x by simp,List.take_left' (by simp)]
theorem B1s (s:List UInt8):H9 s <+:s:=by
 have hp:=List.takeWhile_append_dropWhile (p:=J2) (l:=s);have hpre:=Fc (p:=J2) (l:=s)
 have hs:s.takeWhile J2++s.drop (s.takeWhile J2).length=s:=by
  have:=List.take_append_drop (s.takeWhile J2).length s
  rwa [A8i]at this
 unfold H9;split
 ·rename_i v w t h
  cases hc:v==46&&J2 w with
  |false=>exact hpre
  |true =>
   rw[Ae,beq_iff_eq]at hc;rw[h,hc.1]at hs;rw[cond_true]
   conv=>rhs;rw[<-hs]
   rw[List.prefix_append_right_inj,List.cons_prefix_cons];exact⟨rfl,Fc _⟩
 ·exact hpre
section
variable {fu:Nat} {s:List UInt8} {A:TA} {K:St->Option PV}
def qR (s:List UInt8)(A:TA)(K:St->Option PV)(i:Nat)(o:Option (TR×Nat)):Option PV:=match o with
 |none=>l2F i
 |some r=>B40 s A K ⟨r.1.k,i,r.1.t,r.1.vk,r.1.vn,r.1.vc,r.1.vs⟩ ((i+r.2:Nat):Int)
theorem E48 (hs:s.length<=2000)(hfu:s.length<fu){a j:Nat}(ha:a<=j)(hj:j<=s.length){V:List UInt8->cX×Bool}(hV:∀r u,Dbl r u->r.length<=2000->rvD ((s.drop a).take (j-a)++(r++[39]))=some (V u)) :
  lI lF fu p2 2 K fu (rK s A (j:Int) (a:Int))=qR s A K a ((oJ (s.drop j)).bind fun r=>bif(V r.2.1).2 then some (A3q (V r.2.1).1,r.1.length+(j-a)+1)else none):=by
 rw[F0j (by omega) (s.length-j) j fu (by omega) (by omega)];unfold B7g
 cases hq:oJ (s.drop j)with
 |none =>
  dsimp only;unfold E5s;rw[A4 (decide_eq_true (Int.le_refl _))];rfl
 |some q =>
  obtain⟨h1,h2,h3⟩:=iX _ _ q.1 q.2.1 q.2.2 (Ak _) hq;have hl:=congrArg Bn h2;rw[Ax,Af,Ac]at hl;dsimp only;unfold E5s;rw[B1 (decide_eq_false (by omega)),B2 (by omega) (by omega),show((j+q.1.length:Nat):Int)+1=((j+q.1.length+1:Nat):Int)by omega,tI (by omega) (by omega),D4d ha hj h2];show(rvD _).bind _=_;rw[hV q.1 q.2.1 h1 (by omega),Aa,Aa]
  cases(V q.2.1).2 with
  |false=>rfl
  |true =>
   simp only[Au,cond_false,cond_true,qR,A3q];rw[show a+(q.1.length+(j-a)+1)=j+q.1.length+1 by omega]
theorem E0e (hs:s.length<=2000){a e:Nat}(ha:a<=e)(he:e<=s.length){x:List UInt8}(hx:(s.drop a).take (e-a)=x):A2i lF s A (a:Int) K (e:Int)=qR s A K a ((S5 x).map fun p=>(jI p,e-a)):=by
 have hxl:x.length<=4000:=by rw[<-hx,Cf,Ax];omega
 unfold A2i;rw[tI ha he,hx];show(pQ x).bind _=_;unfold pQ;rw[A4 (decide_eq_true hxl),Aa]
 cases S5 x with
 |none=>rfl
 |some p =>
  simp only[Option.elim_some,Option.isSome_some,Au,cond_false,Aq,qR,jI];show(bif decide ((0:Int)<(p.2:Int))then _ else _)=_;rw[show decide ((0:Int)<(p.2:Int))=decide (0<p.2)by by_cases h:0<p.2<;>simp[h],show a+(e-a)=e by omega]
  cases decide (0<p.2)<;>rfl
theorem E2t (hs:s.length<=2000)(hfu:s.length<fu){i:Nat}(hi:i<=s.length):lI lF fu p4 4 K fu (rK s A (i:Int) (i:Int))=qR s A K i ((S5 (H9 (s.drop i))).map fun p=>(jI p,(H9 (s.drop i)).length)):=by
 rw[C99 (p:=J2) (E:=fun j=>C6h lF fu s A j i K) F6o (by omega) (s.length-i) i fu (by omega) (by omega)];have h1:=iN (p:=J2) (s.drop i);rw[Ax]at h1;have hpre:=B1s (s.drop i);have hnl:=hpre.length_le;rw[Ax]at hnl
 have hend:∀e:Nat,e=i+(H9 (s.drop i)).length->A2i lF s A (i:Int) K (e:Int)=qR s A K i ((S5 (H9 (s.drop i))).map fun p=>(jI p,(H9 (s.drop i)).length)):=fun e he=>by
  rw[E0e hs (a:=i) (e:=e) (x:=H9 (s.drop i)) (by omega) (by omega) (by rw[he,show i+(H9 (s.drop i)).length-i=(H9 (s.drop i)).length by omega];exact(List.prefix_iff_eq_take.1 hpre).symm),he,show i+(H9 (s.drop i)).length-i=(H9 (s.drop i)).length by omega]
 generalize hm:((s.drop i).takeWhile J2).length=m at h1 ⊢
 have hdd:(s.drop i).drop m=s.drop (i+m):=by rw[Dr]
 unfold C6h
 have hnt:H9 (s.drop i)=match s.drop (i+m)with
  |v::w::t=>bif v==46&&J2 w then(s.drop i).takeWhile J2++46::(w::t).takeWhile J2 else(s.drop i).takeWhile J2
  |_=>(s.drop i).takeWhile J2:=by
  unfold H9;rw[hm,hdd];rcases s.drop (i+m)with _|⟨v,_|⟨w,t⟩⟩<;>rfl
 rw[B2 (x:=((i+m:Nat):Int)+1) (by omega) (by omega),show((i+m:Nat):Int)+1=((i+m+1:Nat):Int)by omega];rcases hk:s.drop (i+m)with _|⟨v,_|⟨w,t⟩⟩
 ·have:=congrArg Bn hk;rw[Ax,Ai]at this;rw[B1 (decide_eq_false (by omega))];refine hend _ ?_;rw[hnt,hk,hm]
 ·have:=congrArg Bn hk;rw[Ax,Ac,Ai]at this;rw[B1 (decide_eq_false (by omega))];refine hend _ ?_;rw[hnt,hk,hm]
 ·have h2:=congrArg Bn hk;rw[Ax,Ac,Ac]at h2
  have hv:s[i+m]? =some v:=by rw[<-Dl,hk];rfl
  have hk1:s.drop (i+m+1)=w::t:=by
   have:=congrArg Fr hk
   rwa [Cu]at this
  have hw:s[i+m+1]? =some w:=by rw[<-Dl,hk1];rfl
  rw[A4 (decide_eq_true (by omega)),F0 hv,show((v.toNat:Int)==46)=(v==46)from jG v 46];rw[hk]at hnt;dsimp only at hnt
  cases hv46:v==46 with
  |false =>
   rw[hv46,Cs,cond_false]at hnt;rw[cond_false];refine hend _ ?_;rw[hnt,hm]
  |true =>
   rw[cond_true,F0 hw];show(nD (w.toNat:Int) 48 57).bind _=_;rw[qH,Aa]
   cases hlw:J2 w with
   |false =>
    rw[hv46,hlw,Ba,cond_false]at hnt;rw[cond_false];refine hend _ ?_;rw[hnt,hm]
   |true =>
    rw[hv46,hlw,Ba,cond_true]at hnt;rw[cond_true,C99 (p:=J2) (E:=fun j=>A2i lF s A i K j) F6h (by omega) (s.length-(i+m+1)) (i+m+1) fu (by omega) (by omega),hk1];refine hend _ ?_;rw[hnt,Af,Ac,hm];omega
theorem E1w (hs:s.length<=2000)(hfu:s.length+50<fu){i:Nat}(hi:i<=s.length):lI lF fu p8 8 K fu (rK s A (i:Int) (i:Int))=qR s A K i (bif D1 R7 ((s.drop i).takeWhile P3)then some (⟨1,0,(s.drop i).takeWhile P3,0,0,0,[]⟩,((s.drop i).takeWhile P3).length)else none):=by
 rw[C99 (p:=P3) (E:=fun j=>E38 lF fu s A i K j) F4v (by omega) (s.length-i) i fu (by omega) (by omega)];have h1:=iN (p:=P3) (s.drop i);rw[Ax]at h1;have htk:=A8i (p:=P3) (s.drop i);generalize(s.drop i).takeWhile P3=x at h1 htk ⊢;unfold E38;show(some _).bind _=_;rw[Aa];have:=F70 (F:=lF) (fu:=fu) (A:=A) (K:=K) (s:=s) (by omega) (a:=i) (i:=i+x.length) (by omega) (by omega) R7 [] fu false rfl (by show 44<fu;omega);refine this.trans ?_;rw[show i+x.length-i=x.length by omega,htk,Cv];unfold F2p
 cases D1 R7 x with
 |false=>rfl
 |true =>
  simp only[Au,cond_false,cond_true,qR];rw[tI (by omega) (by omega),show i+x.length-i=x.length by omega,htk]
theorem E01 (hs:s.length<=2000)(hfu:s.length<fu){i:Nat}(hi:i<=s.length):lI lF fu p12 12 K fu (rK s A (i:Int) (i:Int))=qR s A K i (bif decide (((s.drop i).takeWhile Y4).length<=24)then some (⟨0,0,(s.drop i).takeWhile Y4,0,0,0,[]⟩,((s.drop i).takeWhile Y4).length)else none):=by
 rw[C99 (p:=Y4) (E:=fun j=>D32 s A j i K) F1i (by omega) (s.length-i) i fu (by omega) (by omega)];have h1:=iN (p:=Y4) (s.drop i);rw[Ax]at h1;have htk:=A8i (p:=Y4) (s.drop i);generalize(s.drop i).takeWhile Y4=x at h1 htk ⊢;unfold D32;rw[B2 (by omega) (by omega),show((i+x.length:Nat):Int)-(i:Int)=(x.length:Int)by omega]
 by_cases h:x.length<=24
 ·rw[B1 (decide_eq_false (by omega)),A4 (decide_eq_true h),tI (by omega) (by omega),show i+x.length-i=x.length by omega,htk];rfl
 ·rw[A4 (decide_eq_true (by omega)),B1 (decide_eq_false h)];rfl
theorem C9u {S:Type}(v:Int)(x y:S):∀l:List Int,orI v x y l=bif l.any (fun c=>v==c)then x else y
 |[]=>rfl
 |[c]=>by
  rw[orI,Cj,Eg,Co]
 |c::d::l=>by
  have e:orI v x y (c::d::l)=bif v==c then(bif v==c then x else y)else orI v x y (d::l):=rfl;have e2:(c::d::l).any (fun c=>v==c)=(v==c||(d::l).any fun c=>v==c):=rfl;rw[e,C9u v x y (d::l),e2]
  cases v==c<;>rfl
theorem D9x:∀n:Fin 256,n.val≠60->n.val≠62->([40,41,44,46,43,45,42,47,37,61].any fun c:Int=>(n.val:Int)==c)=sgC (UInt8.ofNat n.val):=by decide +kernel
theorem E9b {c:UInt8}(h1:c≠60)(h2:c≠62):([40,41,44,46,43,45,42,47,37,61].any fun d:Int=>(c.toNat:Int)==d)=sgC c:=by
 have:=D9x ⟨c.toNat,c.toNat_lt⟩ (fun h=>h1 (Du.1 h)) (fun h=>h2 (Du.1 h));simpa using this
theorem E9z (c d:UInt8):D1 sg2 [c,d]=((c==60&&(d==61||d==62))||(c==62&&d==61)):=by
 rw[Df,A2q];simp only[sg2,Be,List.cons.injEq,and_true,Cz,or_false,Cc,Ae,beq_iff_eq];constructor
 ·rintro(h|h|h)<;>simp[h.1,h.2]
 ·rintro(⟨h1,h2|h2⟩|⟨h1,h2⟩)<;>simp[h1,h2]
theorem E6c {i:Nat}{c:UInt8}{t:List UInt8}(hd:s.drop i=c::t)(hi:i<s.length):B34 s A (i:Int) K ((i+1:Nat):Int)=qR s A K i (some (⟨3,0,[c],0,0,0,[]⟩,1)):=by
 unfold B34;rw[tI (by omega) (by omega),show i+1-i=1 by omega,hd];rfl
theorem E5b {i:Nat}{c d:UInt8}{t:List UInt8}(hd:s.drop i=c::d::t)(hi:i+1<s.length):B34 s A (i:Int) K ((i+2:Nat):Int)=qR s A K i (some (⟨3,0,[c,d],0,0,0,[]⟩,2)):=by
 unfold B34;rw[tI (by omega) (by omega),show i+2-i=2 by omega,hd];rfl
theorem C97 (hs:s.length<=2000){i:Nat}{c:UInt8}{t:List UInt8}(hd:s.drop i=c::t)(hi:i<s.length)(n:Int) :
  sgE s A ((i+1:Nat):Int) (i:Int) K (c.toNat:Int) n=bif(c==60&&(n==61||n==62))||(c==62&&n==61)then B34 s A (i:Int) K ((i+2:Nat):Int)else qR s A K i (bif sgC c then some (⟨3,0,[c],0,0,0,[]⟩,1)else none):=by
 unfold sgE;dsimp only;rw[C9u,E6c hd hi,B2 (by omega) (by omega),show((i+1:Nat):Int)+1=((i+2:Nat):Int)by omega,show((c.toNat:Int)==60)=(c==60)from jG c 60,show((c.toNat:Int)==62)=(c==62)from jG c 62]
 by_cases h60:c=60
 ·subst h60;rw[show sgC 60=true from by decide];simp only[beq_self_eq_true,cond_true,Ba]
  cases n==61<;>cases n==62<;>rfl
 ·rw[beq_eq_false_iff_ne.2 h60]
  by_cases h62:c=62
  ·subst h62;rw[show sgC 62=true from by decide];simp only[beq_self_eq_true,cond_true,cond_false,Ba,Cs,Cv]
   cases n==61<;>rfl
  ·rw[beq_eq_false_iff_ne.2 h62,E9b h60 h62];simp only[cond_false,Cs,Cv]
   cases sgC c<;>rfl
theorem E3m (hs:s.length<=2000){i:Nat}{c:UInt8}{t:List UInt8}(hd:s.drop i=c::t)(hi:i<s.length):B08 s A (i:Int) (i:Int) K (c.toNat:Int)=qR s A K i (jU (c::t)):=by
 have hl:=congrArg Bn hd;rw[Ax,Ac]at hl;unfold B08;rw[B2 (by omega) (by omega),show(i:Int)+1=((i+1:Nat):Int)by omega];rcases t with _|⟨d,t⟩
 ·rw[B1 (decide_eq_false (by simp at hl;omega)),C97 hs hd hi,jU];rw[B1];simp
 ·simp only[Ac]at hl
  have hx:s[i+1]? =some d:=by
   rw[<-Dl];have:=congrArg Fr hd;rw[Cu]at this;rw[this];rfl
  rw[A4 (decide_eq_true (by omega)),F0 hx,C97 hs hd hi,show((d.toNat:Int)==61)=(d==61)from jG d 61,show((d.toNat:Int)==62)=(d==62)from jG d 62,<-E9z,E5b hd (by omega),jU]
  cases D1 sg2 [c,d]<;>rfl
theorem B0r (hs:s.length<=2000)(hfu:s.length+50<fu){i:Nat}{c:UInt8}{t:List UInt8}(hd:s.drop i=c::t)(hi:i<s.length)(h39:c≠39)(h88:¬(c=88/\t.head? =some 39)) :
  E0o lF s A (i:Int) (nmP (cA lF) dB fu sK fun st=>C2 (dB.loop.lookup 0) st K) (fun v=>B08 s A (i:Int) (i:Int) K v) (c.toNat:Int)=qR s A K i (fU (c::t)):=by
 unfold E0o;rw[fU,if_neg h39,if_neg h88];show(nD (c.toNat:Int) 48 57).bind _=_;rw[qH,Aa]
 cases h1:J2 c with
 |true =>
  rw[cond_true,if_pos rfl,<-hd];exact E2t hs (by omega) (by omega)
 |false =>
  rw[cond_false,if_neg (by simp)];show(nD (c.toNat:Int) 65 90).bind _=_;rw[B5g,Aa]
  cases h2:P3 c with
  |true =>
   rw[cond_true,if_pos rfl,<-hd];exact E1w hs hfu (by omega)
  |false =>
   rw[cond_false,if_neg (by simp)];show(nD (c.toNat:Int) 97 122).bind _=_;rw[D41,Aa]
   have e:Y4 c=bif decide (97<=(c.toNat:Int))&&decide ((c.toNat:Int)<=122)then true else(c.toNat:Int)==95:=by
    unfold Y4;rw[h1]
    cases decide (97<=(c.toNat:Int))&&decide ((c.toNat:Int)<=122)<;>rfl
   cases h3:decide (97<=(c.toNat:Int))&&decide ((c.toNat:Int)<=122)with
   |true =>
    rw[h3,cond_true]at e;rw[cond_true,if_pos ⟨e,fun h=>by rw[h]at h3;revert h3;decide⟩,<-hd];exact E01 hs (by omega) (by omega)
   |false =>
    rw[h3,cond_false]at e;rw[cond_false,if_neg]
    ·exact E3m hs hd hi
    ·rintro⟨h4,h5⟩
     rw[e,show((c.toNat:Int)==95)=(c==95)from jG c 95]at h4;exact h5 (eq_of_beq h4)
theorem E04 (hs:s.length<=2000)(hfu:s.length+50<fu){i:Nat}{c:UInt8}{t:List UInt8}(hd:s.drop i=c::t)(hi:i<s.length) :
  D71 lF s A (i:Int) K (nmP (cA lF) dB fu sK fun st=>C2 (dB.loop.lookup 0) st K) (fun v=>B08 s A (i:Int) (i:Int) K v)=if c=32\/c=10 then K (frL s A ((i+1:Nat):Int))else qR s A K i (fU (c::t)):=by
 have hl:=congrArg Bn hd;rw[Ax,Ac]at hl
 have hc:s[i]? =some c:=by rw[<-Dl,hd];rfl
 have hd1:s.drop (i+1)=t:=by
  have:=congrArg Fr hd
  rwa [Cu]at this
 unfold D71;rw[A4 (decide_eq_true (by omega)),F0 hc,B2 (x:=(i:Int)+1) (by omega) (by omega),show(i:Int)+1=((i+1:Nat):Int)by omega,show((c.toNat:Int)==32)=(c==32)from jG c 32,show((c.toNat:Int)==10)=(c==10)from jG c 10,show((c.toNat:Int)==39)=(c==39)from jG c 39,show((c.toNat:Int)==88)=(c==88)from jG c 88]
 by_cases h32:c=32
 ·rw[if_pos (Fb h32),h32];rfl
 by_cases h10:c=10
 ·rw[if_pos (Cp h10),h10];rfl
 rw[if_neg (by rintro(h|h);exact h32 h;exact h10 h),beq_eq_false_iff_ne.2 h32,beq_eq_false_iff_ne.2 h10];simp only[cond_false]
 have hstr:∀{a j:Nat} {V:List UInt8->cX×Bool},a<=j->j<=s.length->(∀r u,Dbl r u->r.length<=2000->rvD ((s.drop a).take (j-a)++(r++[39]))=some (V u))->
  nmP (cA lF) dB fu sK (fun st=>C2 (dB.loop.lookup 0) st K) p2 2 (rK s A (j:Int) (a:Int))=qR s A K a ((oJ (s.drop j)).bind fun r=>bif(V r.2.1).2 then some (A3q (V r.2.1).1,r.1.length+(j-a)+1)else none):=fun ha hj hV=>E48 hs (by omega) ha hj hV
 by_cases h39:c=39
 ·subst h39;simp only[beq_self_eq_true,Au,cond_false,cond_true];unfold E45;rw[show(((39:UInt8).toNat:Int)==88)=false from by decide,cond_false,B2 (by omega) (by omega),show(i:Int)+1=((i+1:Nat):Int)by omega,hstr (V:=A06) (by omega) (by omega),hd1,fU,if_pos rfl]
  ·congr 1;congr 1;funext r;rw[show i+1-i=1 by omega]
  ·intro r u hru hr;rw[show i+1-i=1 by omega,hd];show rvD (39::(r++[39]))=_;rw[rvD,if_pos rfl,C12 hru (by omega)];rfl
 rw[beq_eq_false_iff_ne.2 h39];simp only[Ar,cond_true,cond_false]
 by_cases h88:c=88
 ·subst h88;simp only[beq_self_eq_true,cond_true];rcases t with _|⟨d,t⟩
  ·rw[decide_eq_false (by simp at hl;omega)];simp only[cond_false];exact B0r hs hfu hd hi (by decide) (by simp)
  ·simp only[Ac]at hl
   have hx:s[i+1]? =some d:=by rw[<-Dl,hd1];rfl
   rw[decide_eq_true (by omega),cond_true,F0 hx,show((d.toNat:Int)==39)=(d==39)from jG d 39]
   by_cases hd39:d=39
   ·subst hd39;rw[beq_self_eq_true,cond_true]
    have hd2:s.drop (i+2)=t:=by
     have:=congrArg Fr hd1
     rwa [Cu]at this
    unfold E45;rw[show(((88:UInt8).toNat:Int)==88)=true from by decide,cond_true,B2 (x:=(i:Int)+1) (by omega) (by omega),B2 (by omega) (by omega),show(i:Int)+1+1=((i+2:Nat):Int)by omega,hstr (V:=zW) (by omega) (by omega),hd2,fU,if_neg (by decide),if_pos ⟨rfl,rfl⟩,List.tail_cons]
    ·congr 1;congr 1;funext r;rw[show i+2-i=2 by omega]
    ·intro r u hru hr;rw[show i+2-i=2 by omega,hd];show rvD (88::39::(r++[39]))=_;rw[rvD,if_neg (by decide),if_pos rfl,C12 hru (by omega)];rfl
   ·rw[beq_eq_false_iff_ne.2 hd39,cond_false];exact B0r hs hfu hd hi (by decide) (by simpa using hd39)
 ·rw[beq_eq_false_iff_ne.2 h88];simp only[cond_false];exact B0r hs hfu hd hi h39 fun h=>h88 h.1
end
theorem E6t:E0 F6 Ws [(55,A8x rvD),(56,tIn nD),(57,tD3 pQ),(58,A59 yY)] :=
 A0 F0m (A0 E25 (A0 B5e (A0 E99 A2)))
theorem F20:(cA lF).nat:=(jZ D4 E6t A7 B3).nat
open Classical in
noncomputable def sgG (K:St->Option PV) (vs:List TV) (ws:List (Option (List TV))):Option PV :=
 match vs with
 |[(.str s,_),(.sl no _ lo co,_),(.int _ i,_),(.int _ v,_),(.int _ a,_),_]=>
  if vs=[(.str s,0),(.sl no 7 lo co,319),(.int .i64 i,0),(.int .u8 v,0),(.int .i64 a,0),(.ptr 9 0,0)]/\ws=[some (tzB a)]then B08 s ⟨no,lo,co⟩ i a K v else none
 |_=>none
theorem E9c (K:St->Option PV)(s:List UInt8)(A:TA)(i v a:Int):sgG K [(.str s,0),(A.sl,319),(.int .i64 i,0),(.int .u8 v,0),(.int .i64 a,0),(.ptr 9 0,0)] [some (tzB a)]=B08 s A i a K v:=by
 unfold sgG TA.sl;exact if_pos ⟨rfl,rfl⟩
theorem E16 {K:St->Option PV}{vs:List TV}{ws:List (Option (List TV))}{q:PV}(h:sgG K vs ws=some q):∃s A i v a,vs=[(.str s,0),(A.sl,319),(.int .i64 i,0),(.int .u8 v,0),(.int .i64 a,0),(.ptr 9 0,0)]/\ws=[some (tzB a)]/\B08 s A i a K v=some q:=by
 unfold sgG at h;split at h
 ·rename_i s _ no _ lo co _ _ i _ _ v _ _ a _ _;split at h
  ·rename_i h1;exact⟨s,⟨no,lo,co⟩,i,v,a,h1.1,h1.2,h⟩
  ·cases h
 ·cases h
theorem nr0:S0 (oB (p0++[0]) (sK.body.getD .skip))=true:=by kernel_rfl
theorem E3q {fu:Nat}{s:List UInt8}{A:TA}{i:Int}{K:St->Option PV}{r:PV}(h:D71 lF s A i K (nmP (cA lF) dB fu sK fun st=>C2 (dB.loop.lookup 0) st K) (fun v=>B08 s A i i K v)=some r) :
  P1 (cA lF) dB fu false sK p0 (frL s A i) (fun st=>C2 (dB.loop.lookup 0) st K)=some r:=by
 have e:P1 (cA lF) dB fu false sK p0 (frL s A i) (fun st=>C2 (dB.loop.lookup 0) st K)=E6z (cA lF) dB fu (iA (cA lF) false sK) (nmP (cA lF) dB fu sK fun st=>C2 (dB.loop.lookup 0) st K) sK p0 0 [(0,A7m lF fu)] (frL s A i) (fun st=>C2 (dB.loop.lookup 0) st K):=mB (by kernel_rfl);rw[e];refine C7l (cA lF) dB fu (iA (cA lF) false sK) _ sK p0 0 [(0,A7m lF fu)] F20 (p:=pSg) (KM:=rdK 312 312 [0,5,6,7,8,9] [9] (sgG K)) nr0 ?_ ?_
 ·intro st q hq;obtain⟨vs,ws,g,gb,h1,rfl⟩:=E3x hq;obtain⟨s,A,i,v,a,rfl,rfl,h2⟩:=E16 h1;exact(F9l lF fu s A i a K _ v g gb).trans h2
 ·rw[F9m];simp only[E9c];exact h
def D2n (acc:List TR)(o:Nat ⊕ List TR):PV:=match o with
 |.inl a=>.tuple [.sl (some true) 7 0 [],.int .i64 (a:Int),.bool false]
 |.inr l=>.tuple [.sl (some (acc++l).isEmpty) 7 (acc++l).length ((acc++l).flatMap TR.cells),.int .i64 0,.bool true]
def E1d (acc:List TR):TA:=⟨some acc.isEmpty,acc.length,acc.flatMap TR.cells⟩
theorem D5b (acc:List TR)(t:TR):(E1d acc).put t=E1d (acc++[t]):=by
 unfold TA.put E1d;simp only[TA.mk.injEq];refine⟨?_,by simp,by simp⟩;show some (acc.isEmpty&&false)=_;rw[Ch];congr 1
 cases acc<;>rfl
theorem A99 (fu:Nat)(s:List UInt8)(hs:s.length<=2000)(hfu:s.length+50<fu):∀(n f i:Nat) (acc:List TR),i<=s.length->s.length<i+n->s.length<i+f->acc.length<=i->
  l0 lF fu n (frL s (E1d acc) (i:Int))=some (D2n acc (cN f i (s.drop i)))
 |0,f,i,acc,hi,hn,_,_=>by omega
 |n+1,0,i,acc,hi,_,hf,_=>by omega
 |n+1,f+1,i,acc,hi,hn,hf,ha=>by
  unfold l0;rw[B6];refine E3q (K:=fun st=>N3 (cA lF) dB fu false sK p0 0 n st) ?_
  by_cases hlt:i<s.length
  ·have hd:=Av hlt;generalize s[i]=c at hd;have skip:=A99 fu s hs hfu n f (i+1) acc hlt (by omega) (by omega) (by omega);unfold l0 at skip;rw[E04 hs hfu hd hlt,hd,cN]
   by_cases hb:c=32\/c=10
   ·rw[if_pos hb,if_pos hb];exact skip
   ·rw[if_neg hb,if_neg hb]
    cases hr:fU (c::s.drop (i+1))with
    |none=>rfl
    |some r =>
     obtain⟨g1,g2,-,-⟩:=uQ hr;rw[<-hd,Ax]at g2;have go:=A99 fu s hs hfu n f (i+r.2) (acc++[⟨r.1.k,i,r.1.t,r.1.vk,r.1.vn,r.1.vc,r.1.vs⟩]) (by omega) (by omega) (by omega) (by rw[Af];simp only[Ac,Ai];omega);unfold l0 at go;simp only[qR];unfold B40;rw[B5t (by show acc.length+1<=_;omega),D5b];refine go.trans ?_;rw[<-hd,Dr]
     cases cN f (i+r.2) (s.drop (i+r.2))with
     |inl a=>rfl
     |inr l=>simp only[D2n,Al];rfl
  ·have:i=s.length:=by omega
   subst this;unfold D71;rw[B1 (decide_eq_false (by omega)),List.drop_length,cN];simp only[D2n,Bf];rfl
def A9i (o:Nat ⊕ List TR):LR:=match o with
 |.inl a=>⟨some true,0,[],a,false⟩
 |.inr l=>⟨some l.isEmpty,l.length,l.flatMap TR.cells,0,true⟩
def C2j (s:List UInt8):Option LR:=some (A9i (oH s))
theorem D24:D8 F6 Ws 24 (tLr C2j) :=
 bG D4 E6t A7 B3 (h:=dB) Tryz.func24 rfl (by decide) (E1m _) fun xs r h=>by
  simp only[tLr]at h;split at h
  ·rename_i s;refine⟨s.length+100,(E2n lF _ s).trans (Cw ?_ h)⟩;unfold C2j oH;rw[Aa]
   by_cases hs:s.length<=2000
   ·rw[B1 (decide_eq_false (by omega)),decide_eq_false (show ¬2000<s.length by omega),cond_false];refine(A99 _ s hs (by omega) (s.length+100) (s.length+1) 0 [] (Nat.zero_le _) (by omega) (by omega) (Ak _)).trans ?_;rw[Bt]
    cases cN (s.length+1) 0 s<;>rfl
   ·rw[A4 (decide_eq_true (by omega)),decide_eq_true (show 2000<s.length by omega),cond_true];rfl
  ·cases h
end Go.Proofs.YtkpfigikffphdaaGreatDoor
end
section
set_option maxRecDepth 1000000
namespace Go.Proofs.YtkpfigikffphdaaGreatDoor
open Go.RowKit Go.Lib
def nmC (i:Nat)(c:UInt8):Bool:=(decide (97<=c.toNat)&&decide (c.toNat<=122))||(i !=0&&(c.toNat==95||(decide (48<=c.toNat)&&decide (c.toNat<=57))))
def nmL:Nat->List UInt8->Bool
 |_,[]=>true
 |i,c::l=>nmC i c&&nmL (i+1) l
def M9 (l:List UInt8):Bool:=nmL 0 l&&(decide (1<=l.length)&&decide (l.length<=24))
theorem E8g {i:Nat}{c:UInt8}(h:(97<=c.toNat/\c.toNat<=122)\/(i≠0/\(c.toNat=95\/(48<=c.toNat/\c.toNat<=57)))):nmC i c=true:=by
 unfold nmC;simp only[Cc,Ae,decide_eq_true_eq,bne_iff_ne,beq_iff_eq];exact h
theorem C9n {i:Nat}{c:UInt8}(h:¬((97<=c.toNat/\c.toNat<=122)\/(i≠0/\(c.toNat=95\/(48<=c.toNat/\c.toNat<=57))))):nmC i c=false:=by
 rw[Bool.eq_false_iff];intro e;unfold nmC at e;simp only[Cc,Ae,decide_eq_true_eq,bne_iff_ne,beq_iff_eq]at e;exact h e
set_option maxHeartbeats 4000000 in
theorem C7y (s:ByteArray) (w:World) :
  Calls Tryz.prog 136 #[.string s] w fun e w'=>e=.returned (.bool (M9 s.data.toList))/\Below w.heap.size w w':=by
 go_enter Tryz.func136,Tryz.ntmps136
 go_wp2
 go_loopw [] (fun w'=>∃pos:Nat,w'=w.iter s pos/\nmL pos (s.data.toList.drop pos)=nmL 0 s.data.toList) (fun w'=>s.size - w'.iterPos w.heap.size)
 case atStart=>exact⟨0,rfl,rfl⟩
 case round =>
  obtain⟨pos,rfl,hb⟩:=hrel;have hbel:∀p,Below w.heap.size w (w.iter s p):=fun p=>(Below.refl _ w).alloc (Ak _) _
  by_cases hp:pos < s.size
  ·obtain⟨c,hc⟩:∃c,s[pos]'hp=c:=⟨_,rfl⟩
   have hd:s.data.toList.drop pos=c ::s.data.toList.drop (pos + 1):=by
    rw [Av (by simpa using hp),<-hc];rfl
   rw [hd,nmL]at hb
   by_cases ha:c.toNat < 128
   ·have hnx :∀ty,(Instr.next (.pointer (some ⟨w.heap.size,0,none⟩)) true ty).run Tryz.prog (w.iter s pos)=_:=fun ty=>run_next_ascii w s pos ty hp (by rw [hc];exact ha);rw [hc]at hnx
    by_cases hP:(97<=c.toNat/\c.toNat<=122)\/(pos≠0/\(c.toNat=95\/(48<=c.toNat/\c.toNat<=57)))
    ·rw [E8g hP,Ba]at hb;rcases Ed pos with rfl |hpos
     ·have h1:(97:Int)<=c.toNat:=by omega
      have h2:(c.toNat:Int)<=122:=by omega
      clear hd
      go_wp2
      all_goals refine⟨⟨_,rfl,hb⟩,?_⟩
      all_goals simp
      all_goals omega
     ·have h3:¬(pos:Int)=0:=by omega
      clear hd
      by_cases h1:(97:Int)<=c.toNat<;>by_cases h2:(c.toNat:Int)<=122<;>by_cases h4:(c.toNat:Int)=95<;>by_cases h5:(c.toNat:Int)< 48<;>by_cases h6:(57:Int)< c.toNat<;>first
       |(exfalso;omega)
       |(go_wp2
         all_goals refine⟨⟨_,rfl,hb⟩,?_⟩
         all_goals simp
         all_goals omega)
    ·rw [C9n hP,Cs]at hb
     have hv:M9 s.data.toList=false:=by unfold M9;rw [<-hb];rfl
     clear hb hd;rcases Ed pos with rfl |hpos
     ·by_cases h1:(97:Int)<=c.toNat<;>by_cases h2:(c.toNat:Int)<=122<;>first
       |(exfalso;omega)
       |(go_wp2
         all_goals go_ret
         all_goals first |exact⟨rfl,hbel _⟩ |exact⟨by rw [hv],hbel _⟩)
     ·have h3:¬(pos:Int)=0:=by omega
      by_cases h1:(97:Int)<=c.toNat<;>by_cases h2:(c.toNat:Int)<=122<;>by_cases h4:(c.toNat:Int)=95<;>by_cases h5:(c.toNat:Int)< 48<;>by_cases h6:(57:Int)< c.toNat<;>first
       |(exfalso;omega)
       |(have h3b:((pos:Int)==0)=false:=beq_eq_false_iff_ne.2 h3
         have h4b:((c.toNat:Int) !=95)=true:=bne_iff_ne.2 h4
         go_wp2
         all_goals go_ret
         all_goals first |exact⟨rfl,hbel _⟩ |exact⟨by rw [hv],hbel _⟩)
   ·have hh:=decode_high s pos hp (by rw [hc];omega);have hnx:∀ty,(Instr.next (.pointer (some ⟨w.heap.size,0,none⟩)) true ty).run Tryz.prog (w.iter s pos)=_:=fun ty=>run_next_any w s pos ty hp;obtain⟨r,hr⟩:∃r,(Utf8.decode s pos).1=r:=⟨_,rfl⟩;obtain⟨q,hq⟩:∃q,pos + (Utf8.decode s pos).2=q:=⟨_,rfl⟩;rw [hr,hq]at hnx;rw [hr]at hh
    have h1:(97:Int)<=r:=by omega
    have h2:¬(r:Int)<=122:=by omega
    have h4:¬(r:Int)=95:=by omega
    have h5:¬(r:Int)< 48:=by omega
    have h6:(57:Int)< r:=by omega
    rw [C9n (by omega),Cs]at hb
    have hv:M9 s.data.toList=false:=by unfold M9;rw [<-hb];rfl
    clear hb hd
    by_cases h3:(pos:Int)=0
    ·go_wp2
     all_goals go_ret
     all_goals first |exact⟨rfl,hbel _⟩ |exact⟨by rw [hv],hbel _⟩
    ·have h3b:((pos:Int)==0)=false:=beq_eq_false_iff_ne.2 h3;have h4b:((r:Int) !=95)=true:=bne_iff_ne.2 h4
     go_wp2
     all_goals go_ret
     all_goals first |exact⟨rfl,hbel _⟩ |exact⟨by rw [hv],hbel _⟩
  ·have hnx:∀ty,(Instr.next (.pointer (some ⟨w.heap.size,0,none⟩)) true ty).run Tryz.prog (w.iter s pos)=_:=fun ty=>run_next_end w s pos ty hp;rw [Bb (by simpa using hp),nmL]at hb
   have hv:M9 s.data.toList=(decide (1<=s.size) && decide (s.size<=24)):=by unfold M9;rw [<-hb];simp
   clear hb
   by_cases h1:(1:Int)<=s.size<;>by_cases h2:(s.size:Int)<=24<;>first
    |(exfalso;omega)
    |(go_wp2
      all_goals go_ret
      all_goals refine⟨?_,hbel _⟩
      all_goals try rw [hv]
      all_goals first
       |(rw [decide_eq_true (show 1<=s.size by omega),decide_eq_true (show s.size<=24 by omega)];rfl)
       |(rw [decide_eq_true (show 1<=s.size by omega),decide_eq_false (show ¬s.size<=24 by omega)];rfl)
       |(rw [decide_eq_false (show ¬1<=s.size by omega)];rfl))
def tNm:D5:=⟨fun xs k=>match xs with|[.str s]=>k (.bool (M9 s))|_=>none,false⟩
theorem D9y:tNm.nat:=by
 intro R xs k;simp only[tNm];split<;>rfl
theorem qC {NG:Nat}{W:World->Prop}:D8 NG W 136 tNm :=
 W7 Tryz.func136 rfl (by decide) D9y rfl fun xs r M vs hW h hr=>by
  simp only[tNm]at h;split at h
  ·rename_i s;injection h with h;subst h;obtain⟨v,rfl,hv⟩:=A23 hr;simp only[B7]at hv;subst hv;refine(C7y ⟨s.toArray⟩ M.w).mono ?_
   rintro e w' ⟨rfl,hb⟩
   refine⟨_,rfl,hb,fun U' _=>?_⟩;simp only[B7]
  ·cases h
end Go.Proofs.YtkpfigikffphdaaGreatDoor
end
section
set_option maxRecDepth 100000
namespace Go.Proofs.YtkpfigikffphdaaGreatDoor
open Go.RowKit
theorem F4 {α β:Type}{c:Prop}[Decidable c]{x:Option α}{g:α->Option β}:(if c then x else none).bind g=if c then x.bind g else none:=by split<;>rfl
section
variable {NG:Nat} {W:World->Prop}
def tWb (f:List UInt8->Option (Bool)):D5:=⟨fun xs k=>match xs with|[.str s]=>(f s).bind fun r=>k (.bool r)|_=>none,false⟩
theorem C1w (f:List UInt8->Option (Bool)):(tWb f).nat:=by
 intro R xs k;simp only[tWb];split
 ·simp only[F3,F4,Ad,Aa]
 ·rfl
theorem A95 (hW:Y0 NG W){l:List (FuncId×D5)}(hl:E0 NG W l){lh:List (FuncId×H7)}(hh:I9 NG W lh){h:B4}{f:FuncId}{fn:Func}(hf:Tryz.prog.funcs[f]? =some fn)(hb:fn.body.isSome=true)(hname:fn.name≠ "runtime.NumGoroutine"){g:List UInt8->Option (Bool)}(hr:∀(s:List UInt8) r,g s=some r->∃fu,C6 (F8 l lh []) h fu false fn [.str s]=some (.bool r)):D8 NG W f (tWb g) :=
 bG hW hl hh B3 (h:=h) hf hb hname (C1w g) fun xs r h=>by
  simp only[tWb]at h;split at h
  ·obtain⟨qq,hq,hend⟩:=Ab.1 h;obtain⟨fu,hr⟩:=hr _ _ hq;exact⟨fu,hr.trans hend⟩
  ·cases h
def tTb (f:Int->Int->Option (Bool)):D5:=⟨fun xs k=>match xs with|[.agg [.int .i64 a,.int .i64 b]]=>(f a b).bind fun r=>k (.bool r)|_=>none,false⟩
theorem C1e (f:Int->Int->Option (Bool)):(tTb f).nat:=by
 intro R xs k;simp only[tTb];split
 ·simp only[F3,F4,Ad,Aa]
 ·rfl
def tXX (f:XR->XR->Option (Bool)):D5:=⟨fun xs k=>match xs with|[xe,xd]=>lT xe fun e=>lT xd fun d=>(f e d).bind fun r=>k (.bool r)|_=>none,false⟩
theorem C1k (f:XR->XR->Option (Bool)):(tXX f).nat:=by
 intro R xs k;simp only[tXX];split
 ·simp only[F3,F4,Ad,Aa]
 ·rfl
theorem C1s (hW:Y0 NG W){l:List (FuncId×D5)}(hl:E0 NG W l){lh:List (FuncId×H7)}(hh:I9 NG W lh){h:B4}{f:FuncId}{fn:Func}(hf:Tryz.prog.funcs[f]? =some fn)(hb:fn.body.isSome=true)(hname:fn.name≠ "runtime.NumGoroutine"){g:XR->XR->Option (Bool)}(hr:∀(e:XR) (d:XR) r,g e d=some r->∃fu,C6 (F8 l lh []) h fu false fn [.agg e.cells,.agg d.cells]=some (.bool r)):D8 NG W f (tXX g) :=
 bG hW hl hh B3 (h:=h) hf hb hname (C1k g) fun xs r h=>by
  simp only[tXX]at h;split at h
  ·obtain⟨e,hxe,h0⟩:=I5 h;subst hxe;obtain⟨d,hxd,h1⟩:=I5 h0;subst hxd;obtain⟨qq,hq,hend⟩:=Ab.1 h1;obtain⟨fu,hr⟩:=hr _ _ _ hq;exact⟨fu,hr.trans hend⟩
  ·cases h
def A5c (f:XR->XR->Bool->Option (Bool)):D5:=⟨fun xs k=>match xs with|[xe,xd,.bool p]=>lT xe fun e=>lT xd fun d=>(f e d p).bind fun r=>k (.bool r)|_=>none,false⟩
theorem B3o (f:XR->XR->Bool->Option (Bool)):(A5c f).nat:=by
 intro R xs k;simp only[A5c];split
 ·simp only[F3,F4,Ad,Aa]
 ·rfl
theorem D5f (hW:Y0 NG W){l:List (FuncId×D5)}(hl:E0 NG W l){lh:List (FuncId×H7)}(hh:I9 NG W lh){h:B4}{f:FuncId}{fn:Func}(hf:Tryz.prog.funcs[f]? =some fn)(hb:fn.body.isSome=true)(hname:fn.name≠ "runtime.NumGoroutine"){g:XR->XR->Bool->Option (Bool)}(hr:∀(e:XR) (d:XR) (p:Bool) r,g e d p=some r->∃fu,C6 (F8 l lh []) h fu false fn [.agg e.cells,.agg d.cells,.bool p]=some (.bool r)):D8 NG W f (A5c g) :=
 bG hW hl hh B3 (h:=h) hf hb hname (B3o g) fun xs r h=>by
  simp only[A5c]at h;split at h
  ·obtain⟨e,hxe,h0⟩:=I5 h;subst hxe;obtain⟨d,hxd,h1⟩:=I5 h0;subst hxd;obtain⟨qq,hq,hend⟩:=Ab.1 h1;obtain⟨fu,hr⟩:=hr _ _ _ _ hq;exact⟨fu,hr.trans hend⟩
  ·cases h
def tXb (f:XR->Option (Bool)):D5:=⟨fun xs k=>match xs with|[xe]=>lT xe fun e=>(f e).bind fun r=>k (.bool r)|_=>none,false⟩
theorem E4p (f:XR->Option (Bool)):(tXb f).nat:=by
 intro R xs k;simp only[tXb];split
 ·simp only[F3,F4,Ad,Aa]
 ·rfl
theorem A8c (hW:Y0 NG W){l:List (FuncId×D5)}(hl:E0 NG W l){lh:List (FuncId×H7)}(hh:I9 NG W lh){h:B4}{f:FuncId}{fn:Func}(hf:Tryz.prog.funcs[f]? =some fn)(hb:fn.body.isSome=true)(hname:fn.name≠ "runtime.NumGoroutine"){g:XR->Option (Bool)}(hr:∀(e:XR) r,g e=some r->∃fu,C6 (F8 l lh []) h fu false fn [.agg e.cells]=some (.bool r)):D8 NG W f (tXb g) :=
 bG hW hl hh B3 (h:=h) hf hb hname (E4p g) fun xs r h=>by
  simp only[tXb]at h;split at h
  ·obtain⟨e,hxe,h0⟩:=I5 h;subst hxe;obtain⟨qq,hq,hend⟩:=Ab.1 h0;obtain⟨fu,hr⟩:=hr _ _ hq;exact⟨fu,hr.trans hend⟩
  ·cases h
def vK (f:XR->Int->Option (Bool)):D5:=⟨fun xs k=>match xs with|[xe,.int .i64 d]=>lT xe fun e=>(f e d).bind fun r=>k (.bool r)|_=>none,false⟩
theorem B5n (f:XR->Int->Option (Bool)):(vK f).nat:=by
 intro R xs k;simp only[vK];split
 ·simp only[F3,F4,Ad,Aa]
 ·rfl
theorem B3m (hW:Y0 NG W){l:List (FuncId×D5)}(hl:E0 NG W l){lh:List (FuncId×H7)}(hh:I9 NG W lh){h:B4}{f:FuncId}{fn:Func}(hf:Tryz.prog.funcs[f]? =some fn)(hb:fn.body.isSome=true)(hname:fn.name≠ "runtime.NumGoroutine"){g:XR->Int->Option (Bool)}(hr:∀(e:XR) (d:Int) r,g e d=some r->∃fu,C6 (F8 l lh []) h fu false fn [.agg e.cells,.int .i64 d]=some (.bool r)):D8 NG W f (vK g) :=
 bG hW hl hh B3 (h:=h) hf hb hname (B5n g) fun xs r h=>by
  simp only[vK]at h;split at h
  ·obtain⟨e,hxe,h0⟩:=I5 h;subst hxe;obtain⟨qq,hq,hend⟩:=Ab.1 h0;obtain⟨fu,hr⟩:=hr _ _ _ hq;exact⟨fu,hr.trans hend⟩
  ·cases h
def tKK (f:Nat->List PV->Nat->List PV->Option (Bool)):D5:=⟨fun xs k=>match xs with|[.sl _ zn n c,.sl _ zm m d]=>if zn=13 then if zm=13 then(f n c m d).bind fun r=>k (.bool r)else none else none|_=>none,false⟩
theorem E0u (f:Nat->List PV->Nat->List PV->Option (Bool)):(tKK f).nat:=by
 intro R xs k;simp only[tKK];split
 ·simp only[F3,F4,Ad,Aa]
 ·rfl
theorem E2s (hW:Y0 NG W){l:List (FuncId×D5)}(hl:E0 NG W l){lh:List (FuncId×H7)}(hh:I9 NG W lh){h:B4}{f:FuncId}{fn:Func}(hf:Tryz.prog.funcs[f]? =some fn)(hb:fn.body.isSome=true)(hname:fn.name≠ "runtime.NumGoroutine"){g:Nat->List PV->Nat->List PV->Option (Bool)}(hr:∀(nln:Option Bool) (n:Nat) (c:List PV) (nlm:Option Bool) (m:Nat) (d:List PV) r,g n c m d=some r->∃fu,C6 (F8 l lh []) h fu false fn [.sl nln 13 n c,.sl nlm 13 m d]=some (.bool r)):D8 NG W f (tKK g) :=
 bG hW hl hh B3 (h:=h) hf hb hname (E0u g) fun xs r h=>by
  simp only[tKK]at h;split at h
  ·obtain⟨hzn,h0⟩:=A5 h;subst hzn;obtain⟨hzm,h1⟩:=A5 h0;subst hzm;obtain⟨qq,hq,hend⟩:=Ab.1 h1;obtain⟨fu,hr⟩:=hr _ _ _ _ _ _ _ hq;exact⟨fu,hr.trans hend⟩
  ·cases h
def C5q (f:Nat->List PV->Nat->List PV->Bool->Option (Bool)):D5:=⟨fun xs k=>match xs with|[.sl _ zn n c,.sl _ zm m d,.bool p]=>if zn=13 then if zm=13 then(f n c m d p).bind fun r=>k (.bool r)else none else none|_=>none,false⟩
theorem D77 (f:Nat->List PV->Nat->List PV->Bool->Option (Bool)):(C5q f).nat:=by
 intro R xs k;simp only[C5q];split
 ·simp only[F3,F4,Ad,Aa]
 ·rfl
theorem D6z (hW:Y0 NG W){l:List (FuncId×D5)}(hl:E0 NG W l){lh:List (FuncId×H7)}(hh:I9 NG W lh){h:B4}{f:FuncId}{fn:Func}(hf:Tryz.prog.funcs[f]? =some fn)(hb:fn.body.isSome=true)(hname:fn.name≠ "runtime.NumGoroutine"){g:Nat->List PV->Nat->List PV->Bool->Option (Bool)}(hr:∀(nln:Option Bool) (n:Nat) (c:List PV) (nlm:Option Bool) (m:Nat) (d:List PV) (p:Bool) r,g n c m d p=some r->∃fu,C6 (F8 l lh []) h fu false fn [.sl nln 13 n c,.sl nlm 13 m d,.bool p]=some (.bool r)):D8 NG W f (C5q g) :=
 bG hW hl hh B3 (h:=h) hf hb hname (D77 g) fun xs r h=>by
  simp only[C5q]at h;split at h
  ·obtain⟨hzn,h0⟩:=A5 h;subst hzn;obtain⟨hzm,h1⟩:=A5 h0;subst hzm;obtain⟨qq,hq,hend⟩:=Ab.1 h1;obtain⟨fu,hr⟩:=hr _ _ _ _ _ _ _ _ hq;exact⟨fu,hr.trans hend⟩
  ·cases h
def C5o (f:Nat->List PV->Nat->List PV->Option (Bool)):D5:=⟨fun xs k=>match xs with|[.sl _ zn n c,.sl _ zm m d,.clo q []]=>if zn=13 then if zm=13 then if q=12 then(f n c m d).bind fun r=>k (.bool r)else none else none else none|_=>none,false⟩
theorem D2f (f:Nat->List PV->Nat->List PV->Option (Bool)):(C5o f).nat:=by
 intro R xs k;simp only[C5o];split
 ·simp only[F3,F4,Ad,Aa]
 ·rfl
theorem D0y (hW:Y0 NG W){l:List (FuncId×D5)}(hl:E0 NG W l){lh:List (FuncId×H7)}(hh:I9 NG W lh){h:B4}{f:FuncId}{fn:Func}(hf:Tryz.prog.funcs[f]? =some fn)(hb:fn.body.isSome=true)(hname:fn.name≠ "runtime.NumGoroutine"){g:Nat->List PV->Nat->List PV->Option (Bool)}(hr:∀(nln:Option Bool) (n:Nat) (c:List PV) (nlm:Option Bool) (m:Nat) (d:List PV) r,g n c m d=some r->∃fu,C6 (F8 l lh []) h fu false fn [.sl nln 13 n c,.sl nlm 13 m d,.clo 12 []]=some (.bool r)):D8 NG W f (C5o g) :=
 bG hW hl hh B3 (h:=h) hf hb hname (D2f g) fun xs r h=>by
  simp only[C5o]at h;split at h
  ·obtain⟨hzn,h0⟩:=A5 h;subst hzn;obtain⟨hzm,h1⟩:=A5 h0;subst hzm;obtain⟨hzq,h2⟩:=A5 h1;subst hzq;obtain⟨qq,hq,hend⟩:=Ab.1 h2;obtain⟨fu,hr⟩:=hr _ _ _ _ _ _ _ hq;exact⟨fu,hr.trans hend⟩
  ·cases h
def tSl (f:List UInt8->Nat->List PV->Option (Bool)):D5:=⟨fun xs k=>match xs with|[.str s,.sl _ zn n c]=>if zn=1 then(f s n c).bind fun r=>k (.bool r)else none|_=>none,false⟩
theorem D9u (f:List UInt8->Nat->List PV->Option (Bool)):(tSl f).nat:=by
 intro R xs k;simp only[tSl];split
 ·simp only[F3,F4,Ad,Aa]
 ·rfl
theorem E0x (hW:Y0 NG W){l:List (FuncId×D5)}(hl:E0 NG W l){lh:List (FuncId×H7)}(hh:I9 NG W lh){h:B4}{f:FuncId}{fn:Func}(hf:Tryz.prog.funcs[f]? =some fn)(hb:fn.body.isSome=true)(hname:fn.name≠ "runtime.NumGoroutine"){g:List UInt8->Nat->List PV->Option (Bool)}(hr:∀(s:List UInt8) (nln:Option Bool) (n:Nat) (c:List PV) r,g s n c=some r->∃fu,C6 (F8 l lh []) h fu false fn [.str s,.sl nln 1 n c]=some (.bool r)):D8 NG W f (tSl g) :=
 bG hW hl hh B3 (h:=h) hf hb hname (D9u g) fun xs r h=>by
  simp only[tSl]at h;split at h
  ·obtain⟨hzn,h1⟩:=A5 h;subst hzn;obtain⟨qq,hq,hend⟩:=Ab.1 h1;obtain⟨fu,hr⟩:=hr _ _ _ _ _ hq;exact⟨fu,hr.trans hend⟩
  ·cases h
end
abbrev cV:List (List UInt8):=[[79,82],[65,78,68],[61],[60,62],[60],[60,61],[62],[62,61],[43],[45],[42],[47],[37]]
theorem B86 (fc:Nat->List PV->List UInt8->Option Bool)(fu:Nat)(s:List UInt8):C6 (F8 [(184,tCn fc)] [] []) I4 fu false Tryz.f186 [.str s]=(fc 13 (cV.flatMap pB) s).bind fun b=>some (.bool b):=by kernel_rfl
theorem C6u (fc:Nat->List PV->List UInt8->Option Bool)(fu:Nat)(s:List UInt8):C6 (F8 [(184,tCn fc)] [] []) I4 fu false Tryz.f187 [.str s]=(fc 4 (J1.flatMap pB) s).bind fun b=>some (.bool b):=by kernel_rfl
def dA (k n c:Int)(s:List UInt8)(k' n' c':Int)(s':List UInt8):Bool:=bif k==k' then(bif n==n' then(bif c==c' then(bif s==s' then true else false)else false)else false)else false
def cZ (k s k' s':Int):Bool:=bif k==k' then(bif s==s' then true else false)else false
def cI (e d:XR):Bool :=
 bif(bif(bif(bif(bif(bif e.k==d.k then e.op==d.op else false)then dA e.vk e.vn e.vc e.vs d.vk d.vn d.vc d.vs else false)then e.tb==d.tb else false)then e.nm==d.nm else false)then e.nt==d.nt else false)then cZ e.tk e.ts d.tk d.ts else false
theorem C7x (fu:Nat)(e d:XR):C6 (F8 [] [] []) I4 fu false Tryz.f28 [.agg e.cells,.agg d.cells]=some (.bool (cI e d)):=by kernel_rfl
theorem C3u (fr:Int->Int->Int->List UInt8->Option Bool)(fu:Nat)(a n c:Int)(s:List UInt8):C6 (F8 [(231,tvB fr)] [] []) I4 fu false Tryz.f185 [.agg [.int .i64 a,.int .i64 n,.int .i64 c,.str s]]=
 (fr a n c s).bind fun r=>some (.bool (bif(bif r then(bif !(bif a==2 then true else a==3)then true else decide (0<=n))else false)then(bif a !=3 then true else decide (0<c))else false)):=by kernel_rfl
theorem B8h (fu:Nat)(e:XR):C6 (F8 [] [] []) I4 fu false Tryz.f104 [.agg e.cells]=
 (let z:=some (PV.bool ((e.kn:Int)==0))
  let o:=some (PV.bool ((e.kn:Int)==1))
  let B:=bif e.k==3 then some (PV.bool ((e.kn:Int)==2))else bif e.k==5 then some (PV.bool (bif(e.kn:Int)==1 then true else bif(e.kn:Int)==0 then e.op==L0 else false))else o
  bif e.k==0 then(bif e.k==0 then z else B)else bif e.k==1 then z else B):=by kernel_rfl
def E6x (e:XR):XR:=⟨e.k,e.a,[],0,0,0,[],[],[],false,0,0,some true,0,[]⟩
structure FOw where
 fl:Int->Int->Int->List UInt8->Option Bool
 fn:List UInt8->Option Bool
 fb:List UInt8->Option Bool
 fc:List UInt8->Option Bool
 ft:Int->Int->Option Bool
 fa:XR->XR->Option Bool
noncomputable def F9o (F:FOw):K6:=F8 [(185,tvB F.fl),(136,tWb F.fn),(186,tWb F.fb),(187,tWb F.fc),(82,tTb F.ft),(28,tXX F.fa)] [] []
def A88 (F:FOw)(e:XR)(ok:Bool)(b:XR):Option PV:=bif ok then(F.fa e b).bind fun r=>some (.bool r)else some (.bool false)
def F2n (F:FOw)(e:XR):Option PV :=
 let b:=E6x e
 bif e.k==0 then(F.fl e.vk e.vn e.vc e.vs).bind fun ok=>A88 F e ok ⟨b.k,b.a,[],e.vk,e.vn,e.vc,e.vs,[],[],false,0,0,some true,0,[]⟩
 else bif e.k==1 then(F.fn e.nm).bind fun ok =>
  (let c:XR:=⟨b.k,b.a,[],0,0,0,[],e.tb,e.nm,false,0,0,some true,0,[]⟩
   bif(bif ok then !(e.tb==[])else false)then(F.fn e.tb).bind fun r=>A88 F e r c else A88 F e (bif ok then(bif e.tb==[]then true else false)else false) c)
 else bif e.k==2 then A88 F e (bif e.op==G4 then true else e.op==[45]) ⟨b.k,b.a,e.op,0,0,0,[],[],[],false,0,0,some true,0,[]⟩
 else bif e.k==3 then(F.fb e.op).bind fun ok=>A88 F e ok ⟨b.k,b.a,e.op,0,0,0,[],[],[],false,0,0,some true,0,[]⟩
 else bif e.k==4 then A88 F e true ⟨b.k,b.a,[],0,0,0,[],[],[],e.nt,0,0,some true,0,[]⟩
 else bif e.k==5 then(F.fc e.op).bind fun ok=>A88 F e ok ⟨b.k,b.a,e.op,0,0,0,[],[],[],false,0,0,some true,0,[]⟩
 else bif e.k==6 then(F.ft e.tk e.ts).bind fun ok=>A88 F e ok ⟨b.k,b.a,[],0,0,0,[],[],[],false,e.tk,e.ts,some true,0,[]⟩
 else some (.bool false)
theorem E0k (F:FOw)(fu:Nat)(e:XR):C6 (F9o F) I4 fu false Tryz.f103 [.agg e.cells]=F2n F e:=by kernel_rfl
def tR1 (f:XR->Int->Option Bool):H7:=⟨fun bs xs k=>match bs,xs with
 |[[.int .i64 d]],[x,.ptr 0 0]=>lT x fun e=>(f e d).bind fun b=>k [[.int .i64 d]] (.bool b)
 |_,_=>none⟩
def B3k (f:Nat->List PV->Int->Option Int):H7:=⟨fun bs xs k=>match bs,xs with
 |[[.int .i64 d]],[.sl _ z n c,.clo q [.ptr 0 0]]=>if z=13 then if q=105 then(f n c d).bind fun b=>k [[.int .i64 d]] (.int .i64 b)else none else none
 |_,_=>none⟩
def D53 (f:Nat->List PV->Int->Option Bool):H7:=⟨fun bs xs k=>match bs,xs with
 |[[.int .i64 d]],[.sl _ z n c,.clo q [.ptr 0 0]]=>if z=13 then if q=105 then(f n c d).bind fun b=>k [[.int .i64 d]] (.bool b)else none else none
 |_,_=>none⟩
theorem B7t {R:Type}(fr:XR->Int->Option Bool)(fu:Nat)(e:XR)(d:Int)(K:List (List PV)->PV->Option R):C5 (F8 [(54,vK fr)] [] []) I4 fu Tryz.f105 [[.int .i64 d]] [.agg e.cells,.ptr 0 0] K =
 (fr e (IntKind.i64.wrap (d+1))).bind fun b=>K [[.int .i64 d]] (.bool (!b)):=by kernel_rfl
theorem C72 {R:Type}(fi:Nat->List PV->Int->Option Int)(fu:Nat)(nl:Option Bool)(n:Nat)(c:List PV)(d:Int)(K:List (List PV)->PV->Option R):C5 (F8 [] [(156,B3k fi)] []) I4 fu Tryz.f75 [[.int .i64 d]] [.sl nl 13 n c,.clo 105 [.ptr 0 0]] K =
 (fi n c d).bind fun i=>K [[.int .i64 d]] (.bool (decide (0<=i))):=by kernel_rfl
theorem B45 (fo fk:XR->Option Bool)(fc:Nat->List PV->Int->Option Bool)(fu:Nat)(e:XR)(d:Int):C6 (F8 [(103,tXb fo),(104,tXb fk)] [(75,D53 fc)] []) I4 fu false Tryz.f54 [.agg e.cells,.int .i64 d]=
 (bif !decide (60<=d)then(fo e).bind fun o=>bif !!o then(fk e).bind fun q=>bif !q then some (.bool false)else(fc e.kn e.kc d).bind fun b=>some (.bool (!b))else some (.bool false)else some (.bool false)):=by kernel_rfl
theorem D42 (fr:XR->Int->Option Bool)(fu:Nat)(e:XR):C6 (F8 [(54,vK fr)] [] []) I4 fu false Tryz.f23 [.agg e.cells]=(fr e 0).bind fun b=>some (.bool b):=by kernel_rfl
def xrK {S:Type}(cs:List PV)(k:XR->Option S):Option S :=
 cs.head?.bind fun x=>(x.asInt .i64).bind fun k1=>cs.tail.head?.bind fun x=>(x.asInt .i64).bind fun a=>cs.tail.tail.head?.bind fun x=>x.asStr.bind fun op =>
 cs.tail.tail.tail.head?.bind fun x=>(x.asInt .i64).bind fun vk=>cs.tail.tail.tail.tail.head?.bind fun x=>(x.asInt .i64).bind fun vn=>cs.tail.tail.tail.tail.tail.head?.bind fun x=>(x.asInt .i64).bind fun vc=>cs.tail.tail.tail.tail.tail.tail.head?.bind fun x=>x.asStr.bind fun vs =>
 cs.tail.tail.tail.tail.tail.tail.tail.head?.bind fun x=>x.asStr.bind fun tb=>cs.tail.tail.tail.tail.tail.tail.tail.tail.head?.bind fun x=>x.asStr.bind fun nm=>cs.tail.tail.tail.tail.tail.tail.tail.tail.tail.head?.bind fun x=>x.asBool.bind fun nt =>
 cs.tail.tail.tail.tail.tail.tail.tail.tail.tail.tail.head?.bind fun x=>(x.asInt .i64).bind fun tk=>cs.tail.tail.tail.tail.tail.tail.tail.tail.tail.tail.tail.head?.bind fun x=>(x.asInt .i64).bind fun ts=>cs.tail.tail.tail.tail.tail.tail.tail.tail.tail.tail.tail.tail.head?.bind fun x=>(x.asSl 13).bind fun p =>
  k ⟨k1,a,op,vk,vn,vc,vs,tb,nm,nt,tk,ts,p.1,p.2.1,p.2.2⟩
def xAt {S:Type}(n:Nat)(c:List PV)(i:Int)(k:XR->Option S):Option S:=X0 (decide (0<=i)&&decide (i<(n:Int))) (xrK ((c.drop (i.toNat * 13)).take 13) k)
theorem kT {S:Type}{l:List XR}{i:Nat}{x:XR}{k:XR->Option S}(h:l[i]? =some x):xAt l.length (l.flatMap XR.cells) (i:Int) k=k x:=by
 have hi:=(Aj.1 h).1;unfold xAt;rw[X0,A4 (by rw[decide_eq_true (by omega),decide_eq_true (by omega)];rfl),At,jK tQ h];rfl
noncomputable def fIx:Func:=Tryz.f156
def B4h:B4:=⟨[],[(0,⟨[(0,false),(1,false),(7,false),(8,false)],[19]⟩)]⟩
def A9l (nl:Option Bool)(n:Nat)(c:List PV)(d i:Int):St:=wZ 19 20 [(0,(.sl nl 13 n c,0)),(1,(.clo 105 [.ptr 19 0],0)),(7,(.int .i64 n,0)),(8,(.int .i64 i,0))] [(19,[(.int .i64 d,0)])]
noncomputable def A9m (f:XR->Int->Option Bool):K6:=F8 [] [(105,tR1 f)] []
section
variable {R:Type}
noncomputable def F4g (f:XR->Int->Option Bool)(K:List (List PV)->PV->Option R)(st:St):Option R:=bZ (A9m f) 1 fIx st fun bs _ v=>K bs v
noncomputable def C04 (f:XR->Int->Option Bool)(fu:Nat)(K:List (List PV)->PV->Option R)(m:Nat)(st:St):Option R:=kZ (A9m f) B4h fu (F4g f K) fIx (fun _=>none) [1,0,1,0] 0 m st
theorem D6a (f:XR->Int->Option Bool)(fu:Nat)(nl:Option Bool)(n:Nat)(c:List PV)(d:Int)(K:List (List PV)->PV->Option R) :
 C5 (A9m f) B4h fu fIx [[.int .i64 d]] [.sl nl 13 n c,.clo 105 [.ptr 0 0]] K=C04 f fu K fu (A9l nl n c d 0):=V7.trans (by kernel_rfl)
theorem A64 (f:XR->Int->Option Bool)(fu:Nat)(nl:Option Bool)(n:Nat)(c:List PV)(d i:Int)(K:List (List PV)->PV->Option R)(G:St->Option R) :
 gJ (A9m f) B4h fu (F4g f K) fIx [1,0,1,0] (fun _=>none) (A9l nl n c d i) (fun st=>C2 (B4h.loop.lookup 0) st G)=
  bif decide (i<(n:Int))then xAt n c i fun x=>(f x d).bind fun b=>bif b then K [[.int .i64 d]] (.int .i64 i)else G (A9l nl n c d (IntKind.i64.wrap (i+1)))else K [[.int .i64 d]] (.int .i64 (-1)):=by kernel_rfl
end
noncomputable def fWo:Func:=Tryz.f49
def hWo:B4:=⟨[],[(0,⟨[(0,false),(7,false),(8,false),(9,false)],[]⟩)]⟩
def E3f (s:List UInt8)(nl:Option Bool)(n:Nat)(c:List PV)(i:Int):St:=frame 17 [(0,(.str s,0)),(7,(.sl nl 1 n c,0)),(8,(.int .i64 n,0)),(9,(.int .i64 i,0))] []
noncomputable def woL (fu n:Nat)(st:St):Option PV:=N3 (F8 [] [] []) hWo fu false fWo [1,0,1,0] 0 n st
theorem F2k (fu:Nat)(s:List UInt8)(nl:Option Bool)(n:Nat)(c:List PV):C6 (F8 [] [] []) hWo fu false fWo [.str s,.sl nl 1 n c]=woL fu fu (E3f s nl n c 0):=L9.trans (by kernel_rfl)
theorem C2i (fu:Nat)(s:List UInt8)(nl:Option Bool)(n:Nat)(c:List PV)(i:Int)(K:St->Option PV) :
 P1 (F8 [] [] []) hWo fu false fWo [1,0,1,0] (E3f s nl n c i) (fun st=>C2 (hWo.loop.lookup 0) st K)=
  bif decide (i<(n:Int))then X0 (decide (0<=i)&&decide (i<(n:Int))) (((c.drop (i.toNat * 1)).take 1).head?.bind fun x=>x.asStr.bind fun u=>bif u==s then some (.bool true)else K (E3f s nl n c (IntKind.i64.wrap (i+1))))else some (.bool false):=by kernel_rfl
noncomputable def C9p:Func:=Tryz.f48
def B4k:B4:=⟨[],[(0,⟨[(0,false),(3,false)],[]⟩)]⟩
def A8t (s:List UInt8)(i:Int):St:=frame 43 [(0,(.str s,0)),(3,(.int .i64 i,0))] []
noncomputable def C30 (fu n:Nat)(st:St):Option PV:=N3 (F8 [] [] []) B4k fu false C9p [1,0,1,0] 0 n st
def B3n (i:Int)(c:UInt8):Bool:=bif(bif decide ((c.toNat:Int)<97)then true else decide (122<(c.toNat:Int)))then(bif i==0 then true else bif(bif decide ((c.toNat:Int)<48)then true else decide (57<(c.toNat:Int)))then(c.toNat:Int) !=95 else false)else false
theorem C9w (fu:Nat)(s:List UInt8):C6 (F8 [] [] []) B4k fu false C9p [.str s]=C30 fu fu (A8t s 0):=L9.trans (by kernel_rfl)
theorem A6x (fu:Nat)(s:List UInt8)(i:Int)(K:St->Option PV) :
 P1 (F8 [] [] []) B4k fu false C9p [1,0,1,0] (A8t s i) (fun st=>C2 (B4k.loop.lookup 0) st K)=
 bif decide (i<(s.length:Int))then Z5 s i fun c=>bif B3n i c then some (.bool false)else K (A8t s (IntKind.i64.wrap (i+1)))
 else some (.bool (bif s != []then decide ((s.length:Int)<=24)else false)):=by kernel_rfl
structure FEx where
 fe:XR->Int->Option Bool
 fr:Int->Int->Int->List UInt8->Option Bool
 fn:List UInt8->Option Bool
 fw:List UInt8->Nat->List PV->Option Bool
 ft:Int->Int->Option Bool
noncomputable def fEx:Func:=Tryz.f20
def hEx:B4:=⟨[],[(0,⟨[(1,false),(2,false),(12,false),(13,false),(14,false)],[2]⟩)]⟩
noncomputable def E9j (F:FEx):K6:=F8 [(20,vK F.fe),(47,tvB F.fr),(48,tWb F.fn),(49,tSl F.fw),(50,tTb F.ft)] [] []
def D93 (e:XR)(d i:Int):St:=frame 203 [(1,(.int .i64 d,0)),(2,(.ptr 2 0,0)),(12,(.sl e.knl 13 e.kn e.kc,0)),(13,(.int .i64 e.kn,0)),(14,(.int .i64 i,0))] [(2,e.cells.map fun x=>(x,0))]
noncomputable def exL (F:FEx)(fu n:Nat)(st:St):Option PV:=N3 (E9j F) hEx fu false fEx [1,1,0,1,0] 0 n st
theorem E89 (F:FEx)(fu:Nat)(e:XR)(d:Int):C6 (E9j F) hEx fu false fEx [.agg e.cells,.int .i64 d]=bif d==60 then some (.bool false)else exL F fu fu (D93 e d 0):=L9.trans (by kernel_rfl)
def boB (b:Bool):Option PV:=some (.bool b)
def E5q (F:FEx)(e:XR):Option PV :=
 let n:Int:=e.kn
 bif e.k==0 then(bif n==0 then(F.fr e.vk e.vn e.vc e.vs).bind fun r=>boB (bif(bif r then !(bif(bif e.vk==2 then true else e.vk==3)then decide (e.vn<0)else false)else false)then !(bif e.vk==3 then e.vc==0 else false)else false)else boB false)
 else bif e.k==1 then(bif n==0 then(F.fn e.nm).bind fun r=>bif(bif r then !(e.tb==[])else false)then(F.fn e.tb).bind fun q=>boB q else boB (bif r then(bif e.tb==[]then true else false)else false)else boB false)
 else bif e.k==2 then boB (bif n==1 then(bif e.op==G4 then true else e.op==[45])else false)
 else bif e.k==3 then(bif n==2 then(F.fw e.op 13 (cV.flatMap pB)).bind fun r=>boB r else boB false)
 else bif e.k==4 then boB (n==1)
 else bif e.k==5 then(F.fw e.op 4 (J1.flatMap pB)).bind fun r=>boB (bif r then(bif n==1 then true else(bif n==0 then e.op==L0 else false))else false)
 else bif e.k==6 then(bif n==1 then(F.ft e.tk e.ts).bind fun r=>boB r else boB false)
 else boB false
def E2g (F:FEx)(e:XR):Option PV:=bif(bif(bif(bif e.k !=2 then e.k !=3 else false)then e.k !=5 else false)then e.op != []else false)then boB false else E5q F e
def D6h (e:XR)(v:Bool):Bool:=bif(bif v then true else(bif e.k !=1 then(bif e.tb != []then true else e.nm != [])else false))then true else(bif e.k !=4 then e.nt else false)
def E37 (F:FEx)(e:XR)(v:Bool):Option PV :=
 bif(bif !D6h e v then e.k !=6 else false)then(bif(bif !D6h e v then e.k !=6 else false)then(bif !cZ e.tk e.ts 0 0 then boB false else E2g F e)else none)else bif(bif !D6h e v then e.k !=6 else false)then none else bif(bif D6h e v then true else(bif e.k !=6 then false else false))then boB false else E2g F e
def A27 (F:FEx)(e:XR):Option PV:=bif e.k !=0 then E37 F e (!dA e.vk e.vn e.vc e.vs 0 0 0 [])else E37 F e false
theorem C01 (F:FEx)(fu:Nat)(e:XR)(d i:Int)(K:St->Option PV) :
 P1 (E9j F) hEx fu false fEx [1,1,0,1,0] (D93 e d i) (fun st=>C2 (hEx.loop.lookup 0) st K)=
  bif decide (i<(e.kn:Int))then xAt e.kn e.kc i fun x=>(F.fe x (IntKind.i64.wrap (d+1))).bind fun b=>bif !b then some (.bool false)else K (D93 e d (IntKind.i64.wrap (i+1)))else A27 F e:=by kernel_rfl
def vT (e d:XR)(p:Bool):Bool :=
 bif(bif(bif(bif(bif(bif(bif e.k !=d.k then true else e.op !=d.op)then true else !dA e.vk e.vn e.vc e.vs d.vk d.vn d.vc d.vs)then true else e.tb !=d.tb)then true else e.nm !=d.nm)then true else !(e.nt==d.nt))then true else !cZ e.tk e.ts d.tk d.ts)then true else(bif p then e.a !=d.a else false)
theorem C8a (fs:Nat->List PV->Nat->List PV->Bool->Option Bool)(fu:Nat)(e d:XR)(p:Bool):C6 (F8 [(27,C5q fs)] [] []) I4 fu false Tryz.f11 [.agg e.cells,.agg d.cells,.bool p]=
 bif vT e d p then some (.bool false)else(fs e.kn e.kc d.kn d.kc p).bind fun b=>some (.bool b):=by kernel_rfl
theorem D4w (fa:XR->XR->Option Bool)(fs:Nat->List PV->Nat->List PV->Option Bool)(fu:Nat)(e d:XR):C6 (F8 [(28,tXX fa),(29,tKK fs)] [] []) I4 fu false Tryz.f12 [.agg e.cells,.agg d.cells]=
 (fa e d).bind fun b=>bif b then(fs e.kn e.kc d.kn d.kc).bind fun r=>some (.bool r)else some (.bool false):=by kernel_rfl
theorem C6w (fs:Nat->List PV->Nat->List PV->Option Bool)(fu:Nat)(nl:Option Bool)(n:Nat)(c:List PV)(ml:Option Bool)(m:Nat)(d:List PV) :
 C6 (F8 [(63,C5o fs)] [] []) I4 fu false Tryz.f29 [.sl nl 13 n c,.sl ml 13 m d]=(fs n c m d).bind fun b=>some (.bool b):=by kernel_rfl
noncomputable def fSs:Func:=Tryz.f27
def hSs:B4:=⟨[],[(0,⟨[(0,false),(1,false),(2,false),(14,false),(15,false)],[]⟩)]⟩
noncomputable def E9s (f:XR->XR->Bool->Option Bool):K6:=F8 [(11,A5c f)] [] []
def D5m (nl:Option Bool)(n:Nat)(c:List PV)(ml:Option Bool)(m:Nat)(d:List PV)(p:Bool)(i:Int):St:=frame 30 [(0,(.sl nl 13 n c,0)),(1,(.sl ml 13 m d,0)),(2,(.bool p,0)),(14,(.int .i64 n,0)),(15,(.int .i64 i,0))] []
noncomputable def ssL (f:XR->XR->Bool->Option Bool)(fu k:Nat)(st:St):Option PV:=N3 (E9s f) hSs fu false fSs [1,1,0,1,0] 0 k st
theorem D1k (f:XR->XR->Bool->Option Bool)(fu:Nat)(nl:Option Bool)(n:Nat)(c:List PV)(ml:Option Bool)(m:Nat)(d:List PV)(p:Bool):C6 (E9s f) hSs fu false fSs [.sl nl 13 n c,.sl ml 13 m d,.bool p]=
 bif(n:Int) !=(m:Int)then some (.bool false)else ssL f fu fu (D5m nl n c ml m d p 0):=L9.trans (by kernel_rfl)
theorem A19 (f:XR->XR->Bool->Option Bool)(fu:Nat)(nl:Option Bool)(n:Nat)(c:List PV)(ml:Option Bool)(m:Nat)(d:List PV)(p:Bool)(i:Int)(K:St->Option PV) :
 P1 (E9s f) hSs fu false fSs [1,1,0,1,0] (D5m nl n c ml m d p i) (fun st=>C2 (hSs.loop.lookup 0) st K)=
  bif decide (i<(n:Int))then xAt n c i fun x=>xAt m d i fun y=>(f x y p).bind fun b=>bif !b then some (.bool false)else K (D5m nl n c ml m d p (IntKind.i64.wrap (i+1)))else some (.bool true):=by kernel_rfl
noncomputable def fEq:Func:=Tryz.f63
def hEq:B4:=⟨[],[(0,⟨[(1,false),(2,false),(15,false),(16,false),(17,false)],[]⟩)]⟩
noncomputable def E94 (f:XR->XR->Option Bool):K6:=F8 [(12,tXX f)] [] []
def E4b (nl:Option Bool)(n:Nat)(c:List PV)(ml:Option Bool)(m:Nat)(d:List PV)(i:Int):St:=frame 32 [(1,(.sl ml 13 m d,0)),(2,(.clo 12 [],0)),(15,(.sl nl 13 n c,0)),(16,(.int .i64 n,0)),(17,(.int .i64 i,0))] []
noncomputable def eqL (f:XR->XR->Option Bool)(fu k:Nat)(st:St):Option PV:=N3 (E94 f) hEq fu false fEq [1,1,0,1,0] 0 k st
theorem F27 (f:XR->XR->Option Bool)(fu:Nat)(nl:Option Bool)(n:Nat)(c:List PV)(ml:Option Bool)(m:Nat)(d:List PV):C6 (E94 f) hEq fu false fEq [.sl nl 13 n c,.sl ml 13 m d,.clo 12 []]=
 bif(n:Int) !=(m:Int)then some (.bool false)else eqL f fu fu (E4b nl n c ml m d 0):=L9.trans (by kernel_rfl)
theorem C3f (f:XR->XR->Option Bool)(fu:Nat)(nl:Option Bool)(n:Nat)(c:List PV)(ml:Option Bool)(m:Nat)(d:List PV)(i:Int)(K:St->Option PV) :
 P1 (E94 f) hEq fu false fEq [1,1,0,1,0] (E4b nl n c ml m d i) (fun st=>C2 (hEq.loop.lookup 0) st K)=
  bif decide (i<(n:Int))then xAt n c i fun x=>xAt m d i fun y=>(f x y).bind fun b=>bif !b then some (.bool false)else K (E4b nl n c ml m d (IntKind.i64.wrap (i+1)))else some (.bool true):=by kernel_rfl
def kY (a n c:Int)(s:List UInt8):Bool:=bif(bif G9 a n c s then(bif !(bif a==2 then true else a==3)then true else decide (0<=n))else false)then(bif a !=3 then true else decide (0<c))else false
def zV (e:XR):Bool :=
 bif e.k==0 then kY e.vk e.vn e.vc e.vs&&(e.op==[]&&(e.tb==[]&&(e.nm==[]&&(e.nt==false&&cZ e.tk e.ts 0 0))))
 else bif e.k==1 then(M9 e.nm&&(e.tb==[]||M9 e.tb))&&(e.op==[]&&(dA e.vk e.vn e.vc e.vs 0 0 0 []&&(e.nt==false&&cZ e.tk e.ts 0 0)))
 else bif e.k==2 then(e.op==G4||e.op==[45])&&(dA e.vk e.vn e.vc e.vs 0 0 0 []&&(e.tb==[]&&(e.nm==[]&&(e.nt==false&&cZ e.tk e.ts 0 0))))
 else bif e.k==3 then D1 cV e.op&&(dA e.vk e.vn e.vc e.vs 0 0 0 []&&(e.tb==[]&&(e.nm==[]&&(e.nt==false&&cZ e.tk e.ts 0 0))))
 else bif e.k==4 then e.op==[]&&(dA e.vk e.vn e.vc e.vs 0 0 0 []&&(e.tb==[]&&(e.nm==[]&&cZ e.tk e.ts 0 0)))
 else bif e.k==5 then D1 J1 e.op&&(dA e.vk e.vn e.vc e.vs 0 0 0 []&&(e.tb==[]&&(e.nm==[]&&(e.nt==false&&cZ e.tk e.ts 0 0))))
 else bif e.k==6 then tyB e.tk e.ts&&(e.op==[]&&(dA e.vk e.vn e.vc e.vs 0 0 0 []&&(e.tb==[]&&(e.nm==[]&&e.nt==false))))
 else false
def A2m (k:Int)(op:List UInt8)(n:Nat):Bool :=
 bif k==0 then(n:Int)==0 else bif k==1 then(n:Int)==0 else bif k==3 then(n:Int)==2 else bif k==5 then(n:Int)==1||((n:Int)==0&&op==L0)else(n:Int)==1
def okB (e:XR):Bool:=zV e&&A2m e.k e.op e.kn
theorem yO (a n c:Int)(s:List UInt8):dA a n c s a n c s=true:=by simp[dA]
theorem yD (a s:Int):cZ a s a s=true:=by simp[cZ]
def A7w:FOw:=⟨fun a n c s=>bif decide (s.length<=1000000)then some (kY a n c s)else none,fun s=>some (M9 s),fun s=>some (D1 cV s),fun s=>some (D1 J1 s),fun a b=>some (tyB a b),fun e d=>some (cI e d)⟩
theorem E0n (e b:XR)(ok:Bool):A88 A7w e ok b=some (.bool (ok&&cI e b)):=by cases ok<;>rfl
theorem F1b {e:XR}(h:sG e=true):F2n A7w e=some (.bool (zV e)):=by
 unfold sG at h;simp only[Ae,decide_eq_true_eq]at h;unfold F2n zV;simp only[E0n]
 have hl:A7w.fl e.vk e.vn e.vc e.vs=some (kY e.vk e.vn e.vc e.vs):=by
  show(bif decide (e.vs.length<=1000000)then _ else _)=_;rw[A4 (decide_eq_true h.1)]
 have hn:∀s,A7w.fn s=some (M9 s):=fun _=>rfl;have hb:∀s,A7w.fb s=some (D1 cV s):=fun _=>rfl;have hc:∀s,A7w.fc s=some (D1 J1 s):=fun _=>rfl;have ht:∀a b,A7w.ft a b=some (tyB a b):=fun _ _=>rfl;rw[hl,hn,hn,hb,hc,ht];simp only[Aa,cI,E6x,beq_self_eq_true,cond_true,yO,yD]
 cases e.k==0 with
 |true =>
  simp only[cond_true]
  cases kY e.vk e.vn e.vc e.vs<;>cases e.op==[]<;>cases e.tb==[]<;>cases e.nm==[]<;>cases e.nt==false<;>cases cZ e.tk e.ts 0 0<;>rfl
 |false =>
 simp only[cond_false]
 cases e.k==1 with
 |true =>
  simp only[cond_true]
  cases M9 e.nm<;>cases M9 e.tb<;>cases e.op==[]<;>cases dA e.vk e.vn e.vc e.vs 0 0 0 []<;>cases e.tb==[]<;>cases e.nt==false<;>cases cZ e.tk e.ts 0 0<;>rfl
 |false =>
 simp only[cond_false]
 cases e.k==2 with
 |true =>
  simp only[cond_true]
  cases e.op==G4<;>cases e.op==[45]<;>cases dA e.vk e.vn e.vc e.vs 0 0 0 []<;>cases e.tb==[]<;>cases e.nm==[]<;>cases e.nt==false<;>cases cZ e.tk e.ts 0 0<;>rfl
 |false =>
 simp only[cond_false]
 cases e.k==3 with
 |true =>
  simp only[cond_true]
  cases D1 cV e.op<;>cases dA e.vk e.vn e.vc e.vs 0 0 0 []<;>cases e.tb==[]<;>cases e.nm==[]<;>cases e.nt==false<;>cases cZ e.tk e.ts 0 0<;>rfl
 |false =>
 simp only[cond_false]
 cases e.k==4 with
 |true =>
  simp only[cond_true]
  cases e.op==[]<;>cases dA e.vk e.vn e.vc e.vs 0 0 0 []<;>cases e.tb==[]<;>cases e.nm==[]<;>cases cZ e.tk e.ts 0 0<;>rfl
 |false =>
 simp only[cond_false]
 cases e.k==5 with
 |true =>
  simp only[cond_true]
  cases D1 J1 e.op<;>cases dA e.vk e.vn e.vc e.vs 0 0 0 []<;>cases e.tb==[]<;>cases e.nm==[]<;>cases e.nt==false<;>cases cZ e.tk e.ts 0 0<;>rfl
 |false =>
 simp only[cond_false]
 cases e.k==6 with
 |true =>
  simp only[cond_true]
  cases tyB e.tk e.ts<;>cases e.op==[]<;>cases dA e.vk e.vn e.vc e.vs 0 0 0 []<;>cases e.tb==[]<;>cases e.nm==[]<;>cases e.nt==false<;>rfl
 |false=>rfl
theorem E53 (a n c:Int)(s:List UInt8):kY a n c s=(bif(bif G9 a n c s then !(bif(bif a==2 then true else a==3)then decide (n<0)else false)else false)then !(bif a==3 then c==0 else false)else false):=by
 unfold kY
 have h1:decide (n<0)=!decide (0<=n):=by
  by_cases h:0<=n
  ·rw[decide_eq_true h,decide_eq_false (by omega)];rfl
  ·rw[decide_eq_false h,decide_eq_true (by omega)];rfl
 rw[h1,bne]
 cases hr:G9 a n c s with
 |false=>rfl
 |true =>
  cases h3:a==3 with
  |false=>cases a==2<;>cases decide (0<=n)<;>rfl
  |true =>
   have h3':=eq_of_beq h3;subst h3'
   have:zY c=true:=by
    unfold G9 at hr;simp only[show((3:Int)==0)=false from rfl,show((3:Int)==1)=false from rfl,show((3:Int)==2)=false from rfl,show((3:Int)==3)=true from rfl,cond_true,cond_false,Ae]at hr;exact hr.2
   unfold zY at this;simp only[Ae,decide_eq_true_eq]at this
   have h0:decide (0<c)=!(c==0):=by
    by_cases h:c=0
    ·subst h;rfl
    ·rw[decide_eq_true (by omega),beq_eq_false_iff_ne.2 h];rfl
   rw[h0]
   cases(3:Int)==2<;>cases decide (0<=n)<;>cases c==0<;>rfl
def B04 (fe:XR->Int->Option Bool):FEx:=⟨fe,wV,fun s=>some (M9 s),fun s n c=>bif decide (n<=1000000)then(bE 1 stG n c).map fun l=>D1 l s else none,fun a b=>some (tyB a b)⟩
theorem D95 {fe:XR->Int->Option Bool}{e:XR}(h:sG e=true):E5q (B04 fe) e=boB (
  bif e.k==0 then kY e.vk e.vn e.vc e.vs&&(e.kn:Int)==0 else bif e.k==1 then(M9 e.nm&&(e.tb==[]||M9 e.tb))&&(e.kn:Int)==0 else bif e.k==2 then(e.op==G4||e.op==[45])&&(e.kn:Int)==1
  else bif e.k==3 then D1 cV e.op&&(e.kn:Int)==2 else bif e.k==4 then(e.kn:Int)==1 else bif e.k==5 then D1 J1 e.op&&((e.kn:Int)==1||((e.kn:Int)==0&&e.op==L0))else bif e.k==6 then tyB e.tk e.ts&&(e.kn:Int)==1 else false):=by
 unfold sG at h;simp only[Ae,decide_eq_true_eq]at h;unfold E5q
 have hl:(B04 fe).fr e.vk e.vn e.vc e.vs=some (G9 e.vk e.vn e.vc e.vs):=by
  show wV _ _ _ _=_;unfold wV;rw[A4 (decide_eq_true h.1)]
 have hn:∀s,(B04 fe).fn s=some (M9 s):=fun _=>rfl;have hb:∀s,(B04 fe).fw s 13 (cV.flatMap pB)=some (D1 cV s):=fun _=>rfl;have hc:∀s,(B04 fe).fw s 4 (J1.flatMap pB)=some (D1 J1 s):=fun _=>rfl;have ht:∀a b,(B04 fe).ft a b=some (tyB a b):=fun _ _=>rfl;rw[hl,hn,hn,hb,hc,ht,E53];simp only[Aa,boB]
 cases e.k==0 with
 |true =>
  simp only[cond_true]
  cases(e.kn:Int)==0<;>cases G9 e.vk e.vn e.vc e.vs<;>cases e.vk==3<;>cases e.vk==2<;>cases decide (e.vn<0)<;>cases e.vc==0<;>rfl
 |false =>
 simp only[cond_false]
 cases e.k==1 with
 |true =>
  simp only[cond_true]
  cases(e.kn:Int)==0<;>cases M9 e.nm<;>cases M9 e.tb<;>cases e.tb==[]<;>rfl
 |false =>
 simp only[cond_false]
 cases e.k==2 with
 |true =>
  simp only[cond_true]
  cases(e.kn:Int)==1<;>cases e.op==G4<;>cases e.op==[45]<;>rfl
 |false =>
 simp only[cond_false]
 cases e.k==3 with
 |true =>
  simp only[cond_true]
  cases(e.kn:Int)==2<;>cases D1 cV e.op<;>rfl
 |false =>
 simp only[cond_false]
 cases e.k==4 with
 |true=>rfl
 |false =>
 simp only[cond_false]
 cases e.k==5 with
 |true =>
  simp only[cond_true]
  cases D1 J1 e.op<;>cases(e.kn:Int)==1<;>cases(e.kn:Int)==0<;>cases e.op==L0<;>rfl
 |false =>
 simp only[cond_false]
 cases e.k==6 with
 |true =>
  simp only[cond_true]
  cases(e.kn:Int)==1<;>cases tyB e.tk e.ts<;>rfl
 |false=>rfl
theorem E5n {b:Bool}{x y:Bool}:(bif b then boB x else boB y)=boB (bif b then x else y):=by cases b<;>rfl
theorem C44 {fe:XR->Int->Option Bool}{e:XR}(h:sG e=true):A27 (B04 fe) e=boB (okB e):=by
 unfold A27 E37 E2g;rw[D95 h];simp only[E5n,D6h,bne,okB,zV,A2m];have hk:∀i j:Int,i≠j->e.k=i->(e.k==j)=false:=fun i j hij hi=>beq_eq_false_iff_ne.2 (by rw[hi];exact hij)
 by_cases h0:e.k=0
 ·rw[hk 0 1 (by decide) h0,hk 0 2 (by decide) h0,hk 0 3 (by decide) h0,hk 0 4 (by decide) h0,hk 0 5 (by decide) h0,hk 0 6 (by decide) h0,beq_iff_eq.2 h0]
  cases kY e.vk e.vn e.vc e.vs<;>cases(e.kn:Int)==0<;>cases e.op==[]<;>cases e.tb==[]<;>cases e.nm==[]<;>cases e.nt<;>cases cZ e.tk e.ts 0 0<;>rfl
 rw[beq_eq_false_iff_ne.2 h0]
 by_cases h1:e.k=1
 ·rw[hk 1 2 (by decide) h1,hk 1 3 (by decide) h1,hk 1 4 (by decide) h1,hk 1 5 (by decide) h1,hk 1 6 (by decide) h1,beq_iff_eq.2 h1]
  cases dA e.vk e.vn e.vc e.vs 0 0 0 []<;>cases M9 e.nm<;>cases M9 e.tb<;>cases(e.kn:Int)==0<;>cases e.op==[]<;>cases e.tb==[]<;>cases e.nt<;>cases cZ e.tk e.ts 0 0<;>rfl
 rw[beq_eq_false_iff_ne.2 h1]
 by_cases h2:e.k=2
 ·rw[hk 2 3 (by decide) h2,hk 2 4 (by decide) h2,hk 2 5 (by decide) h2,hk 2 6 (by decide) h2,beq_iff_eq.2 h2]
  cases dA e.vk e.vn e.vc e.vs 0 0 0 []<;>cases e.op==G4<;>cases e.op==[45]<;>cases(e.kn:Int)==1<;>cases e.tb==[]<;>cases e.nm==[]<;>cases e.nt<;>cases cZ e.tk e.ts 0 0<;>rfl
 rw[beq_eq_false_iff_ne.2 h2]
 by_cases h3:e.k=3
 ·rw[hk 3 4 (by decide) h3,hk 3 5 (by decide) h3,hk 3 6 (by decide) h3,beq_iff_eq.2 h3]
  cases dA e.vk e.vn e.vc e.vs 0 0 0 []<;>cases D1 cV e.op<;>cases(e.kn:Int)==2<;>cases e.tb==[]<;>cases e.nm==[]<;>cases e.nt<;>cases cZ e.tk e.ts 0 0<;>rfl
 rw[beq_eq_false_iff_ne.2 h3]
 by_cases h4:e.k=4
 ·rw[hk 4 5 (by decide) h4,hk 4 6 (by decide) h4,beq_iff_eq.2 h4]
  cases dA e.vk e.vn e.vc e.vs 0 0 0 []<;>cases(e.kn:Int)==1<;>cases e.op==[]<;>cases e.tb==[]<;>cases e.nm==[]<;>cases e.nt<;>cases cZ e.tk e.ts 0 0<;>rfl
 rw[beq_eq_false_iff_ne.2 h4]
 by_cases h5:e.k=5
 ·rw[hk 5 6 (by decide) h5,beq_iff_eq.2 h5]
  cases dA e.vk e.vn e.vc e.vs 0 0 0 []<;>cases D1 J1 e.op<;>cases(e.kn:Int)==1<;>cases(e.kn:Int)==0<;>cases e.op==L0<;>cases e.tb==[]<;>cases e.nm==[]<;>cases e.nt<;>cases cZ e.tk e.ts 0 0<;>rfl
 rw[beq_eq_false_iff_ne.2 h5]
 by_cases h6:e.k=6
 ·rw[beq_iff_eq.2 h6]
  cases dA e.vk e.vn e.vc e.vs 0 0 0 []<;>cases tyB e.tk e.ts<;>cases(e.kn:Int)==1<;>cases e.op==[]<;>cases e.tb==[]<;>cases e.nm==[]<;>cases e.nt<;>rfl
 rw[beq_eq_false_iff_ne.2 h6]
 cases dA e.vk e.vn e.vc e.vs 0 0 0 []<;>cases e.op==[]<;>cases e.tb==[]<;>cases e.nm==[]<;>cases e.nt<;>cases cZ e.tk e.ts 0 0<;>rfl
theorem E1h (e:XR):(let z:=some (PV.bool ((e.kn:Int)==0))
  let o:=some (PV.bool ((e.kn:Int)==1))
  let B:=bif e.k==3 then some (PV.bool ((e.kn:Int)==2))else bif e.k==5 then some (PV.bool (bif(e.kn:Int)==1 then true else bif(e.kn:Int)==0 then e.op==L0 else false))else o
  bif e.k==0 then(bif e.k==0 then z else B)else bif e.k==1 then z else B)=some (.bool (A2m e.k e.op e.kn)):=by
 dsimp only;unfold A2m
 cases e.k==0<;>cases e.k==1<;>cases e.k==3<;>cases e.k==5<;>cases(e.kn:Int)==1<;>cases(e.kn:Int)==0<;>cases e.op==L0<;>rfl
def S3:Nat->TX->Bool
 |0,_=>false
 |n+1,.mk k op vk vn vc vs tb nm nt tk ts kids=>okB ⟨k,0,op,vk,vn,vc,vs,tb,nm,nt,tk,ts,some true,kids.length,[]⟩&&kids.all (S3 n)
theorem mQ {d:Nat}{x:XR}{t:TX}(h:er (d+1) x=some t):∃l ts,sG x=true/\x.kn=l.length/\x.kc=l.flatMap XR.cells/\F7 (er d) l=some ts/\t=.mk x.k x.op x.vk x.vn x.vc x.vs x.tb x.nm x.nt x.tk x.ts ts/\ts.length=l.length:=by
 rw[er]at h;obtain⟨h0,h⟩:=B8 h;obtain⟨l,h1,h⟩:=Ab.1 h;obtain⟨ts,h2,h3⟩:=Am.1 h;obtain⟨e1,e2⟩:=T7 jS h1;exact⟨l,ts,h0,e1,e2,h2,h3.symm,E6 h2⟩
theorem jL {n:Nat}{x:XR}{ts:List TX}(h:x.kn=ts.length):S3 (n+1) (.mk x.k x.op x.vk x.vn x.vc x.vs x.tb x.nm x.nt x.tk x.ts ts)=(okB x&&ts.all (S3 n)):=by
 rw[S3,<-h];rfl
def uF (D:Nat)(x:XR)(d:Int):Option Bool:=(er D x).bind fun t=>bif decide (0<=d)&&decide (d<=60)then some (S3 (60-d).toNat t)else none
theorem B4g {D:Nat}{l:List XR}{ts:List TX}(h:F7 (er D) l=some ts){d:Int}(h0:0<=d)(h1:d<60){n:Nat}(hn:(n:Int)=59-d):∀(i:Nat) (x:XR),l[i]? =some x->∃t,ts[i]? =some t/\uF D x (d+1)=some (S3 n t):=fun i x hx=>by
 obtain⟨t,h2,h3⟩:=J8 h i x hx;refine⟨t,h2,?_⟩;unfold uF;rw[h3,Aa,A4 (by simp only[Ae,decide_eq_true_eq];omega),show(60-(d+1)).toNat=n by omega]
section
variable {NG:Nat} {W:World->Prop}
theorem A6l {f:FuncId}{g:XR->Int->Option Bool}(hg:∀x d,g x d=none):D8 NG W f (vK g) where
 nat:=B5n _
 call:=fun M xs vs r hW hng hgo hr h=>by
  exfalso;simp only[vK]at h;split at h
  ·obtain⟨e,-,h⟩:=I5 h;rw[hg]at h
   cases h
  ·cases h
end
theorem C34:D8 F6 Ws 82 (tTb fun a b=>some (tyB a b)):=O3 (sC E9m) (C1e _) rfl fun xs r h=>by
 simp only[tTb]at h;split at h
 ·simp only[zA];exact h
 ·cases h
theorem D7w:D8 F6 Ws 50 (tTb fun a b=>some (tyB a b)):=O3 (sC E62) (C1e _) rfl fun xs r h=>by
 simp only[tTb]at h;split at h
 ·simp only[zA];exact h
 ·cases h
theorem F1y:D8 F6 Ws 136 (tWb fun s=>some (M9 s)):=O3 qC (C1w _) rfl fun xs r h=>by
 simp only[tWb]at h;split at h
 ·simp only[tNm];exact h
 ·cases h
theorem E9p:D8 F6 Ws 186 (tWb fun s=>some (D1 cV s)):=A95 D4 (A0 (B0e D4) A2) A7 (h:=I4) Tryz.func186 rfl (by decide) fun s r h=>⟨0,(B86 A2r 0 s).trans (by injection h with h;rw[<-h];rfl)⟩
theorem D2j:D8 F6 Ws 187 (tWb fun s=>some (D1 J1 s)):=A95 D4 (A0 (B0e D4) A2) A7 (h:=I4) Tryz.func187 rfl (by decide) fun s r h=>⟨0,(C6u A2r 0 s).trans (by injection h with h;rw[<-h];rfl)⟩
theorem B1o:D8 F6 Ws 28 (tXX fun e d=>some (cI e d)):=C1s D4 A2 A7 (h:=I4) Tryz.func28 rfl (by decide) fun e d r h=>⟨0,(C7x 0 e d).trans (by injection h with h;rw[<-h])⟩
theorem D0t:D8 F6 Ws 185 (tvB A7w.fl):=E2h D4 (A0 B91 A2) A7 (h:=I4) Tryz.func185 rfl (by decide) fun a n c s r h=>⟨0,(C3u wV 0 a n c s).trans (by
 have h:(bif decide (s.length<=1000000)then some (kY a n c s)else none)=some r:=h;obtain⟨h1,h2⟩:=B8 h;injection h2 with h2;rw[<-h2];unfold wV kY;rw[h1]
 rfl)⟩
theorem F2d:D8 F6 Ws 103 (tXb fun e=>bif sG e then some (zV e)else none):=A8c D4 (A0 D0t (A0 F1y (A0 E9p (A0 D2j (A0 C34 (A0 B1o A2)))))) A7 (h:=I4) Tryz.func103 rfl (by decide) fun e r h=>⟨0,(E0k A7w 0 e).trans (by
 obtain⟨h1,h2⟩:=B8 h;injection h2 with h2
 rw[F1b h1,h2])⟩
theorem C5m:D8 F6 Ws 104 (tXb fun e=>some (A2m e.k e.op e.kn)):=A8c D4 A2 A7 (h:=I4) Tryz.func104 rfl (by decide) fun e r h=>⟨0,(B8h 0 e).trans ((E1h e).trans (by injection h with h;rw[h]))⟩
theorem D8v (f:XR->Int->Option Bool):(tR1 f).nat:=by
 intro R bs xs k;simp only[tR1];split
 ·simp only[F3,Ad,Aa]
 ·rfl
theorem C7t (f:Nat->List PV->Int->Option Int):(B3k f).nat:=by
 intro R bs xs k;simp only[B3k];split
 ·simp only[F4,Ad,Aa]
 ·rfl
theorem D2a (f:Nat->List PV->Int->Option Bool):(D53 f).nat:=by
 intro R bs xs k;simp only[D53];split
 ·simp only[F4,Ad,Aa]
 ·rfl
def r1D (D:Nat)(x:XR)(d:Int):Option Bool:=bif decide (0<=d)&&decide (d<60)then(uF D x (d+1)).map not else none
def fdB:List Bool->Int->Int
 |[],_=>-1
 |b::l,i=>bif b then i else fdB l (i+1)
theorem C2m:∀(l:List Bool) (i:Int),0<=i->decide (0<=fdB l i)=l.any id
 |[],i,_=>rfl
 |b::l,i,h=>by
  rw[fdB,Cj]
  cases b with
  |true=>exact decide_eq_true h
  |false=>exact C2m l (i+1) (by omega)
def ixD (D:Nat)(n:Nat)(c:List PV)(d:Int):Option Int:=(bE 13 xrG n c).bind fun l=>bif decide (l.length<=1000000)then(F7 (fun x=>r1D D x d) l).map fun bs=>fdB bs 0 else none
def cfD (D:Nat)(n:Nat)(c:List PV)(d:Int):Option Bool:=(bE 13 xrG n c).bind fun l=>bif decide (l.length<=1000000)then(F7 (fun x=>r1D D x d) l).map fun bs=>bs.any id else none
theorem F45 {D:Nat}(hr:D8 F6 Ws 54 (vK (uF D))):P9 F6 Ws 105 (tR1 (r1D D)) :=
 E4 D4 (A0 hr A2) A7 B3 (h:=I4) Tryz.func105 rfl (by decide) (D8v _) fun bs xs r h=>by
  simp only[tR1]at h;split at h
  ·obtain⟨e,he,h2⟩:=I5 h;subst he;obtain⟨b,hb,h3⟩:=Ab.1 h2;unfold r1D at hb;obtain⟨h4,hb⟩:=B8 hb;obtain⟨q,hq,rfl⟩:=Am.1 hb;simp only[Ae,decide_eq_true_eq]at h4;refine⟨0,(B7t (uF D) 0 e _ _).trans ?_⟩;rw[B2 (by omega) (by omega),hq];exact h3
  ·cases h
theorem C35 {R:Type}(f:XR->Int->Option Bool)(fu:Nat)(nl:Option Bool)(l:List XR)(hl:l.length<=1000000)(d:Int){bs:List Bool}(hb:F7 (fun x=>f x d) l=some bs)(K:List (List PV)->PV->Option R):∀(k i m:Nat),i+k=l.length->k<m->
  C04 f fu K m (A9l nl l.length (l.flatMap XR.cells) d (i:Int))=K [[.int .i64 d]] (.int .i64 (fdB (bs.drop i) i))
 |k,i,0,_,h=>by omega
 |0,i,m+1,hi,_=>by
  unfold C04;rw[R6,A64,B1 (decide_eq_false (by omega)),Bb (by rw[E6 hb];omega)];rfl
 |k+1,i,m+1,hi,hm=>by
  have hc:=Ag (l:=l) (i:=i) (by omega);generalize l[i]=x at hc;obtain⟨b,h2,h3⟩:=J8 hb i x hc
  have hd:bs.drop i=b::bs.drop (i+1):=by
   have:=(Aj.1 h2);rw[Av this.1,this.2]
  have ih:=C35 f fu nl l hl d hb K k (i+1) m (by omega) (by omega);unfold C04 at ih ⊢;rw[R6,A64,A4 (decide_eq_true (by omega)),kT hc,h3,Aa,hd,fdB]
  cases b with
  |true=>rfl
  |false =>
   rw[cond_false,cond_false,B2 (by omega) (by omega),show(i:Int)+1=((i+1:Nat):Int)by omega];exact ih
theorem E2z {D:Nat}(hr:D8 F6 Ws 54 (vK (uF D))):P9 F6 Ws 156 (B3k (ixD D)) :=
 E4 D4 A2 (A3 (F45 hr) A7) B3 (h:=B4h) Tryz.func156 rfl (by decide) (C7t _) fun bs xs r h=>by
  simp only[B3k]at h;split at h
  ·obtain⟨hz,h1⟩:=A5 h;obtain⟨hq,h2⟩:=A5 h1;subst hz hq;obtain⟨q,hq,h3⟩:=Ab.1 h2;unfold ixD at hq;obtain⟨l,hl,hq⟩:=Ab.1 hq;obtain⟨hle,hq⟩:=B8 hq;obtain⟨b,hb,rfl⟩:=Am.1 hq;obtain⟨e1,e2⟩:=T7 jS hl;subst e1 e2;refine⟨l.length+1,(D6a (r1D D) _ _ _ _ _ _).trans (Cw ?_ h3)⟩;exact C35 (r1D D) _ _ l (of_decide_eq_true hle) _ hb _ l.length 0 _ (by omega) (by omega)
  ·cases h
theorem E1k {D:Nat}(hr:D8 F6 Ws 54 (vK (uF D))):P9 F6 Ws 75 (D53 (cfD D)) :=
 E4 D4 A2 (A3 (E2z hr) A7) B3 (h:=I4) Tryz.func75 rfl (by decide) (D2a _) fun bs xs r h=>by
  simp only[D53]at h;split at h
  ·obtain⟨hz,h1⟩:=A5 h;obtain⟨hq,h2⟩:=A5 h1;subst hz hq;obtain⟨q,hq,h3⟩:=Ab.1 h2;unfold cfD at hq;obtain⟨l,hl,hq⟩:=Ab.1 hq;obtain⟨hle,hq⟩:=B8 hq;obtain⟨b,hb,rfl⟩:=Am.1 hq;refine⟨0,(C72 (ixD D) _ _ _ _ _ _).trans (Cw ?_ h3)⟩;unfold ixD;rw[hl,Aa,hle,cond_true,hb,Aq,Aa,C2m _ _ (Int.le_refl _)]
  ·cases h
theorem E2m (l:List TX)(p:TX->Bool):l.all p=!(l.map fun t=>!p t).any id:=by
 induction l with
 |nil=>rfl
 |cons a l ih=>rw[Ci,Cb,Cj,ih];cases p a<;>rfl
theorem C3k {α β:Type}{f:α->Option β}{l:List α}{r:List β}(hl:r.length=l.length)(h:∀(i:Nat) (x:α),l[i]? =some x->∃y,r[i]? =some y/\f x=some y):F7 f l=some r:=by
 induction l generalizing r with
 |nil=>cases r with
  |nil=>rfl
  |cons a r=>simp at hl
 |cons a l ih=>cases r with
  |nil=>simp at hl
  |cons b r =>
   obtain⟨y,h1,h2⟩:=h 0 a rfl;simp at h1;subst h1;rw[K7,h2,Aa,ih (by simpa using hl) (fun i x hx=>h (i+1) x (by simpa using hx))];rfl
theorem B29:∀D,D8 F6 Ws 54 (vK (uF D))
 |0=>A6l fun _ _=>rfl
 |D+1 =>
  have ih:=B29 D
  B3m D4 (A0 F2d (A0 C5m A2)) (A3 (E1k ih) A7) (h:=I4) Tryz.func54 rfl (by decide) fun e d r h=>⟨0,(B45 _ _ _ 0 e d).trans (by
   unfold uF at h;obtain⟨t,ht,h⟩:=Ab.1 h;obtain⟨hd,h⟩:=B8 h;injection h with h;simp only[Ae,decide_eq_true_eq]at hd;obtain⟨l,ts,h0,h1,h2,h3,rfl,h4⟩:=mQ ht;subst h
   by_cases h60:d=60
   ·subst h60;rfl
   ·obtain⟨n,hn⟩:∃n:Nat,(n:Int)=59-d:=⟨(59-d).toNat,by omega⟩;rw[show(60-d).toNat=n+1 by omega,jL (by rw[h1,h4]),decide_eq_false (by omega),Ar,cond_true];rw[h0,cond_true,Aa,Aa,okB]
    cases zV e with
    |false=>rfl
    |true =>
     cases A2m e.k e.op e.kn with
     |false=>rfl
     |true =>
      simp only[Au,Ar,cond_true,cond_false,Ba]
      have hb:F7 (fun x=>r1D D x d) l=some (ts.map fun t=>!S3 n t):=C3k (by simp[h4]) fun i x hx=>by
       obtain⟨t,g1,g2⟩:=B4g h3 hd.1 (by omega) hn i x hx;refine⟨!S3 n t,by rw[Az,g1];rfl,?_⟩;unfold r1D;rw[A4 (by simp only[Ae,decide_eq_true_eq];omega),g2];rfl
      have hl:bE 13 xrG e.kn e.kc=some l:=by rw[h1,h2];exact rG tQ A1t l
      unfold cfD
      have hk:e.kn<=1000000:=by
       unfold sG at h0;simp only[Ae,decide_eq_true_eq]at h0;exact h0.2.2.2
      rw[hl,Aa,A4 (decide_eq_true (by omega)),hb,Aq,Aa,E2m])⟩
theorem C2x (fu:Nat)(s:List UInt8)(nl:Option Bool)(l:List (List UInt8))(hl:l.length<=1000000):∀(k i m:Nat),i+k=l.length->k<m->woL fu m (E3f s nl l.length (l.flatMap pB) (i:Int))=some (.bool (D1 (l.drop i) s))
 |k,i,0,_,h=>by omega
 |0,i,m+1,hi,_=>by
  unfold woL;rw[B6,C2i,B1 (decide_eq_false (by omega)),Bb (by omega)];rfl
 |k+1,i,m+1,hi,hm=>by
  have hc:=Ag (l:=l) (i:=i) (by omega);rw[Av (show i<l.length by omega)];generalize l[i]=a at hc;have ih:=C2x fu s nl l hl k (i+1) m (by omega) (by omega);unfold woL at ih ⊢;rw[B6,C2i,A4 (decide_eq_true (by omega)),X0,A4 (by rw[decide_eq_true (by omega),decide_eq_true (by omega)];rfl),At,jK A0y hc,B2 (by omega) (by omega),show(i:Int)+1=((i+1:Nat):Int)by omega];simp only[pB,Eb,Aa,PV.asStr];have e:D1 (a::l.drop (i+1)) s=(s==a||D1 (l.drop (i+1)) s):=rfl
  have e2:(a==s)=(s==a):=by rw[Df,beq_iff_eq,beq_iff_eq,eq_comm]
  rw[e,e2]
  cases s==a with
  |true=>rfl
  |false=>exact ih
def woD (s:List UInt8)(n:Nat)(c:List PV):Option Bool:=bif decide (n<=1000000)then(bE 1 stG n c).map fun l=>D1 l s else none
theorem F4t:D8 F6 Ws 49 (tSl woD):=E0x D4 A2 A7 (h:=hWo) Tryz.func49 rfl (by decide) fun s nl n c r h=>by
 unfold woD at h;obtain⟨hg,h⟩:=B8 h;obtain⟨l,hl,rfl⟩:=Am.1 h;obtain⟨rfl,rfl⟩:=T7 A0t hl;exact⟨l.length+1,(F2k _ s nl _ _).trans (C2x _ s nl l (of_decide_eq_true hg) l.length 0 _ (by omega) (by omega))⟩
def B1e:List UInt8->Nat->Bool
 |[],_=>false
 |c::l,i=>B3n (i:Int) c||B1e l (i+1)
theorem F1n (i:Nat)(c:UInt8):B3n (i:Int) c=!nmC i c:=by
 unfold B3n nmC
 have h1:decide ((c.toNat:Int)<97)=!decide (97<=c.toNat):=by
  by_cases h:97<=c.toNat
  ·rw[decide_eq_true h,decide_eq_false (by omega)];rfl
  ·rw[decide_eq_false h,decide_eq_true (by omega)];rfl
 have h2:decide ((122:Int)<(c.toNat:Int))=!decide (c.toNat<=122):=by
  by_cases h:c.toNat<=122
  ·rw[decide_eq_true h,decide_eq_false (by omega)];rfl
  ·rw[decide_eq_false h,decide_eq_true (by omega)];rfl
 have h3:decide ((c.toNat:Int)<48)=!decide (48<=c.toNat):=by
  by_cases h:48<=c.toNat
  ·rw[decide_eq_true h,decide_eq_false (by omega)];rfl
  ·rw[decide_eq_false h,decide_eq_true (by omega)];rfl
 have h4:decide ((57:Int)<(c.toNat:Int))=!decide (c.toNat<=57):=by
  by_cases h:c.toNat<=57
  ·rw[decide_eq_true h,decide_eq_false (by omega)];rfl
  ·rw[decide_eq_false h,decide_eq_true (by omega)];rfl
 have h5:((c.toNat:Int) !=95)=!(c.toNat==95):=by
  by_cases h:c.toNat=95
  ·rw[h];rfl
  ·rw[beq_eq_false_iff_ne.2 h];exact bne_iff_ne.2 (by omega)
 have h6:((i:Int)==0)=!(i !=0):=by
  by_cases h:i=0
  ·subst h;rfl
  ·rw[bne_iff_ne.2 h];exact beq_eq_false_iff_ne.2 (by omega)
 rw[h1,h2,h3,h4,h5,h6]
 by_cases h9:c.toNat=95
 ·rw[h9];cases i !=0<;>rfl
 ·rw[beq_eq_false_iff_ne.2 h9]
  cases decide (97<=c.toNat)<;>cases decide (c.toNat<=122)<;>cases decide (48<=c.toNat)<;>cases decide (c.toNat<=57)<;>cases i !=0<;>rfl
theorem D6r:∀(l:List UInt8) (i:Nat),B1e l i=!nmL i l
 |[],i=>rfl
 |c::l,i=>by rw[B1e,nmL,F1n,D6r l (i+1),Bool.not_and]
theorem A68 (fu:Nat)(s:List UInt8)(hl:s.length<=1000000):∀(k i n:Nat),i+k=s.length->k<n->C30 fu n (A8t s (i:Int))=some (.bool (!B1e (s.drop i) i&&(bif s != []then decide ((s.length:Int)<=24)else false)))
 |k,i,0,_,h=>by omega
 |0,i,n+1,hi,hn=>by
  unfold C30;rw[B6,A6x,B1 (decide_eq_false (by omega)),Bb (by omega)];rfl
 |k+1,i,n+1,hi,hn=>by
  have hc:=Ag (l:=s) (i:=i) (by omega);rw[Av (show i<s.length by omega),B1e];generalize s[i]=c at hc;have ih:=A68 fu s hl k (i+1) n (by omega) (by omega);unfold C30 at ih ⊢;rw[B6,A6x,A4 (decide_eq_true (by omega)),F0 hc,B2 (x:=(i:Int)+1) (by omega) (by omega)]
  cases B3n (i:Int) c
  ·rw[cond_false,Cv];exact ih
  ·rfl
def naD (s:List UInt8):Option Bool:=bif decide (s.length<=1000000)then some (M9 s)else none
theorem E13:D8 F6 Ws 48 (tWb naD):=A95 D4 A2 A7 (h:=B4k) Tryz.func48 rfl (by decide) fun s r h=>by
 unfold naD at h;obtain⟨hg,h⟩:=B8 h;injection h with h;subst h;refine⟨s.length+1,(C9w _ s).trans ((A68 _ s (of_decide_eq_true hg) s.length 0 _ (by omega) (by omega)).trans ?_)⟩;rw[Bt,D6r,Bool.not_not,M9];congr 2;congr 1
 cases s with
 |nil=>rfl
 |cons c t =>
  rw[show(c::t != [])=true from rfl,cond_true,decide_eq_true (show 1<=(c::t).length by simp),Ba]
  by_cases h:(c::t).length<=24
  ·rw[decide_eq_true h,decide_eq_true (by omega)]
  ·rw[decide_eq_false h,decide_eq_false (by omega)]
def D4p (D:Nat):FEx:=⟨uF D,wV,naD,woD,fun a b=>some (tyB a b)⟩
theorem D4s {D:Nat}{e:XR}(h:sG e=true):A27 (D4p D) e=boB (okB e):=by
 have h':=h;unfold sG at h';simp only[Ae,decide_eq_true_eq]at h';rw[<-C44 (fe:=uF D) h]
 have hn1:(D4p D).fn e.nm=(B04 (uF D)).fn e.nm:=by show naD _=_;unfold naD;rw[A4 (decide_eq_true h'.2.2.1)];rfl
 have hn2:(D4p D).fn e.tb=(B04 (uF D)).fn e.tb:=by show naD _=_;unfold naD;rw[A4 (decide_eq_true h'.2.1)];rfl
 unfold A27 E37 E2g E5q;rw[hn1,hn2];rfl
theorem C2z (D fu:Nat)(e:XR)(l:List XR)(hl:l.length<=1000000)(h1:e.kn=l.length)(h2:e.kc=l.flatMap XR.cells)(hs:sG e=true){d:Int}(h0:0<=d)(hd:d<=1000){bs:List Bool}(hb:F7 (fun x=>uF D x (d+1)) l=some bs):∀(k i m:Nat),i+k=l.length->k<m->
  exL (D4p D) fu m (D93 e d (i:Int))=boB ((bs.drop i).all id&&okB e)
 |k,i,0,_,h=>by omega
 |0,i,m+1,hi,_=>by
  unfold exL;rw[B6,C01,B1 (decide_eq_false (by omega)),Bb (by rw[E6 hb];omega),D4s hs];rfl
 |k+1,i,m+1,hi,hm=>by
  have hc:=Ag (l:=l) (i:=i) (by omega);generalize l[i]=x at hc;obtain⟨b,h3,h4⟩:=J8 hb i x hc
  have hdr:bs.drop i=b::bs.drop (i+1):=by
   have:=(Aj.1 h3);rw[Av this.1,this.2]
  have ih:=C2z D fu e l hl h1 h2 hs h0 hd hb k (i+1) m (by omega) (by omega);unfold exL at ih ⊢;rw[B6,C01,A4 (decide_eq_true (by omega)),h1,h2,kT hc,B2 (x:=d+1) (by omega) (by omega)];show((uF D x (d+1)).bind _)=_;rw[h4,Aa,hdr,Ci]
  cases b with
  |false=>rfl
  |true =>
   rw[Au,cond_false,B2 (by omega) (by omega),show(i:Int)+1=((i+1:Nat):Int)by omega];exact ih
theorem all_map (l:List TX)(p:TX->Bool):(l.map p).all id=l.all p:=by
 induction l with
 |nil=>rfl
 |cons a l ih=>rw[Cb,Ci,Ci,ih];rfl
theorem D1x:∀D,D8 F6 Ws 20 (vK (uF D))
 |0=>A6l fun _ _=>rfl
 |D+1 =>
  have ih:=D1x D
  B3m D4 (A0 ih (A0 A9h (A0 E13 (A0 F4t (A0 D7w A2))))) A7 (h:=hEx) Tryz.func20 rfl (by decide) fun e d r h=>by
   unfold uF at h;obtain⟨t,ht,h⟩:=Ab.1 h;obtain⟨hd,h⟩:=B8 h;injection h with h;simp only[Ae,decide_eq_true_eq]at hd;obtain⟨l,ts,h0,h1,h2,h3,rfl,h4⟩:=mQ ht;subst h;refine⟨l.length+1,(E89 (D4p D) _ e d).trans ?_⟩
   by_cases h60:d=60
   ·subst h60;rfl
   ·obtain⟨n,hn⟩:∃n:Nat,(n:Int)=59-d:=⟨(59-d).toNat,by omega⟩
    have hk:e.kn<=1000000:=by
     unfold sG at h0;simp only[Ae,decide_eq_true_eq]at h0;exact h0.2.2.2
    rw[show(60-d).toNat=n+1 by omega,jL (by rw[h1,h4]),beq_eq_false_iff_ne.2 h60,cond_false]
    have hb:F7 (fun x=>uF D x (d+1)) l=some (ts.map fun t=>S3 n t):=C3k (by simp[h4]) fun i x hx=>by
     obtain⟨t,g1,g2⟩:=B4g h3 hd.1 (by omega) hn i x hx;exact⟨S3 n t,by rw[Az,g1];rfl,g2⟩
    refine(C2z D _ e l (by omega) h1 h2 h0 hd.1 (by omega) hb l.length 0 _ (by omega) (by omega)).trans ?_;rw[Bt,all_map,Bool.and_comm];rfl
mutual
def wJ:TX->TX->Bool
 |.mk k op vk vn vc vs tb nm nt tk ts ks,.mk k' op' vk' vn' vc' vs' tb' nm' nt' tk' ts' ks' =>
  cI ⟨k,0,op,vk,vn,vc,vs,tb,nm,nt,tk,ts,none,0,[]⟩ ⟨k',0,op',vk',vn',vc',vs',tb',nm',nt',tk',ts',none,0,[]⟩&&V5 ks ks'
def V5:List TX->List TX->Bool
 |[],[]=>true
 |t::ts,u::us=>wJ t u&&V5 ts us
 |_,_=>false
end
theorem B4t (e:XR):cI e e=true:=by simp[cI,yO,yD]
mutual
theorem A3x:∀t:TX,wJ t t=true
 |.mk k op vk vn vc vs tb nm nt tk ts ks=>by rw[wJ,B4t,zL ks];rfl
theorem zL:∀ts:List TX,V5 ts ts=true
 |[]=>by rw[V5]
 |t::ts=>by rw[V5,A3x t,zL ts];rfl
end
theorem tH:∀{ts us:List TX},ts.length≠us.length->V5 ts us=false
 |[],[],h=>absurd rfl h
 |[],_::_,_=>by rw[V5];all_goals simp
 |_::_,[],_=>by rw[V5];all_goals simp
 |t::ts,u::us,h=>by rw[V5,tH (by simpa using h),Ch]
def smD (D:Nat)(x y:XR):Option Bool:=(er D x).bind fun t=>(er D y).bind fun u=>some (wJ t u)
open Classical in
noncomputable def vQ (D:Nat) (x y:XR) (p:Bool):Option Bool:=bif p then(er D x).bind fun _=>if x=y then some true else none else smD D x y
def tL (D:Nat)(n:Nat)(c:List PV)(m:Nat)(d:List PV):Option Bool :=
 (bE 13 xrG n c).bind fun l=>(bE 13 xrG m d).bind fun l'=>bif decide (l.length<=1000000)&&decide (l'.length<=1000000)then(F7 (er D) l).bind fun ts=>(F7 (er D) l').bind fun us=>some (V5 ts us)else none
open Classical in
noncomputable def A5h (D:Nat) (n:Nat) (c:List PV) (m:Nat) (d:List PV) (p:Bool):Option Bool :=
 bif p then(bE 13 xrG n c).bind fun l=>bif decide (l.length<=1000000)then(F7 (er D) l).bind fun _=>if n=m/\c=d then some true else none else none else tL D n c m d
section
variable {NG:Nat} {W:World->Prop}
theorem D4k {f:FuncId}{g:XR->XR->Option Bool}(hg:∀x d,g x d=none):D8 NG W f (tXX g) where
 nat:=C1k _
 call:=fun M xs vs r hW hng hgo hr h=>by
  exfalso;simp only[tXX]at h;split at h
  ·obtain⟨e,-,h⟩:=I5 h;obtain⟨d,-,h⟩:=I5 h;rw[hg]at h
   cases h
  ·cases h
theorem C84 {f:FuncId}{g:XR->XR->Bool->Option Bool}(hg:∀x d p,g x d p=none):D8 NG W f (A5c g) where
 nat:=B3o _
 call:=fun M xs vs r hW hng hgo hr h=>by
  exfalso;simp only[A5c]at h;split at h
  ·obtain⟨e,-,h⟩:=I5 h;obtain⟨d,-,h⟩:=I5 h;rw[hg]at h
   cases h
  ·cases h
end
theorem gM {α:Type}{l:List α}{i:Nat}{x:α}(h:l[i]? =some x):l.drop i=x::l.drop (i+1):=by
 have:=(Aj.1 h);rw[Av this.1,this.2]
theorem C3e (D fu:Nat)(nl ml:Option Bool)(l l':List XR)(hl:l.length<=1000000)(hll:l.length=l'.length){ts us:List TX}(h1:F7 (er D) l=some ts)(h2:F7 (er D) l'=some us):∀(k i m:Nat),i+k=l.length->k<m->
  eqL (smD D) fu m (E4b nl l.length (l.flatMap XR.cells) ml l'.length (l'.flatMap XR.cells) (i:Int))=some (.bool (V5 (ts.drop i) (us.drop i)))
 |k,i,0,_,h=>by omega
 |0,i,m+1,hi,_=>by
  unfold eqL;rw[B6,C3f,B1 (decide_eq_false (by omega)),Bb (by rw[E6 h1];omega),Bb (by rw[E6 h2];omega),V5]
 |k+1,i,m+1,hi,hm=>by
  have hc:=Ag (l:=l) (i:=i) (by omega);have hc':=Ag (l:=l') (i:=i) (by omega);generalize l[i]=x at hc;generalize l'[i]=y at hc';obtain⟨t,h3,h4⟩:=J8 h1 i x hc;obtain⟨u,h5,h6⟩:=J8 h2 i y hc';have ih:=C3e D fu nl ml l l' hl hll h1 h2 k (i+1) m (by omega) (by omega);unfold eqL at ih ⊢;rw[B6,C3f,A4 (decide_eq_true (by omega)),kT hc,kT hc',smD,h4,Aa,h6,Aa,Aa,gM h3,gM h5,V5]
  cases wJ t u with
  |false=>rfl
  |true =>
   rw[Au,cond_false,B2 (by omega) (by omega),show(i:Int)+1=((i+1:Nat):Int)by omega,Ba];exact ih
theorem neI {a b:Nat}(h:a≠b):((a:Int) !=(b:Int))=true:=bne_iff_ne.2 (by omega)
theorem eqI {a b:Nat}(h:a=b):((a:Int) !=(b:Int))=false:=by subst h;simp
theorem E8k {D:Nat}(hr:D8 F6 Ws 12 (tXX (smD D))):D8 F6 Ws 63 (C5o (tL D)) :=
 D0y D4 (A0 hr A2) A7 (h:=hEq) Tryz.func63 rfl (by decide) fun nl n c ml m d r h=>by
  unfold tL at h;obtain⟨l,hl,h⟩:=Ab.1 h;obtain⟨l',hl',h⟩:=Ab.1 h;obtain⟨hg,h⟩:=B8 h;obtain⟨ts,h1,h⟩:=Ab.1 h;obtain⟨us,h2,h⟩:=Ab.1 h;injection h with h;subst h;simp only[Ae,decide_eq_true_eq]at hg;obtain⟨rfl,rfl⟩:=T7 jS hl;obtain⟨rfl,rfl⟩:=T7 jS hl';refine⟨l.length+1,(F27 (smD D) _ _ _ _ _ _ _).trans ?_⟩
  by_cases hne:l.length=l'.length
  ·rw[eqI hne,cond_false];exact C3e D _ _ _ l l' hg.1 hne h1 h2 l.length 0 _ (by omega) (by omega)
  ·rw[neI hne,cond_true,tH (by rw[E6 h1,E6 h2];exact hne)]
theorem B5z {D:Nat}(hr:D8 F6 Ws 12 (tXX (smD D))):D8 F6 Ws 29 (tKK (tL D)) :=
 E2s D4 (A0 (E8k hr) A2) A7 (h:=I4) Tryz.func29 rfl (by decide) fun nl n c ml m d r h=>⟨0,(C6w (tL D) 0 nl n c ml m d).trans (by rw[h];rfl)⟩
theorem A1m {x:XR}(h:sG x=true):x.kn<=1000000:=by
 unfold sG at h;simp only[Ae,decide_eq_true_eq]at h;exact h.2.2.2
theorem A4a {x:XR}{l:List XR}(h1:x.kn=l.length)(h2:x.kc=l.flatMap XR.cells):bE 13 xrG x.kn x.kc=some l:=by rw[h1,h2];exact rG tQ A1t l
theorem B0g:∀D,D8 F6 Ws 12 (tXX (smD D))
 |0=>D4k fun _ _=>rfl
 |D+1 =>
  C1s D4 (A0 B1o (A0 (B5z (B0g D)) A2)) A7 (h:=I4) Tryz.func12 rfl (by decide) fun e d r h=>⟨0,(D4w _ (tL D) 0 e d).trans (by
   unfold smD at h;obtain⟨t,ht,h⟩:=Ab.1 h;obtain⟨u,hu,h⟩:=Ab.1 h;injection h with h;obtain⟨l,ts,h0,h1,h2,h3,rfl,h4⟩:=mQ ht;obtain⟨l',us,g0,g1,g2,g3,rfl,g4⟩:=mQ hu;subst h;have hk:=A1m h0;have hk':=A1m g0
   have e1:tL D e.kn e.kc d.kn d.kc=some (V5 ts us):=by
    unfold tL;rw[A4a h1 h2,Aa,A4a g1 g2,Aa,A4 (by simp only[Ae,decide_eq_true_eq];omega),h3,Aa,g3];rfl
   rw[wJ,Aa,e1];show(bif cI e d then _ else _)=some (PV.bool (cI e d&&V5 ts us))
   cases cI e d<;>rfl)⟩
theorem C5e (e d:XR):vT e d false=!cI e d:=by
 unfold vT cI;simp only[bne]
 cases e.k==d.k<;>cases e.op==d.op<;>cases dA e.vk e.vn e.vc e.vs d.vk d.vn d.vc d.vs<;>cases e.tb==d.tb<;>cases e.nm==d.nm<;>cases e.nt==d.nt<;>cases cZ e.tk e.ts d.tk d.ts<;>rfl
theorem B1y (e:XR)(p:Bool):vT e e p=false:=by
 unfold vT;simp[yO,yD]
theorem C02 (D fu:Nat)(nl ml:Option Bool)(l l':List XR)(hl:l.length<=1000000)(hll:l.length=l'.length){ts us:List TX}(h1:F7 (er D) l=some ts)(h2:F7 (er D) l'=some us):∀(k i m:Nat),i+k=l.length->k<m->
  ssL (vQ D) fu m (D5m nl l.length (l.flatMap XR.cells) ml l'.length (l'.flatMap XR.cells) false (i:Int))=some (.bool (V5 (ts.drop i) (us.drop i)))
 |k,i,0,_,h=>by omega
 |0,i,m+1,hi,_=>by
  unfold ssL;rw[B6,A19,B1 (decide_eq_false (by omega)),Bb (by rw[E6 h1];omega),Bb (by rw[E6 h2];omega),V5]
 |k+1,i,m+1,hi,hm=>by
  have hc:=Ag (l:=l) (i:=i) (by omega);have hc':=Ag (l:=l') (i:=i) (by omega);generalize l[i]=x at hc;generalize l'[i]=y at hc';obtain⟨t,h3,h4⟩:=J8 h1 i x hc;obtain⟨u,h5,h6⟩:=J8 h2 i y hc';have ih:=C02 D fu nl ml l l' hl hll h1 h2 k (i+1) m (by omega) (by omega)
  have hs:vQ D x y false=some (wJ t u):=by
   show smD D x y=_;rw[smD,h4,Aa,h6,Aa]
  unfold ssL at ih ⊢;rw[B6,A19,A4 (decide_eq_true (by omega)),kT hc,kT hc',hs,Aa,gM h3,gM h5,V5]
  cases wJ t u with
  |false=>rfl
  |true =>
   rw[Au,cond_false,B2 (by omega) (by omega),show(i:Int)+1=((i+1:Nat):Int)by omega,Ba];exact ih
theorem B1f (D fu:Nat)(nl ml:Option Bool)(l:List XR)(hl:l.length<=1000000){ts:List TX}(h1:F7 (er D) l=some ts):∀(k i m:Nat),i+k=l.length->k<m->
  ssL (vQ D) fu m (D5m nl l.length (l.flatMap XR.cells) ml l.length (l.flatMap XR.cells) true (i:Int))=some (.bool true)
 |k,i,0,_,h=>by omega
 |0,i,m+1,hi,_=>by
  unfold ssL;rw[B6,A19,B1 (decide_eq_false (by omega))]
 |k+1,i,m+1,hi,hm=>by
  have hc:=Ag (l:=l) (i:=i) (by omega);generalize l[i]=x at hc;obtain⟨t,h3,h4⟩:=J8 h1 i x hc;have ih:=B1f D fu nl ml l hl h1 k (i+1) m (by omega) (by omega)
  have hs:vQ D x x true=some true:=by
   unfold vQ;rw[cond_true,h4,Aa,if_pos rfl]
  unfold ssL at ih ⊢;rw[B6,A19,A4 (decide_eq_true (by omega)),kT hc,kT hc,hs,Aa,Au,cond_false,B2 (by omega) (by omega),show(i:Int)+1=((i+1:Nat):Int)by omega];exact ih
theorem C4w {D:Nat}(hr:D8 F6 Ws 11 (A5c (vQ D))):D8 F6 Ws 27 (C5q (A5h D)) :=
 D6z D4 (A0 hr A2) A7 (h:=hSs) Tryz.func27 rfl (by decide) fun nl n c ml m d p r h=>by
  unfold A5h at h
  cases p with
  |false =>
   rw[cond_false]at h;unfold tL at h;obtain⟨l,hl,h⟩:=Ab.1 h;obtain⟨l',hl',h⟩:=Ab.1 h;obtain⟨hg,h⟩:=B8 h;obtain⟨ts,h1,h⟩:=Ab.1 h;obtain⟨us,h2,h⟩:=Ab.1 h;injection h with h;subst h;simp only[Ae,decide_eq_true_eq]at hg;obtain⟨rfl,rfl⟩:=T7 jS hl;obtain⟨rfl,rfl⟩:=T7 jS hl';refine⟨l.length+1,(D1k (vQ D) _ _ _ _ _ _ _ _).trans ?_⟩
   by_cases hne:l.length=l'.length
   ·rw[eqI hne,cond_false];exact C02 D _ _ _ l l' hg.1 hne h1 h2 l.length 0 _ (by omega) (by omega)
   ·rw[neI hne,cond_true,tH (by rw[E6 h1,E6 h2];exact hne)]
  |true =>
   rw[cond_true]at h;obtain⟨l,hl,h⟩:=Ab.1 h;obtain⟨hg,h⟩:=B8 h;obtain⟨ts,h1,h⟩:=Ab.1 h;split at h
   ·rename_i hnm;injection h with h;subst h;obtain⟨rfl,rfl⟩:=hnm;obtain⟨rfl,rfl⟩:=T7 jS hl;refine⟨l.length+1,(D1k (vQ D) _ _ _ _ _ _ _ _).trans ?_⟩;rw[eqI rfl,cond_false];exact B1f D _ _ _ l (of_decide_eq_true hg) h1 l.length 0 _ (by omega) (by omega)
   ·cases h
theorem B63:∀D,D8 F6 Ws 11 (A5c (vQ D))
 |0=>C84 fun x y p=>by cases p<;>rfl
 |D+1 =>
  D5f D4 (A0 (C4w (B63 D)) A2) A7 (h:=I4) Tryz.func11 rfl (by decide) fun e d p r h=>⟨0,(C8a (A5h D) 0 e d p).trans (by
   unfold vQ at h
   cases p with
   |false =>
    rw[cond_false]at h;unfold smD at h;obtain⟨t,ht,h⟩:=Ab.1 h;obtain⟨u,hu,h⟩:=Ab.1 h;injection h with h;obtain⟨l,ts,h0,h1,h2,h3,rfl,h4⟩:=mQ ht;obtain⟨l',us,g0,g1,g2,g3,rfl,g4⟩:=mQ hu;subst h;have hk:=A1m h0;have hk':=A1m g0
    have e1:A5h D e.kn e.kc d.kn d.kc false=some (V5 ts us):=by
     show tL D e.kn e.kc d.kn d.kc=_;unfold tL;rw[A4a h1 h2,Aa,A4a g1 g2,Aa,A4 (by simp only[Ae,decide_eq_true_eq];omega),h3,Aa,g3];rfl
    rw[e1,wJ,C5e];show _=some (PV.bool (cI e d&&V5 ts us))
    cases cI e d<;>rfl
   |true =>
    rw[cond_true]at h;obtain⟨t,ht,h⟩:=Ab.1 h;split at h
    ·rename_i hed;injection h with h;subst h;subst hed;obtain⟨l,ts,h0,h1,h2,h3,rfl,h4⟩:=mQ ht;have hk:=A1m h0
     have e1:A5h D e.kn e.kc e.kn e.kc true=some true:=by
      unfold A5h;rw[cond_true,A4a h1 h2,Aa,A4 (decide_eq_true (by omega)),h3,Aa,if_pos ⟨rfl,rfl⟩]
     rw[B1y,e1];rfl
    ·cases h)⟩
theorem pW {α β:Type}{cs:List PV}{i:Int}{j:Nat}{kk:Int->Option α}{k:α->Option β}:(tkI cs i j kk).bind k=tkI cs i j fun a=>(kk a).bind k:=by simp only[tkI,Ad]
theorem B3v {α β:Type}{cs:List PV}{i:Int}{j:Nat}{kk:List UInt8->Option α}{k:α->Option β}:(tkS cs i j kk).bind k=tkS cs i j fun a=>(kk a).bind k:=by simp only[tkS,Ad]
theorem D6t {α β:Type}{cs:List PV}{i:Int}{j:Nat}{kk:Int->Option α}{k:α->Option β}:(tkJ cs i j kk).bind k=tkJ cs i j fun a=>(kk a).bind k:=by simp only[tkJ,Ad]
theorem D1u {α β:Type}{cs:List PV}{i:Int}{kk:Int->Int->Int->List UInt8->Option α}{k:α->Option β}:(tkV cs i kk).bind k=tkV cs i fun a b c d=>(kk a b c d).bind k:=by simp only[tkV,Ad]
theorem mO {α β:Type}{s:RS}{x a:Option α}{k:α->Option β}:(cQ s x a).bind k=cQ s (x.bind k) (a.bind k):=by simp only[cQ,B5]
def kD (s:RS):Option (Int×RS):=bif decide (s.i<(s.n:Int))then X0 s.inB (tkI s.cs s.i 1 fun a=>some (a,s))else some (s.e,s)
def Y1 (s:RS)(a:Int):Option RS:=bif decide (s.b<0)then some ⟨s.nl,s.n,s.cs,s.i,s.e,s.o,a⟩else some s
def cM (s:RS)(w:List UInt8):Option (Bool×RS) :=
 cQ s (X0 s.inB (tkI s.cs s.i 0 fun k=>bif !(k==1)then X0 s.inB (tkI s.cs s.i 0 fun k=>bif k==3 then X0 s.inB (tkS s.cs s.i 2 fun t=>some (t==w,s))else some (false,s))else X0 s.inB (tkS s.cs s.i 2 fun t=>some (t==w,s)))) (some (false,s))
def P8 (s:RS)(w:List UInt8):Option (Bool×RS):=(cM s w).bind fun r=>bif r.1 then some (true,r.2.next)else some (false,r.2)
def RS.back (s:RS):Int:=IntKind.i64.wrap (IntKind.i64.wrap (s.i+1)-1)
def RS.backB (s:RS):Bool:=decide (0<=s.back)&&decide (s.back<(s.n:Int))
def kV (s:RS):Option (List UInt8×RS) :=
 cQ s (X0 s.inB (tkI s.cs s.i 0 fun k=>bif k==0 then X0 s.backB (tkS s.cs s.back 2 fun t=>some (t,s.next))else(kD s).bind fun a=>(Y1 a.2 a.1).bind fun s=>some ([],s))) ((kD s).bind fun a=>(Y1 a.2 a.1).bind fun s=>some ([],s))
def lO (s:RS)(m:Int):Option (Int×RS) :=
 let A:Option (Int×RS):=(kD s).bind fun a=>(Y1 a.2 a.1).bind fun s=>some (0,s)
 cQ s (X0 s.inB (tkI s.cs s.i 0 fun k=>bif k==2 then X0 s.inB (tkI s.cs s.i 3 fun vk=>bif vk==2 then X0 s.inB (tkJ s.cs s.i 1 fun vn=>bif decide (vn<=m)then X0 s.backB (tkJ s.cs s.back 1 fun t=>some (t,s.next))else A)else A)else A)) A
def iU (s:RS):Option (Bool×RS):=bif s.o==20 then(kD s).bind fun a=>(Y1 a.2 a.1).bind fun s=>some (false,s)else some (decide (s.b<0),s.open)
def kQ (w:List UInt8):Option Int:=bif w==[79,82]then some 0 else bif w==[65,78,68]then some 1 else orK w (some 3) (orK w (some 4) (orK w (some 5) (some (-1)) [[42],[47],[37]]) [[43],[45]]) [[61],[60,62],[60],[60,61],[62],[62,61]]
def gA:List (List UInt8)->RS->Option RS
 |[],s=>some s
 |w::ws,s=>(P8 s w).bind fun r=>bif !r.1 then(kD r.2).bind fun a=>(Y1 a.2 a.1).bind fun s=>gA ws s else gA ws r.2
def cL (s:RS)(n:Nat)(ws:List PV):Option RS:=(bE 1 stG n ws).bind fun l=>bif decide (l.length<=1000000)then gA l s else none
def wH (s:RS):Option (VR×RS) :=
 let A:Option (VR×RS):=(P8 s [78,85,76,76]).bind fun r=>bif r.1 then some (⟨0,0,0,[],true⟩,r.2)else(P8 r.2 [84,82,85,69]).bind fun r=>bif r.1 then some (⟨1,1,0,[],true⟩,r.2)else(P8 r.2 [70,65,76,83,69]).bind fun r=>bif r.1 then some (⟨1,0,0,[],true⟩,r.2)else some (⟨0,0,0,[],false⟩,r.2)
 cQ s (X0 s.inB (tkI s.cs s.i 0 fun k=>bif k==2 then X0 s.backB (tkV s.cs s.back fun vk vn vc vs=>some (⟨vk,vn,vc,vs,true⟩,s.next))else A)) A
def A34 (s:RS):Option (Bool×RS):=(cM s [40]).bind fun r=>bif !r.1 then(kD r.2).bind fun a=>(Y1 a.2 a.1).bind fun s=>some (false,s)else(iU r.2).bind fun d=>bif !d.1 then some (false,d.2)else some (true,d.2.next)
def jD (s:RS):Option RS:=(cL s 1 [.str [41]]).bind fun s=>some s.shut
def nN (s:RS):Option ((Int×Int)×RS) :=
 (P8 s [66,79,79,76]).bind fun r=>bif !r.1 then(P8 r.2 [73,78,84]).bind fun r=>bif !r.1 then(P8 r.2 [68,69,67,73,77,65,76]).bind fun r=>bif !r.1 then(P8 r.2 [84,69,88,84]).bind fun r=>bif !r.1 then(P8 r.2 [66,89,84,69,83]).bind fun r=>bif !r.1 then(kD r.2).bind fun a=>(Y1 a.2 a.1).bind fun s=>some ((0,0),s)
  else tyK cL lO 4 r.2 fun s a b=>some ((a,b),s)else tyK cL lO 3 r.2 fun s a b=>some ((a,b),s)else tyK cL lO 2 r.2 fun s a b=>some ((a,b),s)else tyK cL lO 1 r.2 fun s a b=>some ((a,b),s)else tyK cL lO 0 r.2 fun s a b=>some ((a,b),s)
section
variable {NG:Nat} {W:World->Prop} (hW:Y0 NG W)
include hW
theorem qB:P9 NG W 26 (tRI kD):=D97 hW A2 A7 Tryz.func26 rfl (by decide) fun s=>⟨0,fun K=>(E5d 0 s K).trans (by simp only[kD,B5,Y7,pW,Aa])⟩
theorem xS:P9 NG W 109 (zU Y1):=D82 hW A2 A7 Tryz.func109 rfl (by decide) fun s a=>⟨0,fun K=>(B9g 0 s a K).trans (by simp only[Y1,B5,Aa])⟩
theorem lL:P9 NG W 59 (qA cM):=B1n hW A2 A7 Tryz.func59 rfl (by decide) fun s w=>⟨0,fun K=>(C45 0 s w K).trans (by simp only[cM,mO,B5,Y7,pW,B3v,Aa])⟩
theorem qG:P9 NG W 110 (qA P8):=B1n hW A2 (A3 (lL hW) A7) Tryz.func110 rfl (by decide) fun s w=>⟨0,fun K=>(C5p _ 0 s w K).trans (by simp only[P8,B5,Ad,Aa])⟩
theorem A7q:I9 NG W [(26,tRI kD),(109,zU Y1)]:=A3 (qB hW) (A3 (xS hW) A7)
theorem D4v:P9 NG W 195 (tRS kV):=E27 hW A2 (A7q hW) Tryz.func195 rfl (by decide) fun s=>⟨0,fun K=>(C48 _ _ 0 s K).trans (by simp only[kV,RS.back,RS.backB,mO,B5,Y7,pW,B3v,Ad,Aa];rfl)⟩
theorem E0f:P9 NG W 232 (C41 lO):=D22 hW A2 (A7q hW) Tryz.func232 rfl (by decide) fun s a=>⟨0,fun K=>(D6m _ _ 0 s a K).trans (by simp only[lO,RS.back,RS.backB,mO,B5,Y7,pW,D6t,Ad,Aa];rfl)⟩
theorem A37:P9 NG W 60 (tRB iU):=C2e hW A2 (A7q hW) Tryz.func60 rfl (by decide) fun s=>⟨0,fun K=>(C5y _ _ 0 s K).trans (by simp only[iU,B5,Ad,Aa])⟩
theorem C7k:D8 NG W 112 (tWi kQ):=C1l hW A2 A7 Tryz.func112 rfl (by decide) fun s=>⟨0,(C5l 0 s).trans (by simp only[kQ,orK,B5,Aa])⟩
theorem C2k (fu:Nat)(nl:Option Bool)(l:List (List UInt8))(hl:l.length<=1000000)(K:KR):∀(k i n:Nat) (s:RS),i+k=l.length->k<n->
  muL P8 kD Y1 fu K n (C9b nl l.length (l.flatMap pB) (l.length:Int) (i:Int) s)=(gA (l.drop i) s).bind fun s=>K [s.box] (.tuple [])
 |k,i,0,s,_,h=>by have _:=hW;omega
 |0,i,n+1,s,hi,hn=>by
  unfold muL;rw[R6,C3j,B1 (decide_eq_false (by omega)),Bb (by omega)];rfl
 |k+1,i,n+1,s,hi,hn=>by
  have hc:=Ag (l:=l) (i:=i) (by omega);rw[Av (show i<l.length by omega)];generalize l[i]=a at hc;have ih:=fun s=>C2k fu nl l hl K k (i+1) n s (by omega) (by omega);unfold muL at ih ⊢;rw[R6,C3j,A4 (decide_eq_true (by omega)),X0,A4 (by rw[decide_eq_true (by omega),decide_eq_true (by omega)];rfl),At,jK A0y hc,B2 (by omega) (by omega)];simp only[pB,Eb,Aa,PV.asStr,gA,rB];rw[Ad];congr 1;funext r;rw[B5,Ad]
  have e:((i:Int)+1)=((i+1:Nat):Int):=by omega
  rw[e];congr 1
  ·congr 1;funext a;rw[Ad];congr 1;funext s;exact ih s
  ·exact ih r.2
theorem vD:P9 NG W 111 (B1a cL) :=
 E4 hW A2 (A3 (qG hW) (A7q hW)) B3 (h:=hMu) Tryz.func111 rfl (by decide) (D3j _) fun bs xs r h=>by
  simp only[B1a]at h;split at h
  ·rename_i nl z n ws;obtain⟨hz,h1⟩:=A5 h;subst hz;obtain⟨s,hbs,h2⟩:=Q5 h1;subst hbs;obtain⟨q,hq,h3⟩:=Ab.1 h2;unfold cL at hq;obtain⟨l,hl,hq⟩:=Ab.1 hq;obtain⟨hle,hq⟩:=B8 hq;obtain⟨e1,e2⟩:=T7 A0t hl;refine⟨l.length+1,Cw ?_ h3⟩;refine(F0v P8 kD Y1 _ s nl n ws _).trans ?_;rw[e1,e2];refine(C2k hW _ nl l (of_decide_eq_true hle) _ l.length 0 _ s (by omega) (by omega)).trans ?_;rw[Bt,hq];rfl
  ·cases h
theorem E2q:P9 NG W 194 (tRL wH):=E4k hW A2 (A3 (qG hW) A7) Tryz.func194 rfl (by decide) fun s=>⟨0,fun K=>(D7r kD _ 0 s K).trans (by simp only[wH,RS.back,RS.backB,mO,B5,Y7,pW,D1u,Ad,Aa];rfl)⟩
theorem D51:P9 NG W 191 (tRB A34):=C2e hW A2 (A3 (lL hW) (A3 (qB hW) (A3 (xS hW) (A3 (A37 hW) A7)))) Tryz.func191 rfl (by decide) fun s=>⟨0,fun K=>(C7a _ _ _ _ 0 s K).trans (by simp only[A34,rB,B5,Ad,Aa])⟩
theorem C9r:P9 NG W 192 (tRU jD):=D9v hW A2 (A3 (vD hW) A7) Tryz.func192 rfl (by decide) fun s=>⟨0,fun K=>(C6f _ 0 s K).trans (by simp only[jD,Ad,Aa])⟩
theorem C8o:P9 NG W 193 (tRY nN):=E4o hW A2 (A3 (qG hW) (A3 (qB hW) (A3 (xS hW) (A3 (vD hW) (A3 (E0f hW) A7))))) Tryz.func193 rfl (by decide) fun s=>⟨7,fun K=>(B6w _ _ _ _ _ 0 s K).trans (by simp only[nN,tyK,rB,B5,Ad,Aa])⟩
end
structure RF where
 expr:RS->Int->Option (XR×RS)
 rest:RS->XR->Int->Int->Option (XR×RS)
 fact:RS->Option (XR×RS)
 atom:RS->Option (XR×RS)
structure ROK (NG:Nat)(W:World->Prop)(P:RF):Prop where
 expr:P9 NG W 25 (A3c P.expr)
 rest:P9 NG W 61 (B9a P.rest)
 fact:P9 NG W 62 (tRX P.fact)
 atom:P9 NG W 113 (tRX P.atom)
def lG (t:TR)(p l h:Int):Bool:=bif(bif(bif(bif t.k !=1 then t.k !=3 else false)then true else decide (p<l))then true else decide (h<p))then true else(bif p==3 then h==3 else false)
def rU (X:RS->Int->Option (XR×RS)):Nat->RS->XR->Int->Int->Option (XR×RS)
 |0,_,_,_,_=>none
 |m+1,s,e,l,h=>cQ s ((kD s).bind fun a=>(let N:RS->Option (XR×RS):=fun s=>X0 s.inB (tkT s.cs s.i fun t=>(kQ t.t).bind fun p =>
   bif lG t p l h then some (e,s)else(X s.next (IntKind.i64.wrap (p+1))).bind fun y=>rU X m y.2 (Z9 a.1 t.t e y.1) l p)
   bif(bif decide (l<=3)then decide (3<h)else false)then(cM a.2 [73,83]).bind fun r=>bif r.1 then(P8 r.2.next [78,79,84]).bind fun n=>(cL n.2 1 [.str [78,85,76,76]]).bind fun s=>rU X m s (fS a.1 n.1 e) l 3 else N r.2 else N a.2))
  (some (e,s))
def kA (P:RF):FAt:=⟨kD,cM,P8,A34,P.expr,jD,cL,nN,wH,kV⟩
def nQ (P:RF):FRe:=⟨kD,cM,P8,cL,kQ,P.expr⟩
def iK (P:RF):RF where
 rest:=fun s e l h=>rU P.expr (s.n+2) s e l h
 fact:=fun s=>(kD s).bind fun a=>(cM a.2 [45]).bind fun r=>bif !r.1 then(P.atom r.2).bind fun e=>some (e.1,e.2)else(iU r.2).bind fun d=>bif !d.1 then some (XR.zero,d.2)else(P.fact d.2.next).bind fun e=>some (wW a.1 [45] e.1,e.2.shut)
 expr:=fun s l=>(kD s).bind fun a=>(let B:RS->Option (XR×RS):=fun s=>(P.fact s).bind fun e=>(P.rest e.2 e.1 l 6).bind fun e=>some (e.1,e.2)
  bif decide (l<=2)then(cM a.2 [78,79,84]).bind fun r=>bif r.1 then(iU r.2).bind fun d=>bif !d.1 then some (XR.zero,d.2)else(P.expr d.2.next 2).bind fun e=>(P.rest e.2.shut (wW a.1 [78,79,84] e.1) l 2).bind fun e=>some (e.1,e.2)else B r.2 else B a.2)
 atom:=fun s=>(let F:=kA P
  let KX:XR->RS->Option (XR×RS):=fun e s=>some (e,s)
  (F.fa s).bind fun a=>(F.fs a.2 [40]).bind fun r=>bif r.1 then(F.fo r.2).bind fun o=>bif !o.1 then KX XR.zero o.2 else(F.fx o.2 0).bind fun e=>(F.fh e.2).bind fun s=>KX e.1 s else
  (F.fe r.2 [67,65,83,84]).bind fun r=>bif r.1 then(F.fo r.2).bind fun o=>bif !o.1 then KX XR.zero o.2 else(F.fx o.2 0).bind fun e=>(F.fm e.2 1 [.str [65,83]]).bind fun s=>(F.fy s).bind fun y=>(F.fh y.2).bind fun s=>KX (gG a.1 y.1.1 y.1.2 e.1) s else
  (F.fe r.2 [67,79,85,78,84]).bind fun r=>bif !r.1 then(F.fe r.2 [83,85,77]).bind fun r=>bif !r.1 then(F.fe r.2 [77,73,78]).bind fun r=>bif !r.1 then(F.fe r.2 [77,65,88]).bind fun r=>bif !r.1 then
   (F.fl r.2).bind fun v=>bif v.1.ok then KX (pN a.1 v.1.vk v.1.vn v.1.vc v.1.vs) v.2 else(F.fn v.2).bind fun n=>(F.fe n.2 [46]).bind fun r=>bif r.1 then(F.fn r.2).bind fun m=>KX (dX a.1 n.1 m.1) m.2 else KX (dX a.1 [] n.1) r.2
   else fW F a.1 [77,65,88] false r.2 KX else fW F a.1 [77,73,78] false r.2 KX else fW F a.1 [83,85,77] false r.2 KX else fW F a.1 [67,79,85,78,84] true r.2 KX)
def rf0:RF:=⟨fun _ _=>none,fun _ _ _ _=>none,fun _=>none,fun _=>none⟩
def dW:Nat->RF
 |0=>rf0
 |d+1=>iK (dW d)
theorem E82 (P:RF)(fu:Nat)(K:KR):∀(m:Nat) (s:RS) (e:XR) (l h:Int) (q:XR×RS),rU P.expr m s e l h=some q->reL (nQ P) fu K m (C3x e l h s)=K [q.2.box] (.agg q.1.cells)
 |0,s,e,l,h,q,hq=>by cases hq
 |m+1,s,e,l,h,q,hq=>by
  unfold reL;rw[R6,E2k];have ih:=E82 P fu K m;unfold reL at ih;rw[rU]at hq;unfold cQ at hq ⊢
  cases hb:decide (s.b<0)with
  |false =>
   rw[hb,cond_false]at hq;injection hq with hq;subst hq;rfl
  |true =>
   rw[hb,cond_true]at hq;rw[cond_true]
   cases hi:decide (s.i<(s.n:Int))with
   |false =>
    rw[hi,cond_false]at hq;injection hq with hq;subst hq;rfl
   |true =>
    rw[hi,cond_true]at hq;rw[cond_true];obtain⟨a,ha,hq⟩:=Ab.1 hq;rw[show(nQ P).fa s=some a from ha,Aa]
    have hN:∀s:RS,(X0 s.inB (tkT s.cs s.i fun t=>(kQ t.t).bind fun p=>bif lG t p l h then some (e,s)else(P.expr s.next (IntKind.i64.wrap (p+1))).bind fun y=>rU P.expr m y.2 (Z9 a.1 t.t e y.1) l p))=some q->
      (X0 s.inB (tkT s.cs s.i fun t=>((nQ P).fp t.t).bind fun p=>bif lG t p l h then K [s.box] (.agg e.cells)else((nQ P).fx s.next (IntKind.i64.wrap (p+1))).bind fun y=>iT (hRe.loop.lookup 0) (gJ (D7n (nQ P)) hRe fu (F1j (nQ P) K) fRe [1,0,0] fun _=>none) m (C3x (Z9 a.1 t.t e y.1) l p y.2)))=K [q.2.box] (.agg q.1.cells):=by
     intro s hs;unfold X0 at hs ⊢;obtain⟨hin,hs⟩:=B8 hs;rw[hin,cond_true];unfold tkT at hs ⊢;obtain⟨x1,e1,hs⟩:=Ab.1 hs;obtain⟨y1,f1,hs⟩:=Ab.1 hs;obtain⟨x2,e2,hs⟩:=Ab.1 hs;obtain⟨y2,f2,hs⟩:=Ab.1 hs;obtain⟨x3,e3,hs⟩:=Ab.1 hs;obtain⟨y3,f3,hs⟩:=Ab.1 hs;obtain⟨x4,e4,hs⟩:=Ab.1 hs;obtain⟨y4,f4,hs⟩:=Ab.1 hs;obtain⟨x5,e5,hs⟩:=Ab.1 hs;obtain⟨y5,f5,hs⟩:=Ab.1 hs;obtain⟨x6,e6,hs⟩:=Ab.1 hs;obtain⟨y6,f6,hs⟩:=Ab.1 hs;obtain⟨x7,e7,hs⟩:=Ab.1 hs;obtain⟨y7,f7,hs⟩:=Ab.1 hs;obtain⟨p,hp,hs⟩:=Ab.1 hs;rw[e1,Aa,f1,Aa,e2,Aa,f2,Aa,e3,Aa,f3,Aa,e4,Aa,f4,Aa,e5,Aa,f5,Aa,e6,Aa,f6,Aa,e7,Aa,f7,Aa];dsimp only at hp hs ⊢;rw[show(nQ P).fp y3=some p from hp,Aa]
     cases hst:lG ⟨y1,y2,y3,y4,y5,y6,y7⟩ p l h with
     |true =>
      rw[hst,cond_true]at hs;injection hs with hs;subst hs;rfl
     |false =>
      rw[hst,cond_false]at hs;obtain⟨y,hy,hs⟩:=Ab.1 hs;rw[cond_false,show(nQ P).fx s.next (IntKind.i64.wrap (p+1))=some y from hy,Aa];exact ih _ _ _ _ q hs
    simp only at hq ⊢
    cases hc:(bif decide (l<=3)then decide (3<h)else false)with
    |false =>
     rw[hc,cond_false]at hq;rw[cond_false];exact hN a.2 hq
    |true =>
     rw[hc,cond_true]at hq;rw[cond_true];obtain⟨r,hr,hq⟩:=Ab.1 hq;rw[show(nQ P).fs a.2 [73,83]=some r from hr,Aa]
     cases hr1:r.1 with
     |false =>
      rw[hr1,cond_false]at hq;rw[cond_false];exact hN r.2 hq
     |true =>
      rw[hr1,cond_true]at hq;obtain⟨n,hn,hq⟩:=Ab.1 hq;obtain⟨s2,hs2,hq⟩:=Ab.1 hq;rw[cond_true,show(nQ P).fe r.2.next [78,79,84]=some n from hn,Aa,show(nQ P).fm n.2 1 [.str [78,85,76,76]]=some s2 from hs2,Aa];exact ih _ _ _ _ q hq
section
variable {NG:Nat} {W:World->Prop} (hW:Y0 NG W)
include hW
theorem F8y:ROK NG W rf0:=have _:=hW;⟨C7s,C4e,B2g,B2g⟩
theorem F9d {P:RF}(h:ROK NG W P):ROK NG W (iK P) where
 rest:=E4 hW (A0 (C7k hW) A2) (A3 (qB hW) (A3 (lL hW) (A3 (qG hW) (A3 (vD hW) (A3 h.expr A7))))) B3 (h:=hRe) Tryz.func61 rfl (by decide) (B23 _) fun bs xs r h=>by
  simp only[B9a]at h;split at h
  ·obtain⟨s,hbs,h2⟩:=Q5 h;subst hbs;obtain⟨e,he,h3⟩:=I5 h2;subst he;obtain⟨q,hq,h4⟩:=Ab.1 h3;exact⟨s.n+2,Cw ((E8p (nQ P) _ s e _ _ _).trans (E82 P _ _ _ s e _ _ q hq)) h4⟩
  ·cases h
 fact:=C09 hW A2 (A3 (qB hW) (A3 (lL hW) (A3 h.atom (A3 (A37 hW) (A3 h.fact A7))))) Tryz.func62 rfl (by decide)
  fun s=>⟨0,fun K=>(C3y _ _ _ _ _ 0 s K).trans (by simp only[iK,B5,Ad,Aa])⟩
 expr:=D8a hW A2 (A3 (qB hW) (A3 (lL hW) (A3 (A37 hW) (A3 h.expr (A3 h.rest (A3 h.fact A7)))))) Tryz.func25 rfl (by decide)
  fun s a=>⟨0,fun K=>(C6n _ _ _ _ _ _ 0 s a K).trans (by simp only[iK,B5,Ad,Aa])⟩
 atom:=C09 hW A2 (A3 (qB hW) (A3 (lL hW) (A3 (qG hW) (A3 (D51 hW) (A3 h.expr (A3 (C9r hW) (A3 (vD hW) (A3 (C8o hW) (A3 (E2q hW) (A3 (D4v hW) A7)))))))))) Tryz.func113 rfl (by decide)
  fun s=>⟨6,fun K=>(C76 (kA P) 0 s K).trans (by simp only[iK,fW,B5,Ad,Aa])⟩
theorem rok:∀d,ROK NG W (dW d)
 |0=>F8y hW
 |d+1=>F9d hW (rok d)
end
section
variable (L:List TR) (nl:Option Bool) (e:Int)
def RX (i:Nat)(o b:Int):RS:=⟨nl,L.length,L.flatMap TR.cells,(i:Int),e,o,b⟩
def U4 {α:Type}(a:Int)(r:Option (α×RS)):Prop:=∃x j o,j<=L.length/\r=some (x,RX L nl e j o a)
def E2 {α:Type}(o:Int)(i:Nat)(g:J3 α)(r:Option (α×RS)):Prop:=match g with
 |.bad a=>0<=a/\U4 L nl e a r
 |.ok x R=>∃j,i<=j/\j<=L.length/\R=L.drop j/\r=some (x,RX L nl e j o (-1))
structure O6 {α:Type}(o:Int)(f:RS->Option (α×RS))(g:List TR->J3 α):Prop where
 good:∀i,i<=L.length->E2 L nl e o i (g (L.drop i)) (f (RX L nl e i o (-1)))
 badd:∀i o' a,i<=L.length->0<=a->U4 L nl e a (f (RX L nl e i o' a))
variable {L:List TR} {nl:Option Bool} {e:Int}
theorem U4.ret {α:Type}{a o:Int}{i:Nat}(hi:i<=L.length)(x:α):U4 L nl e a (some (x,RX L nl e i o a)):=⟨x,i,o,hi,rfl⟩
theorem U4.bind {α β:Type}{a:Int}{r:Option (α×RS)}{k:α×RS->Option (β×RS)}(h:U4 L nl e a r)(hk:∀x j o,j<=L.length->U4 L nl e a (k (x,RX L nl e j o a))):U4 L nl e a (r.bind k):=by
 obtain⟨x,j,o,hj,rfl⟩:=h;exact hk x j o hj
theorem E2.bind {α β:Type}{o o':Int}{i:Nat}{g:J3 α}{r:Option (α×RS)}{kg:α->List TR->J3 β}{k:α×RS->Option (β×RS)}
  (h:E2 L nl e o i g r) (hk:∀x j,i<=j->j<=L.length->E2 L nl e o' j (kg x (L.drop j)) (k (x,RX L nl e j o (-1)))) (hb:∀x j o'' a,j<=L.length->0<=a->U4 L nl e a (k (x,RX L nl e j o'' a))):E2 L nl e o' i (g.bind kg) (r.bind k):=by
 cases g with
 |bad a =>
  obtain⟨ha,x,j,o'',hj,rfl⟩:=h;exact⟨ha,hb x j o'' a hj ha⟩
 |ok x R =>
  obtain⟨j,hij,hj,rfl,rfl⟩:=h;have:=hk x j hij hj;simp only[J3.bind,Aa];unfold E2 at this ⊢;split at this
  ·exact this
  ·obtain⟨j',h1,h2,h3,h4⟩:=this;exact⟨j',Nat.le_trans hij h1,h2,h3,h4⟩
theorem E2.ret {α:Type}{o:Int}{i:Nat}(hi:i<=L.length)(x:α):E2 L nl e o i (.ok x (L.drop i)) (some (x,RX L nl e i o (-1))):=⟨i,Ak _,hi,rfl,rfl⟩
theorem E2.suf {α:Type}{o:Int}{i j:Nat}{g:J3 α}{r:Option (α×RS)}(h:E2 L nl e o j g r)(hs:i<=j):E2 L nl e o i g r:=by
 unfold E2 at h ⊢;split at h
 ·exact h
 ·obtain⟨j',h1,h2,h3,h4⟩:=h;exact⟨j',Nat.le_trans hs h1,h2,h3,h4⟩
theorem cT {β:Type}{r:Option RS}{k:RS->Option β}:r.bind k=(r.map fun s=>((),s)).bind fun q=>k q.2:=by cases r<;>rfl
theorem drop_nil {i:Nat}(h:L.drop i=[]):¬((i:Int)<(L.length:Int)):=by
 have:=List.drop_eq_nil_iff.1 h;omega
theorem P5 {i:Nat}{t:TR}{R:List TR}(h:L.drop i=t::R):i<L.length/\L.drop (i+1)=R/\L[i]? =some t:=by
 have h1:i<L.length:=by
  by_cases h1:i<L.length
  ·exact h1
  ·rw[Bb (by omega)]at h
   cases h
 rw[Av h1]at h;injection h with h2 h3;exact⟨h1,h3,by rw[Ag h1,h2]⟩
theorem A6i {i:Nat}{t:TR}{R:List TR}(h:L.drop i=t::R):((L.flatMap TR.cells).drop (((i:Nat):Int).toNat * 7)).take 7=t.cells:=by
 rw[At];exact jK A6e (P5 h).2.2
theorem lS {i:Nat}{o b:Int}{t:TR}{R:List TR}(h:L.drop i=t::R):(RX L nl e i o b).inB=true:=by
 have:=(P5 h).1;unfold RS.inB RX;simp only[Ae,decide_eq_true_eq];omega
theorem F40 {i:Nat}{o b:Int}{t:TR}{R:List TR}(h:L.drop i=t::R):decide ((RX L nl e i o b).i<((RX L nl e i o b).n:Int))=true:=decide_eq_true (by have:=(P5 h).1;show((i:Nat):Int)<(L.length:Int);omega)
theorem E7i {i:Nat}{o b:Int}(h:L.drop i=[]):decide ((RX L nl e i o b).i<((RX L nl e i o b).n:Int))=false:=decide_eq_false (drop_nil h)
theorem lJ {S:Type}{i:Nat}{o:Int}{t:TR}{R:List TR}{x a:Option S}(h:L.drop i=t::R):cQ (RX L nl e i o (-1)) x a=x:=by
 unfold cQ;rw[A4 (by rfl),F40 h,cond_true]
theorem oY {S:Type}{i:Nat}{o b:Int}{x a:Option S}(h:L.drop i=[]):cQ (RX L nl e i o b) x a=a:=by
 unfold cQ;rw[E7i h,cond_false]
 cases decide ((RX L nl e i o b).b<0)<;>rfl
theorem lM {S:Type}{i:Nat}{o b:Int}{x a:Option S}(hb:0<=b):cQ (RX L nl e i o b) x a=a:=by
 unfold cQ;rw[B1 (decide_eq_false (show ¬(RX L nl e i o b).b<0 from by show ¬b<0;omega))]
theorem bQ (i:Nat)(o b:Int):kD (RX L nl e i o b)=some (bB e (L.drop i),RX L nl e i o b):=by
 unfold kD;rcases h:L.drop i with _|⟨t,R⟩
 ·rw[E7i h];rfl
 ·rw[F40 h,cond_true,lS h,X0,cond_true];unfold tkI;rw[show(RX L nl e i o b).cs=L.flatMap TR.cells from rfl,show(RX L nl e i o b).i=((i:Nat):Int)from rfl,A6i h];rfl
theorem dN (i:Nat)(o a:Int):Y1 (RX L nl e i o (-1)) a=some (RX L nl e i o a):=rfl
theorem vC (i:Nat)(o:Int){b:Int}(hb:0<=b)(a:Int):Y1 (RX L nl e i o b) a=some (RX L nl e i o b):=by
 unfold Y1;rw[B1 (decide_eq_false (show ¬(RX L nl e i o b).b<0 from by show ¬b<0;omega))]
theorem A0f {i:Nat}{o b:Int}(hb:0<=b)(w:List UInt8):cM (RX L nl e i o b) w=some (false,RX L nl e i o b):=by
 unfold cM;rw[lM hb]
theorem E36 (i:Nat)(o:Int)(w:List UInt8):cM (RX L nl e i o (-1)) w=some (A8 1 [w] (L.drop i)||A8 3 [w] (L.drop i),RX L nl e i o (-1)):=by
 unfold cM;rcases h:L.drop i with _|⟨t,R⟩
 ·rw[oY h];rfl
 ·rw[lJ h,lS h];unfold tkI tkS;rw[show(RX L nl e i o (-1)).cs=L.flatMap TR.cells from rfl,show(RX L nl e i o (-1)).i=((i:Nat):Int)from rfl,A6i h];show(bif !(t.k==1)then(bif t.k==3 then some (t.t==w,RX L nl e i o (-1))else some (false,RX L nl e i o (-1)))else some (t.t==w,RX L nl e i o (-1)))=_;rw[A8,A8]
  have e1:D1 [w] t.t=(t.t==w):=by unfold D1;simp
  rw[e1]
  by_cases h1:t.k=1
  ·rw[h1];cases t.t==w<;>rfl
  ·rw[beq_eq_false_iff_ne.2 h1]
   cases t.k==3<;>rfl
theorem F21 {T:List TR}(hT:dK T){w:List UInt8}(hw:W3 w=true):A8 3 [w] T=false:=by
 cases T with
 |nil=>rfl
 |cons t R =>
  rw[A8]
  cases h:t.k==3 with
  |false=>rfl
  |true =>
   have h1:=hT.sign t (An ..) (by simpa using h);simp only[Ba,D1,Cj,Eg,Co,beq_eq_false_iff_ne,ne_eq]
   rintro rfl
   rw[hw]at h1
   cases h1
theorem E22 {T:List TR}(hT:dK T){w:List UInt8}(hw:W3 w=false):A8 1 [w] T=false:=by
 cases T with
 |nil=>rfl
 |cons t R =>
  rw[A8]
  cases h:t.k==1 with
  |false=>rfl
  |true =>
   have h1:=hT.key t (An ..) (by simpa using h);simp only[Ba,D1,Cj,Eg,Co,beq_eq_false_iff_ne,ne_eq]
   rintro rfl
   rw[hw]at h1
   cases h1
theorem mY {i:Nat}(hL:dK L)(hi:i<=L.length)(o b:Int):(RX L nl e i o b).next=RX L nl e (i+1) o b:=by
 have:=hL.len;unfold RS.next RX;rw[B2 (by simp only;omega) (by simp only;omega)];rfl
def wK (w:List UInt8):Int:=bif W3 w then 1 else 3
variable (he:0<=e) (hL:dK L)
include hL
theorem bA (i:Nat):dK (L.drop i):=hL.suf (List.drop_suffix i L)
theorem qY (i:Nat)(o:Int)(w:List UInt8):cM (RX L nl e i o (-1)) w=some (A8 (wK w) [w] (L.drop i),RX L nl e i o (-1)):=by
 rw[E36];unfold wK
 cases hw:W3 w with
 |true=>rw[F21 (bA hL i) hw,Co];rfl
 |false=>rw[E22 (bA hL i) hw,Cv];rfl
theorem oM {i:Nat}{a:Int}{ws:List (List UInt8)}(h:A8 a ws (L.drop i)=true):i+1<=L.length:=by
 have _:=hL;obtain⟨t,R,h⟩:=pO h;exact(P5 h).1
theorem V2 {i:Nat}(hi:i<=L.length)(o:Int)(w:List UInt8):P8 (RX L nl e i o (-1)) w=some (A8 (wK w) [w] (L.drop i),RX L nl e (bif A8 (wK w) [w] (L.drop i)then i+1 else i) o (-1)):=by
 unfold P8;rw[qY hL,Aa]
 cases A8 (wK w) [w] (L.drop i)with
 |true=>simp only[cond_true,mY hL hi]
 |false=>rfl
theorem cH {i:Nat}{o b:Int}(hb:0<=b)(w:List UInt8):P8 (RX L nl e i o b) w=some (false,RX L nl e i o b):=by
 have _:=hL;unfold P8;rw[A0f hb];rfl
include he
theorem uM {i:Nat}(hi:i<=L.length)(o:Int)(w:List UInt8):E2 L nl e o i (O9 e (wK w) w (L.drop i)) ((cL (RX L nl e i o (-1)) 1 [.str w]).map fun s=>((),s)):=by
 show E2 L nl e o i _ ((gA [w] (RX L nl e i o (-1))).map _);rw[gA,V2 hL hi,Aa];unfold O9
 cases h:A8 (wK w) [w] (L.drop i)with
 |true =>
  simp only[Au,cond_false,cond_true,gA];exact⟨i+1,Cq _,oM hL h,Cu,rfl⟩
 |false =>
  simp only[Ar,cond_false,cond_true,gA,bQ,Aa,dN];exact⟨(bA hL i).nxt0 he,(),i,o,hi,rfl⟩
theorem A0n {i:Nat}{o b:Int}(hb:0<=b)(w:List UInt8):cL (RX L nl e i o b) 1 [.str w]=some (RX L nl e i o b):=by
 have _:=he;show gA [w] (RX L nl e i o b)=_;rw[gA,cH hL hb,Aa];simp only[Ar,cond_true,gA,bQ,Aa,vC _ _ hb]
theorem A9v {i:Nat}(hi:i<=L.length)(o b:Int):(RX L nl e i o b).back=(i:Int):=by
 have _:=he;have:=hL.len;unfold RS.back RX;rw[B2 (x:=(i:Int)+1) (by omega) (by omega),B2 (by omega) (by omega)];omega
theorem A90 {i:Nat}{t:TR}{R:List TR}(h:L.drop i=t::R)(o b:Int):(RX L nl e i o b).backB=true:=by
 have h1:=(P5 h).1;unfold RS.backB;rw[A9v he hL (by omega)];show(decide (0<=(i:Int))&&decide ((i:Int)<(L.length:Int)))=true;simp only[Ae,decide_eq_true_eq];omega
theorem tB (o:Int):O6 L nl e o kV (iF e) where
 good:=fun i hi=>by
  unfold kV;rcases h:L.drop i with _|⟨t,R⟩
  ·rw[oY h,bQ,Aa,dN,h];exact⟨he,[],i,o,hi,rfl⟩
  ·rw[lJ h,lS h,A90 he hL h,A9v he hL hi,mY hL hi,bQ,Aa,dN,h];unfold tkI tkS;rw[show(RX L nl e i o (-1)).cs=L.flatMap TR.cells from rfl,show(RX L nl e i o (-1)).i=((i:Nat):Int)from rfl,A6i h];show E2 L nl e o i _ (bif t.k==0 then some (t.t,RX L nl e (i+1) o (-1))else some ([],RX L nl e i o t.a));rw[iF]
   cases t.k==0 with
   |true=>exact⟨i+1,Cq _,(P5 h).1,(P5 h).2.1.symm,rfl⟩
   |false=>exact⟨(bA hL i).at0 t (by rw[h];exact An ..),[],i,o,hi,rfl⟩
 badd:=fun i o' a hi ha=>by
  unfold kV;rw[lM ha,bQ,Aa,vC _ _ ha];exact U4.ret hi _
theorem A6r (o m:Int):O6 L nl e o (fun s=>lO s m) (A5g e m) where
 good :=fun i hi=>by
  show E2 L nl e o i _ (lO _ m);unfold lO;rcases h:L.drop i with _|⟨t,R⟩
  ·simp only;rw[oY h,bQ,Aa,dN,h];exact⟨he,0,i,o,hi,rfl⟩
  ·simp only;rw[lJ h,lS h,A90 he hL h,A9v he hL hi,mY hL hi,bQ,Aa,dN,h];unfold tkI tkJ;rw[show(RX L nl e i o (-1)).cs=L.flatMap TR.cells from rfl,show(RX L nl e i o (-1)).i=((i:Nat):Int)from rfl,A6i h];show E2 L nl e o i _ (bif t.k==2 then(bif t.vk==2 then(bif decide (t.vn<=m)then some (t.vn,RX L nl e (i+1) o (-1))else some (0,RX L nl e i o t.a))else some (0,RX L nl e i o t.a))else some (0,RX L nl e i o t.a));rw[A5g];have hb:E2 L nl e o i (.bad t.a) (some ((0:Int),RX L nl e i o t.a)):=⟨(bA hL i).at0 t (by rw[h];exact An ..),0,i,o,hi,rfl⟩
   cases t.k==2 with
   |false=>exact hb
   |true =>
    cases t.vk==2 with
    |false=>exact hb
    |true =>
     cases decide (t.vn<=m)with
     |false=>exact hb
     |true=>exact⟨i+1,Cq _,(P5 h).1,(P5 h).2.1.symm,rfl⟩
 badd:=fun i o' a hi ha=>by
  show U4 L nl e a (lO _ m);unfold lO;simp only;rw[lM ha,bQ,Aa,vC _ _ ha];exact U4.ret hi _
end
theorem J3.bind_assoc {α β γ:Type}(g:J3 α)(f:α->List TR->J3 β)(k:β->List TR->J3 γ):(g.bind f).bind k=g.bind fun x R=>(f x R).bind k:=by cases g<;>rfl
theorem J3.bind_okk {α:Type}(g:J3 α):g.bind J3.ok=g:=by cases g<;>rfl
def gt (b:Bool)(f:XR->List TR->J3 XR)(x:XR)(T:List TR):J3 XR:=bif b then f x T else .ok x T
theorem fN {b:Bool}{f:XR->List TR->J3 XR}{x:XR}{T:List TR}(h:b=true->f x T=.ok x T):gt b f x T=.ok x T:=by
 cases b with
 |false=>rfl
 |true=>exact h rfl
section
variable (e:Int) (low:Option GF)
def M7 (l h:Int)(n5 n4 n1 n0:Nat)(x:XR)(T:List TR):J3 XR :=
 (gt (decide (l<=5)&&decide (5<=h)) (J4 e 3 (G3 e low) n5) x T).bind fun x T =>
 (gt (decide (l<=4)&&decide (4<=h)) (J4 e 2 (uX e low) n4) x T).bind fun x T =>
 (gt (decide (l<=3)&&decide (4<=h)) (fR e low) x T).bind fun x T =>
 (gt (decide (l<=1)&&decide (1<=h)) (J4 e 1 (bS e low) n1) x T).bind fun x T =>
 gt (decide (l<=0)&&decide (0<=h)) (J4 e 0 (sW e low) n0) x T
end
section
variable {e:Int} {low:Option GF} {l h:Int} {n5 n4 n1 n0:Nat} {x:XR} {T:List TR}
theorem U1 {n:Nat}{p:List TR->J3 XR}{m:Nat}(h:A8 (opK n) (opW n) T=false):J4 e n p m x T=.ok x T:=by
 cases m with
 |zero=>rfl
 |succ m=>rw[J4,h];rfl
theorem rF {n:Nat}{p:List TR->J3 XR}{m:Nat}(h:A8 (opK n) (opW n) T=true):J4 e n p (m+1) x T=(p T.tail).bind fun y R=>J4 e n p m (Z9 (bB e T) (yP T) x y) R:=by
 rw[J4,h];rfl
theorem A87 (h3:A8 3 bN T=false)(hI:A8 1 [wX] T=false):fR e low x T=.ok x T:=by
 unfold fR;rw[h3,hI];rfl
abbrev A7x (T:List TR):Bool:=A8 (opK 3) (opW 3) T
abbrev B55 (T:List TR):Bool:=A8 (opK 2) (opW 2) T
abbrev D3a (T:List TR):Bool:=A8 (opK 1) (opW 1) T
abbrev tOr (T:List TR):Bool:=A8 (opK 0) (opW 0) T
theorem dR (h5:l<=5->5<=h->A7x T=false)(h4:l<=4->4<=h->B55 T=false)(h3:l<=3->4<=h->A8 3 bN T=false/\A8 1 [wX] T=false)(h1:l<=1->1<=h->D3a T=false)(h0:l<=0->0<=h->tOr T=false) :
  M7 e low l h n5 n4 n1 n0 x T=.ok x T:=by
 unfold M7
 have hb:∀{a b:Prop} [Decidable a] [Decidable b],(decide a&&decide b)=true->a/\b:=fun h=>by simpa using h
 rw[fN (f:=J4 e 3 _ n5) fun g=>U1 (h5 (hb g).1 (hb g).2),J3.bind,fN (f:=J4 e 2 _ n4) fun g=>U1 (h4 (hb g).1 (hb g).2),J3.bind,fN (f:=fR e low) fun g=>A87 (h3 (hb g).1 (hb g).2).1 (h3 (hb g).1 (hb g).2).2,J3.bind,
  fN (f:=J4 e 1 _ n1) fun g=>U1 (h1 (hb g).1 (hb g).2),J3.bind,fN (f:=J4 e 0 _ n0) fun g=>U1 (h0 (hb g).1 (hb g).2)]
theorem fE {a b:Prop}[Decidable a][Decidable b](ha:a)(hb:b):(decide a&&decide b)=true:=by simp[ha,hb]
theorem U2 {a b:Prop}[Decidable a][Decidable b](hb:¬b):(decide a&&decide b)=false:=by simp[hb]
theorem Y9 {a b c:Prop}[Decidable a][Decidable b][Decidable c](hb:b)(hc:c):(decide a&&decide b)=(decide a&&decide c):=by simp[hb,hc]
theorem C77 (hl:l<=5)(hh:5<=h)(h5:A7x T=true):M7 e low l h (n5+1) n4 n1 n0 x T=(G3 e low T.tail).bind fun y R=>M7 e low l 5 n5 n4 n1 n0 (Z9 (bB e T) (yP T) x y) R:=by
 unfold M7;rw[fE hl hh,Y9 (a:=l<=4) (b:=4<=h) (c:=(4:Int)<=5) (by omega) (by omega),Y9 (a:=l<=3) (b:=4<=h) (c:=(4:Int)<=5) (by omega) (by omega),Y9 (a:=l<=1) (b:=1<=h) (c:=(1:Int)<=5) (by omega) (by omega),Y9 (a:=l<=0) (b:=0<=h) (c:=(0:Int)<=5) (by omega) (by omega),fE hl (show(5:Int)<=5 by omega)];rw[show gt true (J4 e 3 (G3 e low) (n5+1)) x T=J4 e 3 (G3 e low) (n5+1) x T from rfl,rF h5,J3.bind_assoc];rfl
theorem C7c (hl:l<=4)(hh:4<=h)(h5:A7x T=false)(h4:B55 T=true):M7 e low l h n5 (n4+1) n1 n0 x T=(uX e low T.tail).bind fun y R=>M7 e low l 4 n5 n4 n1 n0 (Z9 (bB e T) (yP T) x y) R:=by
 unfold M7;rw[fN (f:=J4 e 3 _ n5) fun g=>U1 h5,J3.bind,fE hl hh,Y9 (a:=l<=3) (b:=4<=h) (c:=(4:Int)<=4) (by omega) (by omega),Y9 (a:=l<=1) (b:=1<=h) (c:=(1:Int)<=4) (by omega) (by omega),Y9 (a:=l<=0) (b:=0<=h) (c:=(0:Int)<=4) (by omega) (by omega),fE hl (show(4:Int)<=4 by omega),U2 (a:=l<=5) (show ¬(5:Int)<=4 by omega)];rw[show gt true (J4 e 2 (uX e low) (n4+1)) x T=J4 e 2 (uX e low) (n4+1) x T from rfl,rF h4,J3.bind_assoc];rfl
theorem C4v (hl:l<=3)(hh:4<=h)(h5:A7x T=false)(h4:B55 T=false)(h3:A8 3 bN T=true):M7 e low l h n5 n4 n1 n0 x T=(tW e low T.tail).bind fun y R=>M7 e low l 3 n5 n4 n1 n0 (Z9 (bB e T) (yP T) x y) R:=by
 unfold M7;rw[fN (f:=J4 e 3 _ n5) fun g=>U1 h5,J3.bind,fN (f:=J4 e 2 _ n4) fun g=>U1 h4,J3.bind,fE hl hh,Y9 (a:=l<=1) (b:=1<=h) (c:=(1:Int)<=3) (by omega) (by omega),Y9 (a:=l<=0) (b:=0<=h) (c:=(0:Int)<=3) (by omega) (by omega),U2 (a:=l<=5) (show ¬(5:Int)<=3 by omega),U2 (a:=l<=4) (show ¬(4:Int)<=3 by omega),U2 (a:=l<=3) (show ¬(4:Int)<=3 by omega)];rw[show gt true (fR e low) x T=fR e low x T from rfl,show fR e low x T=(tW e low T.tail).bind fun y R=>.ok (Z9 (bB e T) (yP T) x y) R from by unfold fR;rw[h3];rfl,J3.bind_assoc];rfl
theorem D0m (hl:l<=3)(hh:4<=h)(h5:A7x T=false)(h4:B55 T=false)(h3:A8 3 bN T=false)(hI:A8 1 [wX] T=true) :
  M7 e low l h n5 n4 n1 n0 x T=(O9 e 1 O7 (bif A8 1 [G4] T.tail then T.tail.tail else T.tail)).bind fun _ R=>M7 e low l 3 n5 n4 n1 n0 (fS (bB e T) (A8 1 [G4] T.tail) x) R:=by
 unfold M7;rw[fN (f:=J4 e 3 _ n5) fun g=>U1 h5,J3.bind,fN (f:=J4 e 2 _ n4) fun g=>U1 h4,J3.bind,fE hl hh,Y9 (a:=l<=1) (b:=1<=h) (c:=(1:Int)<=3) (by omega) (by omega),Y9 (a:=l<=0) (b:=0<=h) (c:=(0:Int)<=3) (by omega) (by omega),U2 (a:=l<=5) (show ¬(5:Int)<=3 by omega),U2 (a:=l<=4) (show ¬(4:Int)<=3 by omega),U2 (a:=l<=3) (show ¬(4:Int)<=3 by omega)];rw[show gt true (fR e low) x T=fR e low x T from rfl,show fR e low x T=(O9 e 1 O7 (bif A8 1 [G4] T.tail then T.tail.tail else T.tail)).bind fun _ R=>.ok (fS (bB e T) (A8 1 [G4] T.tail) x) R from by unfold fR;rw[h3,hI];rfl,J3.bind_assoc];rfl
theorem C6r (hl:l<=1)(hh:1<=h)(h5:A7x T=false)(h4:B55 T=false)(h3:A8 3 bN T=false)(hI:A8 1 [wX] T=false)(h1:D3a T=true):M7 e low l h n5 n4 (n1+1) n0 x T=(bS e low T.tail).bind fun y R=>M7 e low l 1 n5 n4 n1 n0 (Z9 (bB e T) (yP T) x y) R:=by
 unfold M7;rw[fN (f:=J4 e 3 _ n5) fun g=>U1 h5,J3.bind,fN (f:=J4 e 2 _ n4) fun g=>U1 h4,J3.bind,fN (f:=fR e low) fun g=>A87 h3 hI,J3.bind,fE hl hh,Y9 (a:=l<=0) (b:=0<=h) (c:=(0:Int)<=1) (by omega) (by omega),fE hl (show(1:Int)<=1 by omega),U2 (a:=l<=5) (show ¬(5:Int)<=1 by omega),U2 (a:=l<=4) (show ¬(4:Int)<=1 by omega),U2 (a:=l<=3) (show ¬(4:Int)<=1 by omega)];rw[show gt true (J4 e 1 (bS e low) (n1+1)) x T=J4 e 1 (bS e low) (n1+1) x T from rfl,rF h1,J3.bind_assoc];rfl
theorem D7q (hl:l<=0)(hh:0<=h)(h5:A7x T=false)(h4:B55 T=false)(h3:A8 3 bN T=false)(hI:A8 1 [wX] T=false)(h1:D3a T=false)(h0:tOr T=true):M7 e low l h n5 n4 n1 (n0+1) x T=(sW e low T.tail).bind fun y R=>M7 e low l 0 n5 n4 n1 n0 (Z9 (bB e T) (yP T) x y) R:=by
 unfold M7;rw[fN (f:=J4 e 3 _ n5) fun g=>U1 h5,J3.bind,fN (f:=J4 e 2 _ n4) fun g=>U1 h4,J3.bind,fN (f:=fR e low) fun g=>A87 h3 hI,J3.bind,fN (f:=J4 e 1 _ n1) fun g=>U1 h1,J3.bind,fE hl hh,fE hl (show(0:Int)<=0 by omega),U2 (a:=l<=5) (show ¬(5:Int)<=0 by omega),U2 (a:=l<=4) (show ¬(4:Int)<=0 by omega),U2 (a:=l<=3) (show ¬(4:Int)<=0 by omega),U2 (a:=l<=1) (show ¬(1:Int)<=0 by omega)];rw[show gt true (J4 e 0 (sW e low) (n0+1)) x T=J4 e 0 (sW e low) (n0+1) x T from rfl,rF h0];rfl
end
structure Cls (T:List TR)(b5 b4 b3 bI b1 b0:Bool):Prop where
 h5:A7x T=b5
 h4:B55 T=b4
 h3:A8 3 bN T=b3
 hI:A8 1 [wX] T=bI
 h1:D3a T=b1
 h0:tOr T=b0
theorem B0z {S:Type}(w:List UInt8)(a b:S):∀l,orK w a b l=bif D1 l w then a else b
 |[]=>rfl
 |[x]=>by
  rw[orK];unfold D1;simp
 |x::y::l=>by
  rw[show orK w a b (x::y::l)=(bif w==x then(bif w==x then a else b)else orK w a b (y::l))from rfl,B0z w a b (y::l)];show(bif w==x then(bif w==x then a else b)else bif D1 (y::l) w then a else b)=bif(w==x||D1 (y::l) w)then a else b
  cases w==x<;>rfl
theorem tM {l:List (List UInt8)}(hl:∀x∈l,W3 x=false){w:List UInt8}(h:W3 w=true):D1 l w=false:=by
 unfold D1;rw[List.any_eq_false];intro x hx;simp only[beq_iff_eq]
 rintro rfl
 rw[hl w hx]at h
 cases h
theorem A3k {l:List (List UInt8)}{w:List UInt8}(h:D1 l w=true):w∈l:=by
 unfold D1 at h;obtain⟨x,hx,h⟩:=Dp.1 h;rw[beq_iff_eq]at h;exact h ▸ hx
theorem D09 {t:TR}{R:List TR}(h1:(t.k==1)=false)(h3:(t.k==3)=false):Cls (t::R) false false false false false false:=by
 refine⟨?_,?_,?_,?_,?_,?_⟩<;>simp only[A8,opK,h1,h3,Cs]
theorem B3i (w:List UInt8):kQ w=some (bif w==[79,82]then 0 else bif w==[65,78,68]then 1 else bif D1 bN w then 3 else bif D1 [[43],[45]] w then 4 else bif D1 [[42],[47],[37]] w then 5 else -1):=by
 unfold kQ;rw[B0z,B0z,B0z]
 cases w==[79,82]with
 |true=>rfl
 |false =>
  cases w==[65,78,68]with
  |true=>rfl
  |false =>
   cases D1 bN w with
   |true=>rfl
   |false =>
    cases D1 [[43],[45]] w with
    |true=>rfl
    |false=>cases D1 [[42],[47],[37]] w<;>rfl
theorem D9c {t:TR}{R:List TR}(hT:dK (t::R)):∃p,kQ t.t=some p/\
  (((t.k==1)=false/\(t.k==3)=false/\Cls (t::R) false false false false false false)\/
   ((bif t.k !=1 then t.k !=3 else false)=false/\(
    (p=5/\Cls (t::R) true false false false false false)\/(p=4/\Cls (t::R) false true false false false false)\/(p=3/\Cls (t::R) false false true false false false)\/
    (p=1/\Cls (t::R) false false false false true false)\/(p=0/\Cls (t::R) false false false false false true)\/(p=-1/\Cls (t::R) false false false true false false)\/(p=-1/\Cls (t::R) false false false false false false)))):=by
 refine⟨_,B3i t.t,?_⟩;have hk:=hT.key t (An ..);have hs:=hT.sign t (An ..);obtain⟨k,a,w,vk,vn,vc,vs⟩:=t;dsimp only at hk hs ⊢
 by_cases h1:k=1
 ·subst h1;have hg:=hk rfl;right;refine⟨rfl,?_⟩;have c3:D1 bN w=false:=tM (by decide) hg;have c4:D1 [[43],[45]] w=false:=tM (by decide) hg;have c5:D1 [[42],[47],[37]] w=false:=tM (by decide) hg;rw[c3,c4,c5]
  by_cases a0:w=[79,82]
  ·subst a0;exact Cp (Cp (Cp (Cp (Fb ⟨rfl,rfl,rfl,rfl,rfl,rfl,rfl⟩))))
  by_cases a1:w=[65,78,68]
  ·subst a1;exact Cp (Cp (Cp (Fb ⟨rfl,rfl,rfl,rfl,rfl,rfl,rfl⟩)))
  have b0:(w==[79,82])=false:=beq_eq_false_iff_ne.2 a0;have b1:(w==[65,78,68])=false:=beq_eq_false_iff_ne.2 a1;rw[b0,b1]
  by_cases aI:w=wX
  ·subst aI;exact Cp (Cp (Cp (Cp (Cp (Fb ⟨rfl,rfl,rfl,rfl,rfl,rfl,rfl⟩)))))
  have bI:(w==wX)=false:=beq_eq_false_iff_ne.2 aI;refine Cp (Cp (Cp (Cp (Cp (Cp ⟨rfl,rfl,rfl,rfl,?_,?_,?_⟩)))))
  ·simp only[A8,D1,Cj,Eg,bI,Co,Ch]
  ·simp only[D3a,A8,opW,D1,Cj,Eg,b1,Co,Ch]
  ·simp only[tOr,A8,opW,D1,Cj,Eg,b0,Co,Ch]
 by_cases h3:k=3
 ·subst h3;have hg:=hs rfl;right;refine⟨rfl,?_⟩
  have b0:(w==[79,82])=false:=by rw[beq_eq_false_iff_ne];rintro rfl;cases hg
  have b1:(w==[65,78,68])=false:=by rw[beq_eq_false_iff_ne];rintro rfl;cases hg
  rw[b0,b1]
  cases c3:D1 bN w with
  |true =>
   refine Cp (Cp (Fb ⟨rfl,?_⟩));have:=A3k c3;simp only[Be,Cz,or_false]at this;rcases this with rfl|rfl|rfl|rfl|rfl|rfl<;>exact⟨rfl,rfl,rfl,rfl,rfl,rfl⟩
  |false =>
   cases c4:D1 [[43],[45]] w with
   |true =>
    refine Cp (Fb ⟨rfl,?_⟩);have:=A3k c4;simp only[Be,Cz,or_false]at this;rcases this with rfl|rfl<;>exact⟨rfl,rfl,rfl,rfl,rfl,rfl⟩
   |false =>
    cases c5:D1 [[42],[47],[37]] w with
    |true =>
     refine Fb ⟨rfl,?_⟩;have:=A3k c5;simp only[Be,Cz,or_false]at this;rcases this with rfl|rfl|rfl<;>exact⟨rfl,rfl,rfl,rfl,rfl,rfl⟩
    |false =>
     refine Cp (Cp (Cp (Cp (Cp (Cp ⟨rfl,?_,?_,?_,rfl,rfl,rfl⟩)))))
     ·rw[A7x,A8,show opW 3=[[42],[47],[37]]from rfl,c5,Ch]
     ·rw[B55,A8,show opW 2=[[43],[45]]from rfl,c4,Ch]
     ·rw[A8,c3,Ch]
 ·left;exact⟨beq_eq_false_iff_ne.2 h1,beq_eq_false_iff_ne.2 h3,D09 (t:=⟨k,a,w,vk,vn,vc,vs⟩) (beq_eq_false_iff_ne.2 h1) (beq_eq_false_iff_ne.2 h3)⟩
section
variable {L:List TR} {nl:Option Bool} {e:Int} (he:0<=e) (hL:dK L)
include he hL
theorem D30 {o:Int}{i:Nat}{k:Int}{T R:List TR}{x:Int}(hk:k=2\/¬k=2)(hx:IntKind.i64.wrap (k+1)=x)(hi:i<=L.length) :
  E2 L nl e o i (bif k==2 then(O9 e 3 [40] (L.drop i)).bind fun _ R=>(A5g e 6 R).bind fun n R=>(O9 e 3 [41] R).bind fun _ R=>.ok (x,n) R else .ok (x,0) (L.drop i)) (tyK cL lO k (RX L nl e i o (-1)) fun s a b=>some ((a,b),s)):=by
 unfold tyK;rw[hx]
 cases k==2 with
 |false=>exact E2.ret hi _
 |true =>
  simp only[cond_true];rw[cT];refine E2.bind (uM he hL hi o [40]) (fun _ j _ hj=>?_) (fun _ j o'' a hj ha=>?_)
  ·refine E2.bind ((A6r he hL o 6).good j hj) (fun m j1 _ hj1=>?_) (fun m j1 o'' a hj1 ha=>?_)
   ·rw[cT];exact E2.bind (uM he hL hj1 o [41]) (fun _ j2 _ hj2=>E2.ret hj2 _) (fun _ j2 o'' a hj2 ha=>U4.ret hj2 _)
   ·rw[cT,A0n he hL ha];exact U4.ret hj1 _
  ·refine U4.bind ((A6r he hL o 6).badd j o'' a hj ha) fun m j1 o1 hj1=>?_;rw[cT,A0n he hL ha];exact U4.ret hj1 _
theorem pY (o:Int):O6 L nl e o nN (U7 e) where
 good :=fun i hi=>by
  unfold nN;have hb:∀a:Int,0<=a->E2 L nl e o i (.bad a) (some (((0:Int),(0:Int)),RX L nl e i o a)):=fun a ha=>⟨ha,_,i,o,hi,rfl⟩;rw [V2 hL hi,Aa];rcases h:L.drop i with _ |⟨t,R⟩
  ·simp only [A8,Ar,cond_true,cond_false];rw [V2 hL hi,Aa,h];simp only [A8,Ar,cond_true,cond_false];rw [V2 hL hi,Aa,h];simp only [A8,Ar,cond_true,cond_false];rw [V2 hL hi,Aa,h];simp only [A8,Ar,cond_true,cond_false];rw [V2 hL hi,Aa,h];simp only [A8,Ar,cond_true,cond_false];rw [bQ,Aa,dN,h];exact hb e he
  ·have h1 :=P5 h
   have hk:∀w:List UInt8,W3 w=true->A8 (wK w) [w] (t ::R)=(t.k ==1 && (t.t ==w)):=fun w hw=>by
    rw [A8,wK,hw,cond_true,D1,Cj,Eg,Co]
   rw [hk _ rfl]
   have step:∀{w:List UInt8},W3 w=true->P8 (RX L nl e i o (-1)) w=some ((t.k ==1 && (t.t ==w)),RX L nl e (bif(t.k ==1 && (t.t ==w))then i + 1 else i) o (-1)):=fun hw=>by rw [V2 hL hi,h,hk _ hw]
   rw [U7];have hT:=bA hL i;rw [h]at hT;have ha:=hT.at0 t (An ..)
   cases h0:t.k ==1 with
   |false =>
    simp only [Cs,Ar,cond_true,cond_false];rw [step rfl,h0,Aa];simp only [Cs,Ar,cond_true,cond_false];rw [step rfl,h0,Aa];simp only [Cs,Ar,cond_true,cond_false];rw [step rfl,h0,Aa];simp only [Cs,Ar,cond_true,cond_false];rw [step rfl,h0,Aa];simp only [Cs,Ar,cond_true,cond_false];rw [bQ,Aa,dN,h];exact hb _ ha
   |true =>
    simp only [Ba,cond_true]
    cases hB:t.t == [66,79,79,76]with
    |true =>
     rw [eq_of_beq hB];simp only [Au,cond_true,cond_false];have:=D30 (nl:=nl) (o:=o) (k:=0) (T:=[]) (R:=[]) (x:=1) he hL (Cp (by decide)) rfl h1.1;rw [h1.2.1]at this;exact E2.suf this (Cq i)
    |false =>
     simp only [Ar,cond_true,cond_false];rw [step rfl,h0,Ba,Aa]
     cases hI:t.t == [73,78,84]with
     |true =>
      rw [eq_of_beq hI];simp only [Au,cond_true,cond_false];have:=D30 (nl:=nl) (o:=o) (k:=1) (T:=[]) (R:=[]) (x:=2) he hL (Cp (by decide)) rfl h1.1;rw [h1.2.1]at this;exact E2.suf this (Cq i)
     |false =>
      simp only [Ar,cond_true,cond_false];rw [step rfl,h0,Ba,Aa]
      cases hD:t.t == [68,69,67,73,77,65,76]with
      |true =>
       rw [eq_of_beq hD];simp only [Au,cond_true,cond_false];have:=D30 (nl:=nl) (o:=o) (k:=2) (T:=[]) (R:=[]) (x:=3) he hL (Fb rfl) rfl h1.1;rw [h1.2.1]at this;exact E2.suf this (Cq i)
      |false =>
       simp only [Ar,cond_true,cond_false];rw [step rfl,h0,Ba,Aa]
       cases hX:t.t == [84,69,88,84]with
       |true =>
        rw [eq_of_beq hX];simp only [Au,cond_true,cond_false];have:=D30 (nl:=nl) (o:=o) (k:=3) (T:=[]) (R:=[]) (x:=4) he hL (Cp (by decide)) rfl h1.1;rw [h1.2.1]at this;exact E2.suf this (Cq i)
       |false =>
        simp only [Ar,cond_true,cond_false];rw [step rfl,h0,Ba,Aa]
        cases hY:t.t == [66,89,84,69,83]with
        |true =>
         rw [eq_of_beq hY];simp only [Au,cond_true,cond_false];have:=D30 (nl:=nl) (o:=o) (k:=4) (T:=[]) (R:=[]) (x:=5) he hL (Cp (by decide)) rfl h1.1;rw [h1.2.1]at this;exact E2.suf this (Cq i)
        |false =>
         simp only [Ar,cond_true,cond_false];rw [bQ,Aa,dN,h]
         have:A7s t.t=0:=by
          unfold A7s;simp only [isI,hB,hI,hD,hX,hY,cond_false]
          cases t.t == []<;>rfl
         rw [this];exact hb _ ha
 badd:=fun i o' a hi ha=>by
  unfold nN;rw [cH hL ha,Aa,Ar,cond_true,cH hL ha,Aa,Ar,cond_true,cH hL ha,Aa,Ar,cond_true,cH hL ha,Aa,Ar,cond_true,cH hL ha,Aa,Ar,cond_true,bQ,Aa,vC _ _ ha];exact U4.ret hi _
theorem E9v {i:Nat}(hi:i<=L.length)(o:Int):wH (RX L nl e i o (-1))=some (match oN (L.drop i)with|some v=>(v,RX L nl e (i+1) o (-1))|none=>(⟨0,0,0,[],false⟩,RX L nl e i o (-1))):=by
 unfold wH;simp only
 have step:∀w:List UInt8,W3 w=true->P8 (RX L nl e i o (-1)) w=some (A8 1 [w] (L.drop i),RX L nl e (bif A8 1 [w] (L.drop i)then i+1 else i) o (-1)):=fun w hw=>by rw[V2 hL hi,wK,hw];rfl
 rcases h:L.drop i with _|⟨t,R⟩
 ·rw[oY h,step _ rfl,h,Aa];simp only[A8,cond_false];rw[step _ rfl,h,Aa];simp only[A8,cond_false];rw[step _ rfl,h,Aa];rfl
 ·have h1 :=P5 h;rw[lJ h,lS h,A90 he hL h,A9v he hL hi,mY hL hi,step _ rfl,h,Aa];unfold tkI tkV;rw[show(RX L nl e i o (-1)).cs=L.flatMap TR.cells from rfl,show(RX L nl e i o (-1)).i=((i:Nat):Int)from rfl,A6i h]
  have e1:∀w:List UInt8,A8 1 [w] (t::R)=(t.k==1&&(t.t==w)):=fun w=>by rw[A8,D1,Cj,Eg,Co]
  rw[e1,oN];show(bif t.k==2 then some ((⟨t.vk,t.vn,t.vc,t.vs,true⟩:VR),RX L nl e (i+1) o (-1))else _)=_
  cases h2:t.k==2 with
  |true=>rfl
  |false =>
   simp only[cond_false]
   cases h3:t.k==1 with
   |false =>
    simp only[Cs,cond_false];rw[step _ rfl,h,e1,h3,Aa];simp only[Cs,cond_false];rw[step _ rfl,h,e1,h3,Aa];rfl
   |true =>
    simp only[Ba,cond_true]
    cases hN:t.t==O7 with
    |true =>
     rw[eq_of_beq hN];rfl
    |false =>
     simp only[cond_false];rw[step _ rfl,h,e1,h3,Aa,Ba]
     cases hT:t.t==sA with
     |true=>rfl
     |false =>
      simp only[cond_false];rw[step _ rfl,h,e1,h3,Aa,Ba]
      cases hF:t.t==kW<;>rfl
theorem E8e {i:Nat}{o a:Int}(ha:0<=a):wH (RX L nl e i o a)=some (⟨0,0,0,[],false⟩,RX L nl e i o a):=by
 have _:=he;unfold wH;simp only;rw[lM ha,cH hL ha,Aa,cond_false,cH hL ha,Aa,cond_false,cH hL ha];rfl
def C98 (L:List TR)(nl:Option Bool)(e o:Int)(low:Option GF)(D:Nat):Prop:=match low with
 |none=>o=20
 |some G=>0<=o/\o<20/\∀d,D<=d->O6 L nl e (o+1) (fun s=>(dW d).expr s 0) G.expr/\O6 L nl e (o+1) (fun s=>(dW d).expr s 2) G.neg/\O6 L nl e (o+1) (dW d).fact G.fact
theorem B8n {o:Int}(h0:0<=o)(h1:o<20)(i:Nat)(b:Int):(RX L nl e i (o+1) b).shut=RX L nl e i o b:=by
 have _:=hL;have _:=he;unfold RS.shut RX;rw[show o+1-1=o by omega,B2 (by omega) (by omega)]
theorem B46 {o:Int}(h0:0<=o)(h1:o<20)(i:Nat):iU (RX L nl e i o (-1))=some (true,RX L nl e i (o+1) (-1)):=by
 have _:=hL;have _:=he;unfold iU;rw[B1 (show((RX L nl e i o (-1)).o==20)=false from beq_eq_false_iff_ne.2 (by show ¬o=20;omega))];unfold RS.open RX;rw[B2 (by simp only;omega) (by simp only;omega)];rfl
theorem B5l (i:Nat):iU (RX L nl e i 20 (-1))=some (false,RX L nl e i 20 (bB e (L.drop i))):=by
 have _:=hL;have _:=he;unfold iU;rw[A4 (by rfl),bQ];rfl
theorem tS {low:Option GF}{o:Int}{D:Nat}(hl:C98 L nl e o low D){i:Nat}(hi:i<=L.length){z:XR}{pb:RS->Option (XR×RS)}{gb:GF->J3 XR}
  (hb:∀G,low=some G->0<=o->o<20->E2 L nl e o i (gb G) (pb (RX L nl e i (o+1) (-1)))) :
  E2 L nl e o i (sJ e low (L.drop i) gb) ((iU (RX L nl e i o (-1))).bind fun d=>bif !d.1 then some (z,d.2)else pb d.2):=by
 cases low with
 |none =>
  obtain rfl:o=20:=hl;rw[B5l he hL];exact⟨(bA hL i).nxt0 he,z,i,20,hi,rfl⟩
 |some G =>
  obtain⟨h0,h1,-⟩:=hl;rw[B46 he hL h0 h1];exact hb G rfl h0 h1
theorem E10 {i:Nat}{o b:Int}(hb:0<=b):∃o',jD (RX L nl e i o b)=some (RX L nl e i o' b):=by
 unfold jD;rw[A0n he hL hb,Aa];exact⟨_,rfl⟩
theorem C60 {α:Type}{i:Nat}(hi:i<=L.length){o b:Int}(hb:0<=b)(x:α):U4 L nl e b ((jD (RX L nl e i o b)).bind fun s=>some (x,s)):=by
 obtain⟨o',h⟩:=E10 (nl:=nl) (i:=i) (o:=o) he hL hb;rw[h];exact U4.ret hi x
theorem A9o {low:Option GF}{o:Int}{D:Nat}(hl:C98 L nl e o low D){i:Nat}(hi:i<=L.length){z:XR}{pb:RS->Option (XR×RS)}{gb:GF->List TR->J3 XR}
  (hb:∀G,low=some G->0<=o->o<20->i+1<=L.length->E2 L nl e (o+1) (i+1) (gb G (L.drop (i+1))) (pb (RX L nl e (i+1) (o+1) (-1)))) :
  E2 L nl e o i (Y3 e low (L.drop i) gb) ((A34 (RX L nl e i o (-1))).bind fun q=>bif !q.1 then some (z,q.2)else(pb q.2).bind fun x=>(jD x.2).bind fun s=>some (x.1,s)):=by
 unfold A34 Y3;rw[qY hL,Aa]
 cases h:A8 (wK [40]) [[40]] (L.drop i)with
 |false =>
  rw[show A8 3 [[40]] (L.drop i)=false from h];simp only[Ar,cond_true,cond_false,bQ,Aa,dN,Au];exact⟨(bA hL i).nxt0 he,z,i,o,hi,rfl⟩
 |true =>
  rw[show A8 3 [[40]] (L.drop i)=true from h];have hi1:=oM hL h;simp only[Au,cond_true,cond_false,Ad]
  have:∀d:Bool×RS,((bif !d.1 then some (false,d.2)else some (true,d.2.next)).bind fun q=>bif !q.1 then some (z,q.2)else(pb q.2).bind fun x=>(jD x.2).bind fun s=>some (x.1,s))=
    bif !d.1 then some (z,d.2)else(pb d.2.next).bind fun x=>(jD x.2).bind fun s=>some (x.1,s):=fun d=>by
   cases h:d.1<;>simp[h]
  simp only[this];refine tS (pb:=fun s=>(pb s.next).bind fun x=>(jD x.2).bind fun s=>some (x.1,s)) he hL hl hi fun G hG h0 h1=>?_;rw[mY hL hi,Cu];refine E2.suf (E2.bind (hb G hG h0 h1 hi1) (fun x j _ hj=>?_) (fun x j o'' a hj ha=>C60 he hL hj ha x)) (Cq i);unfold jD;rw[Ad,cT];refine E2.bind (uM he hL hj (o+1) [41]) (fun _ j1 _ hj1=>?_) (fun _ j1 o'' a hj1 ha=>?_)
  ·simp only[Aa];rw[B8n he hL h0 h1];exact E2.ret hj1 x
  ·exact U4.ret hj1 x
theorem D1d {X :RS->Int->Option (XR × RS)} {o l:Int} {low:Option GF} (h6:l<=5->O6 L nl e o (fun s=>X s 6) (G3 e low)) (h5:l<=4->O6 L nl e o (fun s=>X s 5) (uX e low)) (h4:l<=3->O6 L nl e o (fun s=>X s 4) (tW e low))
  (h2:l<=1->O6 L nl e o (fun s=>X s 2) (bS e low)) (h1:l<=0->O6 L nl e o (fun s=>X s 1) (sW e low)) (hl0:0<=l) :
  ∀(m i n5 n4 n1 n0:Nat) (x:XR) (h:Int),i<=L.length->L.length < i + m->L.length<=i + n5->L.length<=i + n4->L.length<=i + n1->L.length<=i + n0->0<=h->
   E2 L nl e o i (M7 e low l h n5 n4 n1 n0 x (L.drop i)) (rU X m (RX L nl e i o (-1)) x l h)
 |0,i,n5,n4,n1,n0,x,h,hi,hm,_,_,_,_,_=>by omega
 |m + 1,i,n5,n4,n1,n0,x,h,hi,hm,k5,k4,k1,k0,hh=>by
  have bad:∀x l h j o'' a,j<=L.length->0<=a->L.length < i + (m + 1)->U4 L nl e a (rU X m (RX L nl e j o'' a) x l h)\/m=0:=fun x l h j o'' a hj ha _=>by
   cases m with
   |zero=>exact Cp rfl
   |succ m =>
    left;rw [rU,lM ha];exact U4.ret hj x
  rw [rU];rcases hd:L.drop i with _ |⟨t,R⟩
  ·rw [oY hd,dR (fun _ _=>rfl) (fun _ _=>rfl) (fun _ _=>⟨rfl,rfl⟩) (fun _ _=>rfl) (fun _ _=>rfl),<-hd];exact E2.ret hi x
  ·obtain⟨hlt,hR,-⟩:=P5 hd;have hT:=bA hL i;rw [lJ hd,bQ,Aa,hd];rw [hd]at hT;obtain⟨p,hp,hcls⟩:=D9c hT
   have N:(∀(_:¬(lG t p l h=true)),E2 L nl e o i (M7 e low l h n5 n4 n1 n0 x (t ::R)) ((X (RX L nl e (i + 1) o (-1)) (IntKind.i64.wrap (p + 1))).bind fun y=>rU X m y.2 (Z9 t.a t.t x y.1) l p))->
     (lG t p l h=true->M7 e low l h n5 n4 n1 n0 x (t ::R)=.ok x (t ::R))->
     E2 L nl e o i (M7 e low l h n5 n4 n1 n0 x (t ::R)) (X0 (RX L nl e i o (-1)).inB (tkT (RX L nl e i o (-1)).cs (RX L nl e i o (-1)).i fun t'=>(kQ t'.t).bind fun p=>bif lG t' p l h then some (x,RX L nl e i o (-1))else(X (RX L nl e i o (-1)).next (IntKind.i64.wrap (p + 1))).bind fun y=>rU X m y.2 (Z9 (bB e (t ::R)) t'.t x y.1) l p)):=by
    intro ht hs;rw [lS hd,X0,cond_true];unfold tkT;rw [show(RX L nl e i o (-1)).cs=L.flatMap TR.cells from rfl,show(RX L nl e i o (-1)).i=((i:Nat):Int)from rfl,A6i hd];show E2 L nl e o i _ ((kQ t.t).bind fun p=>bif lG t p l h then some (x,RX L nl e i o (-1))else(X (RX L nl e i o (-1)).next (IntKind.i64.wrap (p + 1))).bind fun y=>rU X m y.2 (Z9 t.a t.t x y.1) l p);rw [hp,Aa,mY hL hi]
    cases hst:lG t p l h with
    |true =>
     rw [hs hst,<-hd];exact E2.ret hi x
    |false=>exact ht (by rw [hst];decide)
   have ih:=D1d h6 h5 h4 h2 h1 hl0 m
   have T:∀{gp:List TR->J3 XR} {q h':Int} {a5 a4 a1 a0:Nat},O6 L nl e o (fun s=>X s q) gp->L.length<=i + 1 + a5->L.length<=i + 1 + a4->L.length<=i + 1 + a1->L.length<=i + 1 + a0->0<=h'->
     E2 L nl e o i ((gp (t ::R).tail).bind fun y R'=>M7 e low l h' a5 a4 a1 a0 (Z9 (bB e (t ::R)) (yP (t ::R)) x y) R') ((X (RX L nl e (i + 1) o (-1)) q).bind fun y=>rU X m y.2 (Z9 t.a t.t x y.1) l h'):=by
    intro gp q h' a5 a4 a1 a0 hX b5 b4 b1 b0 hh';rw [List.tail_cons,<-hR];refine E2.suf (E2.bind (hX.good (i + 1) hlt) (fun y j hij hj=>?_) (fun y j o'' a hj ha=>?_)) (Cq i)
    ·exact ih j a5 a4 a1 a0 _ h' hj (by omega) (by omega) (by omega) (by omega) (by omega) hh'
    ·rcases bad (Z9 t.a t.t x y) l h' j o'' a hj ha hm with hb |hb
     ·exact hb
     ·omega
   have sIs:cM (RX L nl e i o (-1)) [73,83]=some (A8 1 [wX] (t ::R),RX L nl e i o (-1)):=by
    rw [qY hL,hd];rfl
   simp only;have stop:lG t p l h=(bif(bif(bif(bif t.k !=1 then t.k !=3 else false)then true else decide (p < l))then true else decide (h < p))then true else(bif p ==3 then h ==3 else false)):=rfl
   have pass:∀{α:Type} {A B:α} {bI:Bool},bI=false->(bif(bif decide (l<=3)then decide (3 < h)else false)then(bif bI then A else B)else B)=B:=fun hb=>by
    subst hb
    cases(bif decide (l<=3)then decide (3 < h)else false)<;>rfl
   rw [sIs,Aa];simp only;rcases hcls with⟨q1,q3,c⟩ |⟨hk,hcls⟩
   ·rw [c.hI,pass rfl]
    have st:lG t p l h=true:=by
     rw [stop];simp only [bne,q1,q3,Ar,cond_true]
    exact N (fun hn=>absurd st hn) fun _=>dR (fun _ _=>c.h5) (fun _ _=>c.h4) (fun _ _=>⟨c.h3,c.hI⟩) (fun _ _=>c.h1) (fun _ _=>c.h0)
   ·rw [hk,cond_false]at stop;rcases hcls with⟨rfl,c⟩ |⟨rfl,c⟩ |⟨rfl,c⟩ |⟨rfl,c⟩ |⟨rfl,c⟩ |⟨rfl,c⟩ |⟨rfl,c⟩
    ·rw [c.hI,pass rfl];refine N (fun hn=>?_) (fun hs=>?_)
     ·have hg:l<=5/\5<=h:=by
       rw [stop]at hn
       by_cases g1:(5:Int)< l
       ·exact absurd (by simp [g1]) hn
       ·by_cases g2:h < 5
        ·exact absurd (by simp [g2]) hn
        ·omega
      obtain⟨n5,rfl⟩:∃n,n5=n + 1:=⟨n5 - 1,by omega⟩;rw [C77 hg.1 hg.2 c.h5];exact T (h6 hg.1) (by omega) (by omega) (by omega) (by omega) (by omega)
     ·refine dR (fun g1 g2=>?_) (fun _ _=>c.h4) (fun _ _=>⟨c.h3,c.hI⟩) (fun _ _=>c.h1) (fun _ _=>c.h0);rw [stop,decide_eq_false (show ¬(5:Int)< l by omega),decide_eq_false (show ¬h < 5 by omega)]at hs
      cases hs
    ·rw [c.hI,pass rfl];refine N (fun hn=>?_) (fun hs=>?_)
     ·have hg:l<=4/\4<=h:=by
       rw [stop]at hn
       by_cases g1:(4:Int)< l
       ·exact absurd (by simp [g1]) hn
       ·by_cases g2:h < 4
        ·exact absurd (by simp [g2]) hn
        ·omega
      obtain⟨n4,rfl⟩:∃n,n4=n + 1:=⟨n4 - 1,by omega⟩;rw [C7c hg.1 hg.2 c.h5 c.h4];exact T (h5 hg.1) (by omega) (by omega) (by omega) (by omega) (by omega)
     ·refine dR (fun _ _=>c.h5) (fun g1 g2=>?_) (fun _ _=>⟨c.h3,c.hI⟩) (fun _ _=>c.h1) (fun _ _=>c.h0);rw [stop,decide_eq_false (show ¬(4:Int)< l by omega),decide_eq_false (show ¬h < 4 by omega)]at hs
      cases hs
    ·rw [c.hI,pass rfl];refine N (fun hn=>?_) (fun hs=>?_)
     ·have hg:l<=3/\4<=h:=by
       rw [stop]at hn
       by_cases g1:(3:Int)< l
       ·exact absurd (by simp [g1]) hn
       ·by_cases g2:h < 3
        ·exact absurd (by simp [g2]) hn
        ·by_cases g3:h=3
         ·exact absurd (by simp [g3]) hn
         ·omega
      rw [C4v hg.1 hg.2 c.h5 c.h4 c.h3];exact T (h4 hg.1) (by omega) (by omega) (by omega) (by omega) (by omega)
     ·refine dR (fun _ _=>c.h5) (fun _ _=>c.h4) (fun g1 g2=>?_) (fun _ _=>c.h1) (fun _ _=>c.h0);rw [stop,decide_eq_false (show ¬(3:Int)< l by omega),decide_eq_false (show ¬h < 3 by omega),show(h ==3)=false from beq_eq_false_iff_ne.2 (by omega)]at hs
      cases hs
    ·rw [c.hI,pass rfl];refine N (fun hn=>?_) (fun hs=>?_)
     ·have hg:l<=1/\1<=h:=by
       rw [stop]at hn
       by_cases g1:(1:Int)< l
       ·exact absurd (by simp [g1]) hn
       ·by_cases g2:h < 1
        ·exact absurd (by simp [g2]) hn
        ·omega
      obtain⟨n1,rfl⟩:∃n,n1=n + 1:=⟨n1 - 1,by omega⟩;rw [C6r hg.1 hg.2 c.h5 c.h4 c.h3 c.hI c.h1];exact T (h2 hg.1) (by omega) (by omega) (by omega) (by omega) (by omega)
     ·refine dR (fun _ _=>c.h5) (fun _ _=>c.h4) (fun _ _=>⟨c.h3,c.hI⟩) (fun g1 g2=>?_) (fun _ _=>c.h0);rw [stop,decide_eq_false (show ¬(1:Int)< l by omega),decide_eq_false (show ¬h < 1 by omega)]at hs
      cases hs
    ·rw [c.hI,pass rfl];refine N (fun hn=>?_) (fun hs=>?_)
     ·have hg:l<=0/\0<=h:=by
       rw [stop]at hn
       by_cases g1:(0:Int)< l
       ·exact absurd (by simp [g1]) hn
       ·omega
      obtain⟨n0,rfl⟩:∃n,n0=n + 1:=⟨n0 - 1,by omega⟩;rw [D7q hg.1 hg.2 c.h5 c.h4 c.h3 c.hI c.h1 c.h0];exact T (h1 hg.1) (by omega) (by omega) (by omega) (by omega) (by omega)
     ·refine dR (fun _ _=>c.h5) (fun _ _=>c.h4) (fun _ _=>⟨c.h3,c.hI⟩) (fun _ _=>c.h1) (fun g1 g2=>?_);rw [stop,decide_eq_false (show ¬(0:Int)< l by omega),decide_eq_false (show ¬h < 0 by omega)]at hs
      cases hs
    ·by_cases hg:l<=3/\3 < h
     ·rw [show(bif decide (l<=3)then decide (3 < h)else false)=true by simp [hg.1,hg.2],cond_true,c.hI,cond_true,mY hL hi,V2 hL hlt,Aa,hR,D0m hg.1 (by omega) c.h5 c.h4 c.h3 c.hI,List.tail_cons];have hN:(A8 (wK G4) [G4] R)=A8 1 [G4] R:=rfl;rw [show A8 (wK [78,79,84]) [[78,79,84]] R=A8 1 [G4] R from rfl];rw [cT]
      have hj:∃j,i + 1<=j/\j<=L.length/\(bif A8 1 [G4] R then i + 1 + 1 else i + 1)=j/\(bif A8 1 [G4] R then R.tail else R)=L.drop j:=by
       cases hn:A8 1 [G4] R with
       |false=>exact⟨i + 1,Ak _,hlt,rfl,hR.symm⟩
       |true =>
        rw [<-hR]at hn;exact⟨i + 1 + 1,Cq _,oM hL hn,rfl,by rw [<-hR];exact Cu⟩
      obtain⟨j,hj1,hj2,hj3,hj4⟩:=hj;simp only [hj3,hj4];refine E2.suf (E2.bind (uM he hL hj2 o O7) (fun _ j' hij hj'=>?_) (fun _ j' o'' a hj' ha=>?_)) (show i<=j by omega)
      ·exact ih j' n5 n4 n1 n0 _ 3 hj' (by omega) (by omega) (by omega) (by omega) (by omega) (by omega)
      ·rcases bad (fS (bB e (t ::R)) (A8 1 [G4] R) x) l 3 j' o'' a hj' ha hm with hb |hb
       ·exact hb
       ·omega
     ·rw [show(bif decide (l<=3)then decide (3 < h)else false)=false by
       by_cases g1:l<=3
       ·have:¬3 < h:=fun g2=>hg ⟨g1,g2⟩;simp [g1,this]
       ·simp [g1],cond_false]
      have st:lG t (-1) l h=true:=by rw [stop,decide_eq_true (show(-1:Int)< l by omega)];rfl
      exact N (fun hn=>absurd st hn) fun _=>dR (fun _ _=>c.h5) (fun _ _=>c.h4) (fun g1 g2=>absurd ⟨g1,by omega⟩ hg) (fun _ _=>c.h1) (fun _ _=>c.h0)
    ·rw [c.hI,pass rfl]
     have st:lG t (-1) l h=true:=by rw [stop,decide_eq_true (show(-1:Int)< l by omega)];rfl
     exact N (fun hn=>absurd st hn) fun _=>dR (fun _ _=>c.h5) (fun _ _=>c.h4) (fun _ _=>⟨c.h3,c.hI⟩) (fun _ _=>c.h1) (fun _ _=>c.h0)
end
section
variable {L:List TR} {nl:Option Bool} {e:Int} (he:0<=e) (hL:dK L)
include he hL
theorem C8h {o:Int}{i:Nat}(hi:i<=L.length):E2 L nl e o i (match oN (L.drop i)with
   |some v=>.ok (pN (bB e (L.drop i)) v.vk v.vn v.vc v.vs) (L.drop i).tail
   |none=>(iF e (L.drop i)).bind fun n R=>bif A8 3 [[46]] R then(iF e R.tail).bind fun m R=>.ok (dX (bB e (L.drop i)) n m) R else .ok (dX (bB e (L.drop i)) [] n) R)
  ((wH (RX L nl e i o (-1))).bind fun v=>bif v.1.ok then some (pN (bB e (L.drop i)) v.1.vk v.1.vn v.1.vc v.1.vs,v.2)else(kV v.2).bind fun n=>(P8 n.2 [46]).bind fun r=>bif r.1 then(kV r.2).bind fun m=>some (dX (bB e (L.drop i)) n.1 m.1,m.2)else some (dX (bB e (L.drop i)) [] n.1,r.2)):=by
 rw[E9v he hL hi,Aa]
 cases h4:oN (L.drop i)with
 |some v =>
  obtain⟨hv,t,R,hd⟩:=C3d h4;simp only[hv,cond_true];exact⟨i+1,Cq _,(P5 hd).1,Cu,rfl⟩
 |none =>
  simp only[cond_false];refine E2.bind ((tB he hL o).good i hi) (fun n j _ hj=>?_) (fun n j o'' a hj ha=>?_)
  ·rw[V2 hL hj,Aa,show wK [46]=3 from rfl]
   cases h5:A8 3 [[46]] (L.drop j)with
   |false=>exact E2.ret hj _
   |true =>
    simp only[cond_true,Cu];exact E2.suf (E2.bind ((tB he hL o).good (j+1) (oM hL h5)) (fun m j1 _ hj1=>E2.ret hj1 _) (fun m j1 o'' a hj1 ha=>U4.ret hj1 _)) (Cq j)
  ·rw[cH hL ha];exact U4.ret hj _
theorem B2v {o:Int}{i:Nat}(hi:i<=L.length){b a:Int}(hb:0<=b):U4 L nl e b
  ((wH (RX L nl e i o b)).bind fun v=>bif v.1.ok then some (pN a v.1.vk v.1.vn v.1.vc v.1.vs,v.2)else(kV v.2).bind fun n=>(P8 n.2 [46]).bind fun r=>bif r.1 then(kV r.2).bind fun m=>some (dX a n.1 m.1,m.2)else some (dX a [] n.1,r.2)):=by
 rw[E8e he hL hb,Aa,cond_false];refine U4.bind ((tB he hL o).badd i o b hi hb) fun n j o1 hj=>?_;rw[cH hL hb];exact U4.ret hj _
section
variable {o:Int} {low:Option GF} {D:Nat} (hl:C98 L nl e o low D)
include hl
theorem E4w {d:Nat}(hd:D<=d){i:Nat}(hi:i<=L.length)(a:Int)(w:List UInt8)(sO:Bool) :
  E2 L nl e o i (Y3 e low (L.drop i) fun G R=>bif sO then bif A8 3 [[42]] R then .ok (call0 a w) R.tail else(G.expr R).bind fun x R=>.ok (S2 a w x) R else(G.expr R).bind fun x R=>.ok (S2 a w x) R)
   (fW (kA (dW d)) a w sO (RX L nl e i o (-1)) fun e s=>some (e,s)):=by
 have:=A9o (z:=call0 a w) (pb:=fun s=>bif sO then(P8 s [42]).bind fun q=>bif !q.1 then((dW d).expr q.2 0).bind fun x=>some (S2 a w x.1,x.2)else some (call0 a w,q.2)else((dW d).expr s 0).bind fun x=>some (S2 a w x.1,x.2)) (gb:=fun G R=>bif sO then bif A8 3 [[42]] R then .ok (call0 a w) R.tail else(G.expr R).bind fun x R=>.ok (S2 a w x) R else(G.expr R).bind fun x R=>.ok (S2 a w x) R) he hL hl hi (fun G hG h0 h1 hi1=>?_)
 ·unfold fW;simp only[B5,Ad,Aa]at this;exact this
 ·subst hG
  have hE:∀{j:Nat},j<=L.length->E2 L nl e (o+1) j ((G.expr (L.drop j)).bind fun x R=>.ok (S2 a w x) R) (((dW d).expr (RX L nl e j (o+1) (-1)) 0).bind fun x=>some (S2 a w x.1,x.2)):=fun hj =>
   E2.bind ((hl.2.2 d hd).1.good _ hj) (fun x j1 _ hj1=>E2.ret hj1 _) (fun x j1 o'' a hj1 ha=>U4.ret hj1 _)
  cases sO with
  |false=>exact hE hi1
  |true =>
   simp only[cond_true];rw[V2 hL hi1,Aa,show wK [42]=3 from rfl]
   cases h5:A8 3 [[42]] (L.drop (i+1))with
   |false=>exact hE hi1
   |true =>
    simp only[Au,cond_false,cond_true,Cu];exact E2.suf (E2.ret (oM hL h5) _) (Cq _)
theorem A2d {d :Nat} (hd:D + 1<=d):O6 L nl e o (dW d).atom (gF e low) where
 good :=fun i hi => by
  obtain⟨d,rfl⟩:∃d',d=d' + 1:=⟨d - 1,by omega⟩
  have hd':D<=d:=by omega
  rw [dW];unfold iK;dsimp only;have hT:=bA hL i;rw [show(kA (dW d)).fa (RX L nl e i o (-1))=_ from bQ i o (-1),Aa,show(kA (dW d)).fs (RX L nl e i o (-1)) [40]=_ from qY hL i o [40],Aa];unfold gF
  cases h1:A8 3 [[40]] (L.drop i)with
  |true =>
   rw [show A8 (wK [40]) [[40]] (L.drop i)=true from h1];simp only [cond_true];refine A9o (pb:=fun s=>(dW d).expr s 0) (z:=XR.zero) he hL hl hi fun G hG h0 h1 hi1=>?_;subst hG;exact(hl.2.2 d hd').1.good (i + 1) hi1
  |false =>
   rw [show A8 (wK [40]) [[40]] (L.drop i)=false from h1];simp only [cond_false];rw [show(kA (dW d)).fe (RX L nl e i o (-1)) [67,65,83,84]=_ from V2 hL hi o aU,Aa,show wK aU=1 from rfl]
   cases h2:A8 1 [aU] (L.drop i)with
   |true =>
    simp only [cond_true];unfold A5q;rw [Cu];have hi1:=oM hL h2;have:=A9o (z:=XR.zero) (pb:=fun s=>((dW d).expr s 0).bind fun x=>(cL x.2 1 [.str zJ]).bind fun s=>(nN s).bind fun y=>some (gG (bB e (L.drop i)) y.1.1 y.1.2 x.1,y.2)) (gb:=fun G R=>(G.expr R).bind fun x R=>(O9 e 1 zJ R).bind fun _ R=>(U7 e R).bind fun y R=>.ok (gG (bB e (L.drop i)) y.1 y.2 x) R) he hL hl hi1 (fun G hG h0 h1 hi2=>?_)
    ·simp only [Ad,Aa]at this;exact E2.suf this (Cq i)
    ·subst hG;refine E2.bind ((hl.2.2 d hd').1.good _ hi2) (fun x j _ hj=>?_) (fun x j o'' a hj ha=>?_)
     ·rw [cT];refine E2.bind (uM he hL hj (o + 1) zJ) (fun _ j1 _ hj1=>?_) (fun _ j1 o'' a hj1 ha=>?_)
      ·exact E2.bind ((pY he hL (o + 1)).good j1 hj1) (fun y j2 _ hj2=>E2.ret hj2 _) (fun y j2 o'' a hj2 ha=>U4.ret hj2 _)
      ·exact U4.bind ((pY he hL (o + 1)).badd j1 o'' a hj1 ha) fun y j2 o2 hj2=>U4.ret hj2 _
     ·rw [cT,A0n he hL ha];simp only [Aq,Aa];exact U4.bind ((pY he hL (o + 1)).badd j o'' a hj ha) fun y j2 o2 hj2=>U4.ret hj2 _
   |false =>
    simp only [cond_false]
    have hW:∀w,A8 1 [w] (L.drop i)=true->w∈ J1->A8 1 J1 (L.drop i)=true/\yP (L.drop i)=w/\i + 1<=L.length:=fun w h hw=>by
     obtain⟨t,R,hd⟩:=pO h;rw [hd]at h ⊢;rw [A8,D1,Cj,Eg,Co,Ae,beq_iff_eq]at h;refine⟨?_,eq_of_beq h.2,(P5 hd).1⟩;rw [A8,beq_iff_eq.2 h.1,Ba];exact Dp.2 ⟨w,hw,h.2⟩
    have call:∀(w:List UInt8) (sO:Bool),A8 1 [w] (L.drop i)=true->w∈ J1->(w ==L0)=sO->E2 L nl e o i (bif A8 1 J1 (L.drop i)then zG e low (L.drop i)else
      match oN (L.drop i)with
      |some v=>.ok (pN (bB e (L.drop i)) v.vk v.vn v.vc v.vs) (L.drop i).tail
      |none=>(iF e (L.drop i)).bind fun n R=>bif A8 3 [[46]] R then(iF e R.tail).bind fun m R=>.ok (dX (bB e (L.drop i)) n m) R else .ok (dX (bB e (L.drop i)) [] n) R)
      (fW (kA (dW d)) (bB e (L.drop i)) w sO (RX L nl e (i + 1) o (-1)) fun e s=>some (e,s)):=fun w sO h hw hs=>by
     obtain⟨q1,q2,q3⟩:=hW w h hw;rw [q1,cond_true];unfold zG;rw [q2,hs,Cu];exact E2.suf (E4w he hL hl hd' q3 _ w sO) (Cq i)
    rw [show(kA (dW d)).fe (RX L nl e i o (-1)) [67,79,85,78,84]=_ from V2 hL hi o L0,Aa,show wK L0=1 from rfl]
    cases c1:A8 1 [L0] (L.drop i)with
    |true=>exact call _ true c1 (by decide) rfl
    |false =>
     simp only [Ar,cond_true,cond_false];rw [show(kA (dW d)).fe (RX L nl e i o (-1)) [83,85,77]=_ from V2 hL hi o _,Aa,show wK [83,85,77]=1 from rfl]
     cases c2:A8 1 [[83,85,77]] (L.drop i)with
     |true=>exact call _ false c2 (by decide) rfl
     |false =>
      simp only [Ar,cond_true,cond_false];rw [show(kA (dW d)).fe (RX L nl e i o (-1)) [77,73,78]=_ from V2 hL hi o _,Aa,show wK [77,73,78]=1 from rfl]
      cases c3:A8 1 [[77,73,78]] (L.drop i)with
      |true=>exact call _ false c3 (by decide) rfl
      |false =>
       simp only [Ar,cond_true,cond_false];rw [show(kA (dW d)).fe (RX L nl e i o (-1)) [77,65,88]=_ from V2 hL hi o _,Aa,show wK [77,65,88]=1 from rfl]
       cases c4:A8 1 [[77,65,88]] (L.drop i)with
       |true=>exact call _ false c4 (by decide) rfl
       |false =>
        simp only [Ar,cond_true,cond_false]
        have:A8 1 J1 (L.drop i)=false:=by
         rcases hd:L.drop i with _ |⟨t,R⟩
         ·rfl
         ·rw [hd,A8]at c1 c2 c3 c4;rw [A8]
          cases hk:t.k ==1 with
          |false=>rfl
          |true =>
           rw [hk]at c1 c2 c3 c4;simp only [Ba,D1,Cj,Eg,Co]at c1 c2 c3 c4 ⊢;rw [c1,c2,c3,c4];rfl
        rw [this,cond_false];exact C8h he hL hi
 badd:=fun i o' a hi ha=>by
  obtain⟨d,rfl⟩:∃d',d=d' + 1:=⟨d - 1,by omega⟩;rw [dW];unfold iK;dsimp only;have st:∀w,(kA (dW d)).fe (RX L nl e i o' a) w=some (false,RX L nl e i o' a):=fun w=>cH hL ha w;rw [show(kA (dW d)).fa (RX L nl e i o' a)=_ from bQ i o' a,Aa,show(kA (dW d)).fs (RX L nl e i o' a) [40]=_ from A0f ha [40],Aa];simp only [cond_false,st,Aa,Ar,cond_true];exact B2v he hL hi ha
theorem A3e {d:Nat}(hd:D+2<=d):O6 L nl e o (dW d).fact (G3 e low) where
 good:=fun i hi=>by
  obtain⟨d,rfl⟩:∃d',d=d'+1:=⟨d-1,by omega⟩;rw[dW];unfold iK;dsimp only;rw[bQ,Aa,qY hL,Aa];unfold G3;rw[show wK [45]=3 from rfl]
  cases h:A8 3 [[45]] (L.drop i)with
  |false =>
   simp only[Ar,cond_true,cond_false]
   have:∀r:Option (XR×RS),(r.bind fun e=>some (e.1,e.2))=r:=fun r=>by cases r<;>rfl
   rw[this];exact(A2d he hL hl (d:=d) (by omega)).good i hi
  |true =>
   simp only[Au,cond_true,cond_false];have hi1:=oM hL h;refine tS (pb:=fun s=>((dW d).fact s.next).bind fun x=>some (wW (bB e (L.drop i)) [45] x.1,x.2.shut)) he hL hl hi fun G hG h0 h1=>?_;subst hG;rw[mY hL hi,Cu];refine E2.suf (E2.bind ((hl.2.2 d (by omega)).2.2.good (i+1) hi1) (fun x j _ hj=>?_) (fun x j o'' a hj ha=>?_)) (Cq i)
   ·simp only;rw[B8n he hL h0 h1];exact E2.ret hj _
   ·exact U4.ret hj _
 badd:=fun i o' a hi ha=>by
  obtain⟨d,rfl⟩:∃d',d=d'+1:=⟨d-1,by omega⟩;rw[dW];unfold iK;dsimp only;rw[bQ,Aa,A0f ha,Aa,Ar,cond_true];exact U4.bind ((A2d he hL hl (d:=d) (by omega)).badd i o' a hi ha) fun x j o1 hj=>U4.ret hj _
theorem qW {d D':Nat}{l:Int}{g:List TR->J3 XR}(hd:D'+2<=d)(hD:D+2<=D'+1)(hl0:0<=l)
  (h6:l<=5->∀d,D'<=d->O6 L nl e o (fun s=>(dW d).expr s 6) (G3 e low)) (h5:l<=4->∀d,D'<=d->O6 L nl e o (fun s=>(dW d).expr s 5) (uX e low)) (h4:l<=3->∀d,D'<=d->O6 L nl e o (fun s=>(dW d).expr s 4) (tW e low))
  (h2:l<=1->∀d,D'<=d->O6 L nl e o (fun s=>(dW d).expr s 2) (bS e low)) (h1:l<=0->∀d,D'<=d->O6 L nl e o (fun s=>(dW d).expr s 1) (sW e low))
  (hg1:∀T,¬(l<=2/\A8 1 [G4] T=true)->g T=(G3 e low T).bind (M7 e low l 6 5000 5000 5000 5000))
  (hg2:∀T,l<=2->A8 1 [G4] T=true->g T=(sJ e low T fun G=>(G.neg T.tail).bind fun x R=>.ok (wW (bB e T) G4 x) R).bind (M7 e low l 2 5000 5000 5000 5000)):O6 L nl e o (fun s=>(dW d).expr s l) g:=by
 obtain⟨d,rfl⟩:∃d',d=d'+1+1:=⟨d-2,by omega⟩
 have rest:∀(i:Nat) (x:XR) (h:Int),i<=L.length->0<=h->E2 L nl e o i (M7 e low l h 5000 5000 5000 5000 x (L.drop i)) ((dW (d+1)).rest (RX L nl e i o (-1)) x l h):=fun i x h hi hh=>by
  have hn:=hL.len;exact D1d he hL (fun g=>h6 g d (by omega)) (fun g=>h5 g d (by omega)) (fun g=>h4 g d (by omega)) (fun g=>h2 g d (by omega)) (fun g=>h1 g d (by omega)) hl0 (L.length+2) i 5000 5000 5000 5000 x h hi (by omega) (by omega) (by omega) (by omega) (by omega) hh
 have rest_b:∀(i:Nat) (x:XR) (h o' a:Int),i<=L.length->0<=a->U4 L nl e a ((dW (d+1)).rest (RX L nl e i o' a) x l h):=fun i x h o' a hi ha=>by
  show U4 L nl e a (rU (dW d).expr (L.length+2) (RX L nl e i o' a) x l h);rw[rU,lM ha];exact U4.ret hi x
 have hf:=A3e he hL hl (d:=d+1) (by omega)
 have body:∀i,i<=L.length->E2 L nl e o i ((G3 e low (L.drop i)).bind (M7 e low l 6 5000 5000 5000 5000)) (((dW (d+1)).fact (RX L nl e i o (-1))).bind fun x=>((dW (d+1)).rest x.2 x.1 l 6).bind fun x=>some (x.1,x.2)):=fun i hi=>by
  have dV:∀r:Option (XR×RS),(r.bind fun e=>some (e.1,e.2))=r:=fun r=>by cases r<;>rfl
  refine E2.bind (hf.good i hi) (fun x j _ hj=>?_) (fun x j o'' a hj ha=>?_)
  ·rw[dV];exact rest j x 6 hj (by omega)
  ·rw[dV];exact rest_b j x 6 o'' a hj ha
 have body_b:∀i o' a,i<=L.length->0<=a->U4 L nl e a (((dW (d+1)).fact (RX L nl e i o' a)).bind fun x=>((dW (d+1)).rest x.2 x.1 l 6).bind fun x=>some (x.1,x.2)):=fun i o' a hi ha=>by
  refine U4.bind (hf.badd i o' a hi ha) fun x j o1 hj=>?_;exact U4.bind (rest_b j x 6 o1 a hj ha) fun y j1 o2 hj1=>U4.ret hj1 _
 refine⟨fun i hi=>?_,fun i o' a hi ha=>?_⟩
 ·rw[dW];unfold iK;dsimp only;rw[bQ,Aa]
  by_cases g2:l<=2
  ·rw[decide_eq_true g2,cond_true,qY hL,Aa,show wK [78,79,84]=1 from rfl]
   cases h:A8 1 [G4] (L.drop i)with
   |false =>
    rw[hg1 _ (by rw[h];rintro⟨-,q⟩;cases q)];exact body i hi
   |true =>
    rw[hg2 _ g2 h];have hi1:=oM hL h;simp only[cond_true];have key:=tS (z:=XR.zero) (pb:=fun s=>((dW (d+1)).expr s.next 2).bind fun x=>some (wW (bB e (L.drop i)) G4 x.1,x.2.shut)) (gb:=fun G=>(G.neg (L.drop i).tail).bind fun x R=>.ok (wW (bB e (L.drop i)) G4 x) R) he hL hl hi (fun G hG q0 q1=>?_)
    ·have key2:E2 L nl e o i ((sJ e low (L.drop i) fun G=>(G.neg (L.drop i).tail).bind fun x R=>.ok (wW (bB e (L.drop i)) G4 x) R).bind (M7 e low l 2 5000 5000 5000 5000))
       ((iU (RX L nl e i o (-1))).bind fun d_1=>bif !d_1.1 then some (XR.zero,d_1.2)else((dW (d+1)).expr d_1.2.next 2).bind fun e_1=>((dW (d+1)).rest e_1.2.shut (wW (bB e (L.drop i)) [78,79,84] e_1.1) l 2).bind fun e=>some (e.1,e.2)):=by
      cases low with
      |none =>
       obtain rfl:o=20:=hl;rw[B5l he hL];exact⟨(bA hL i).nxt0 he,_,i,20,hi,rfl⟩
      |some G =>
       obtain⟨h0,h1,hl2⟩:=hl;rw[B46 he hL h0 h1]at key ⊢;simp only[Aa,Au,cond_false]at key ⊢
       have e1:∀r:Option (XR×RS),(r.bind fun e_1=>((dW (d+1)).rest e_1.2.shut (wW (bB e (L.drop i)) [78,79,84] e_1.1) l 2).bind fun e=>some (e.1,e.2))=(r.bind fun x=>some (wW (bB e (L.drop i)) G4 x.1,x.2.shut)).bind fun x=>(dW (d+1)).rest x.2 x.1 l 2:=fun r=>by
        cases r with
        |none=>rfl
        |some x =>
         simp only[Aa]
         cases(dW (d+1)).rest x.2.shut (wW (bB e (L.drop i)) [78,79,84] x.1) l 2<;>rfl
       rw[e1];exact E2.bind key (fun x j _ hj=>rest j x 2 hj (by omega)) (fun x j o'' a hj ha=>rest_b j x 2 o'' a hj ha)
     exact key2
    ·subst hG;rw[mY hL hi,Cu];refine E2.suf (E2.bind ((hl.2.2 (d+1) (by omega)).2.1.good (i+1) hi1) (fun x j _ hj=>?_) (fun x j o'' a hj ha=>?_)) (Cq i)
     ·simp only;rw[B8n he hL q0 q1];exact E2.ret hj _
     ·exact U4.ret hj _
  ·rw[decide_eq_false g2,cond_false,hg1 _ (fun q=>g2 q.1)];exact body i hi
 ·rw[dW];unfold iK;dsimp only;rw[bQ,Aa,A0f ha,Aa,cond_false]
  cases decide (l<=2)<;>exact body_b i o' a hi ha
end
end
section
variable {e:Int} {low:Option GF}
abbrev lp3 (e:Int)(low:Option GF):=J4 e 3 (G3 e low) 5000
abbrev lp2 (e:Int)(low:Option GF):=J4 e 2 (uX e low) 5000
abbrev lp1 (e:Int)(low:Option GF):=J4 e 1 (bS e low) 5000
abbrev lp0 (e:Int)(low:Option GF):=J4 e 0 (sW e low) 5000
theorem nO {α:Type}:(fun(x:α) (T:List TR)=>J3.ok x T)=J3.ok:=rfl
theorem E9t (T:List TR):G3 e low T=(G3 e low T).bind (M7 e low 6 6 5000 5000 5000 5000):=by
 show _=(G3 e low T).bind fun x T=>J3.ok x T;rw[nO,J3.bind_okk]
theorem F63 (T:List TR):uX e low T=(G3 e low T).bind (M7 e low 5 6 5000 5000 5000 5000):=by
 show(G3 e low T).bind (lp3 e low)=(G3 e low T).bind fun x T=>(lp3 e low x T).bind fun x T=>J3.ok x T;simp only[nO,J3.bind_okk]
theorem F69 (T:List TR):tW e low T=(G3 e low T).bind (M7 e low 4 6 5000 5000 5000 5000):=by
 show((G3 e low T).bind (lp3 e low)).bind (lp2 e low)=(G3 e low T).bind fun x T=>(lp3 e low x T).bind fun x T=>(lp2 e low x T).bind fun x T=>J3.ok x T;simp only[nO,J3.bind_okk,J3.bind_assoc]
theorem F6q (T:List TR):nR e low T=(G3 e low T).bind (M7 e low 2 6 5000 5000 5000 5000):=by
 show(((G3 e low T).bind (lp3 e low)).bind (lp2 e low)).bind (fR e low)=(G3 e low T).bind fun x T=>(lp3 e low x T).bind fun x T=>(lp2 e low x T).bind fun x T=>(fR e low x T).bind fun x T=>J3.ok x T;simp only[nO,J3.bind_okk,J3.bind_assoc]
abbrev A9n (e:Int)(low:Option GF)(T:List TR):J3 XR:=sJ e low T fun G=>(G.neg T.tail).bind fun x R=>.ok (wW (bB e T) G4 x) R
theorem D46 {T:List TR}(h:¬A8 1 [G4] T=true):bS e low T=nR e low T:=by
 unfold bS;rw[Bool.eq_false_iff.2 h];rfl
theorem D0b {T:List TR}(h:A8 1 [G4] T=true):bS e low T=A9n e low T:=by
 unfold bS;rw[h];rfl
theorem E8o (T:List TR)(h:¬((2:Int)<=2/\A8 1 [G4] T=true)):bS e low T=(G3 e low T).bind (M7 e low 2 6 5000 5000 5000 5000):=by
 rw[D46 fun g=>h ⟨Int.le_refl _,g⟩,F6q]
theorem F0q (T:List TR)(h:A8 1 [G4] T=true):bS e low T=(A9n e low T).bind (M7 e low 2 2 5000 5000 5000 5000):=by
 rw[D0b h];show _=(A9n e low T).bind fun x T=>J3.ok x T;rw[nO,J3.bind_okk]
theorem F0s (T:List TR)(h:¬((1:Int)<=2/\A8 1 [G4] T=true)):sW e low T=(G3 e low T).bind (M7 e low 1 6 5000 5000 5000 5000):=by
 show(bS e low T).bind (lp1 e low)=_;rw[D46 fun g=>h ⟨by omega,g⟩];show((((G3 e low T).bind (lp3 e low)).bind (lp2 e low)).bind (fR e low)).bind (lp1 e low)=(G3 e low T).bind fun x T=>(lp3 e low x T).bind fun x T=>(lp2 e low x T).bind fun x T=>(fR e low x T).bind fun x T=>(lp1 e low x T).bind fun x T=>J3.ok x T;simp only[nO,J3.bind_okk,J3.bind_assoc]
theorem F15 (T:List TR)(h:A8 1 [G4] T=true):sW e low T=(A9n e low T).bind (M7 e low 1 2 5000 5000 5000 5000):=by
 show(bS e low T).bind (lp1 e low)=_;rw[D0b h];show(A9n e low T).bind (lp1 e low)=(A9n e low T).bind fun x T=>(lp1 e low x T).bind fun x T=>J3.ok x T;simp only[nO,J3.bind_okk]
theorem F4e (T:List TR)(h:¬((0:Int)<=2/\A8 1 [G4] T=true)):T9 e low T=(G3 e low T).bind (M7 e low 0 6 5000 5000 5000 5000):=by
 show((bS e low T).bind (lp1 e low)).bind (lp0 e low)=_;rw[D46 fun g=>h ⟨by omega,g⟩];show(((((G3 e low T).bind (lp3 e low)).bind (lp2 e low)).bind (fR e low)).bind (lp1 e low)).bind (lp0 e low)=(G3 e low T).bind fun x T=>(lp3 e low x T).bind fun x T=>(lp2 e low x T).bind fun x T=>(fR e low x T).bind fun x T=>(lp1 e low x T).bind fun x T=>lp0 e low x T;simp only[J3.bind_assoc]
theorem F3y (T:List TR)(h:A8 1 [G4] T=true):T9 e low T=(A9n e low T).bind (M7 e low 0 2 5000 5000 5000 5000):=by
 show((bS e low T).bind (lp1 e low)).bind (lp0 e low)=_;rw[D0b h];show((A9n e low T).bind (lp1 e low)).bind (lp0 e low)=(A9n e low T).bind fun x T=>(lp1 e low x T).bind fun x T=>lp0 e low x T;simp only[J3.bind_assoc]
end
section
variable {L:List TR} {nl:Option Bool} {e:Int} (he:0<=e) (hL:dK L) {o:Int} {low:Option GF} {D:Nat} (hl:C98 L nl e o low D)
include he hL hl
theorem rx6 {d:Nat}(hd:D+3<=d):O6 L nl e o (fun s=>(dW d).expr s 6) (G3 e low) :=
 qW (D':=D+1) he hL hl hd (by omega) (by omega) (fun h=>absurd h (by decide)) (fun h=>absurd h (by decide)) (fun h=>absurd h (by decide)) (fun h=>absurd h (by decide)) (fun h=>absurd h (by decide)) (fun T _=>E9t T) (fun T h=>absurd h (by decide))
theorem rx5 {d:Nat}(hd:D+5<=d):O6 L nl e o (fun s=>(dW d).expr s 5) (uX e low) :=
 qW (D':=D+3) he hL hl hd (by omega) (by omega) (fun _ d h=>rx6 he hL hl h) (fun h=>absurd h (by decide)) (fun h=>absurd h (by decide)) (fun h=>absurd h (by decide)) (fun h=>absurd h (by decide)) (fun T _=>F63 T) (fun T h=>absurd h (by decide))
theorem rx4 {d:Nat}(hd:D+7<=d):O6 L nl e o (fun s=>(dW d).expr s 4) (tW e low) :=
 qW (D':=D+5) he hL hl hd (by omega) (by omega) (fun _ d h=>rx6 he hL hl (by omega)) (fun _ d h=>rx5 he hL hl h) (fun h=>absurd h (by decide)) (fun h=>absurd h (by decide)) (fun h=>absurd h (by decide)) (fun T _=>F69 T) (fun T h=>absurd h (by decide))
theorem rx2 {d:Nat}(hd:D+9<=d):O6 L nl e o (fun s=>(dW d).expr s 2) (bS e low) :=
 qW (D':=D+7) he hL hl hd (by omega) (by omega) (fun _ d h=>rx6 he hL hl (by omega)) (fun _ d h=>rx5 he hL hl (by omega)) (fun _ d h=>rx4 he hL hl h) (fun h=>absurd h (by decide)) (fun h=>absurd h (by decide)) (fun T h=>E8o T h) (fun T _ h=>F0q T h)
theorem rx1 {d:Nat}(hd:D+11<=d):O6 L nl e o (fun s=>(dW d).expr s 1) (sW e low) :=
 qW (D':=D+9) he hL hl hd (by omega) (by omega) (fun _ d h=>rx6 he hL hl (by omega)) (fun _ d h=>rx5 he hL hl (by omega)) (fun _ d h=>rx4 he hL hl (by omega)) (fun _ d h=>rx2 he hL hl h) (fun h=>absurd h (by decide)) (fun T h=>F0s T h) (fun T _ h=>F15 T h)
theorem rx0 {d:Nat}(hd:D+13<=d):O6 L nl e o (fun s=>(dW d).expr s 0) (T9 e low) :=
 qW (D':=D+11) he hL hl hd (by omega) (by omega) (fun _ d h=>rx6 he hL hl (by omega)) (fun _ d h=>rx5 he hL hl (by omega)) (fun _ d h=>rx4 he hL hl (by omega)) (fun _ d h=>rx2 he hL hl (by omega)) (fun _ d h=>rx1 he hL hl h) (fun T h=>F4e T h) (fun T _ h=>F3y T h)
end
theorem C0g {L:List TR}{nl:Option Bool}{e:Int}(he:0<=e)(hL:dK L):∀k:Nat,k<=20->C98 L nl e (20-(k:Int)) (nW e k) (13 * k)
 |0,_=>rfl
 |k+1,h=>by
  have ih:=C0g (nl:=nl) he hL k (by omega);refine⟨by omega,by omega,fun d hd=>?_⟩;rw[show(20:Int)-((k+1:Nat):Int)+1=20-(k:Int)by omega];exact⟨rx0 he hL ih (by omega),rx2 he hL ih (by omega),A3e he hL ih (by omega)⟩
theorem F6m {L:List TR}{nl:Option Bool}{e:Int}(he:0<=e)(hL:dK L){d:Nat}(hd:273<=d):O6 L nl e 0 (fun s=>(dW d).expr s 0) (T9 e (nW e 20)) :=
 rx0 he hL (C0g he hL 20 (by omega)) (by omega)
end Go.Proofs.YtkpfigikffphdaaGreatDoor
end
