/-
  Lemmas, part P1: what the claim needs of the texts of wip/tpl.
-/
import Derived.WalkKit
import Derived.WalkLawsBesides
import Derived.WalkSpells
import Derived.Still
import Derived.Laws.OwnMore
import Derived.Laws.MakeOwn
import Derived.LoopN
import Derived.CallsIn
import Derived.Laws.StructEq
set_option linter.unusedVariables false
set_option linter.unusedSimpArgs false
open Array renaming getElem?_eq_some_iff→Bu,mem_of_getElem?→Dc
open Bool renaming and_eq_true→Ae,false_eq_true→Bp
open List renaming getElem?_eq_getElem→Ag,getElem?_eq_some_iff→Aj,getElem?_map→Az,replicate→Bv,length_take→Cf,all_cons→Ci,eq_nil_of_length_eq_zero→Dw
open Nat renaming le_refl→Ak,lt_of_lt_of_le→As,le_trans→Aw,mul_le_mul_right→Es
open Option renaming bind_some→Aa,map_eq_some_iff→Am,map_some→Aq,isSome_iff_exists→Cn,map_none→Fl
open Option.some renaming injEq→Ah
section
namespace Go.Proofs.YtkpfigikffphdaaGreatDoor
open Go.RowKit
inductive PV where
 |undef
 |bool (b:Bool)
 |int (k:IntKind) (n:Int)
 |str (s:List UInt8)
 |sl (nl:Option Bool) (sz n:Nat) (cells:List PV)
 |agg (cells:List PV)
 |tuple (vs:List PV)
 |nilptr
 |nptr
 |nilIface
 |iface (t:TypeId) (v:PV)
 |nilFunc
 |ptr (b off:Nat)
 |eptr (cells:List PV)
 |clo (f:FuncId) (caps:List PV)
 |agp (cells:List PV)
 |tupp (vs:List PV)
 |yld
 |optr (d i off:Nat)
 |bsl (id off sz n:Nat)
 deriving Inhabited
structure tC where
 l:Nat
 γ:Nat->Nat->Option Nat
structure C4 where
 w:World
 U:Nat->Nat
 y:tC
def pD (f:FuncId)(vs:List Value):Value:=if f<1000000 then .func (.func f) #[] vs.toArray else .func (.func (f-1000000)) vs.toArray #[]
def T6 (M:C4)(b o:Nat)(vs:List Value):Prop:=∀j u,vs[j]? =some u->M.w.cell? ⟨b,o+j,none⟩=some u/\o+j<M.U b
mutual
def B7 (M:C4):PV->Value->Prop
 |.undef,_=>True
 |.bool b,v=>v=.bool b
 |.int k n,v=>v=.int k n
 |.str s,v=>v=.string ⟨s.toArray⟩
 |.sl nl sz n cells,v=>∃A c vs,v=.slice A n c/\n<=c/\c<=maxLen/\(∀b,nl=some b->A.isNone=b)/\(A=none->c=0)/\cells.length=n * sz/\D7 M cells vs/\
  (vs=[]\/∃b o,A=some ⟨b,o,none⟩/\T6 M b o vs)
 |.agg cells,v=>∃vs,v=.agg vs.toArray/\D7 M cells vs
 |.tuple xs,v=>∃vs,v=.tuple vs.toArray/\K9 M xs vs
 |.nilptr,v=>v=.pointer none
 |.nptr,v=>∃a,v=.pointer (some a)
 |.nilIface,v=>v=.nilIface
 |.iface t x,v=>∃u,v=.iface t u/\B7 M x u
 |.nilFunc,v=>v=.nilFunc
 |.ptr _ _,_=>False
 |.eptr cs,v=>∃b o vs,v=.pointer (some ⟨b,o,none⟩)/\D7 M cs vs/\T6 M b o vs
 |.clo f caps,v=>caps=[]/\v=pD f []
 |.agp _,_=>False
 |.tupp _,_=>False
 |.yld,_=>False
 |.optr _ _ _,_=>False
 |.bsl _ _ _ _,_=>False
def D7 (M:C4):List PV->List Value->Prop
 |[],vs=>vs=[]
 |x::xs,vs=>∃u us,vs=u::us/\u.oneCell'=true/\B7 M x u/\D7 M xs us
def K9 (M:C4):List PV->List Value->Prop
 |[],vs=>vs=[]
 |x::xs,vs=>∃u us,vs=u::us/\B7 M x u/\K9 M xs us
end
def A1y (w:World)(b k:Nat):Prop:=∃arr e,w.heap[b]? =some (.cells arr e (0,0))/\k<=arr.size
structure C4.le (M M':C4):Prop where
 cell:∀b o u,M.w.cell? ⟨b,o,none⟩=some u->o<M.U b->M'.w.cell? ⟨b,o,none⟩=some u/\o<M'.U b
 y:M'.y=M.y
 size:∀b k,A1y M.w b k->A1y M'.w b k
theorem C4.le_refl (M:C4):M.le M:=⟨fun _ _ _ h k=>⟨h,k⟩,rfl,fun _ _ h=>h⟩
theorem C4.le_trans {A B C:C4}(h:A.le B)(k:B.le C):A.le C:=⟨fun b o u h1 h2=>let⟨h3,h4⟩:=h.cell b o u h1 h2;k.cell b o u h3 h4,k.y.trans h.y,fun b n q=>k.size b n (h.size b n q)⟩
theorem T6.mono {M M':C4}(hm:M.le M'){b o:Nat}{vs:List Value}(h:T6 M b o vs):T6 M' b o vs :=
 fun j u hu=>hm.cell _ _ _ (h j u hu).1 (h j u hu).2
mutual
theorem B7.mono {M M':C4}(hm:M.le M'):∀(x:PV) (v:Value),B7 M x v->B7 M' x v
 |.undef,_,_=>trivial
 |.bool _,_,h=>h
 |.int _ _,_,h=>h
 |.str _,_,h=>h
 |.sl nl sz n cells,v,h=>by
  simp only[B7]at h ⊢;obtain⟨A,c,vs,h1,h2,h3,h4,h5,h6,h7,h8⟩:=h;exact⟨A,c,vs,h1,h2,h3,h4,h5,h6,D7.mono hm cells vs h7,h8.imp id fun⟨b,o,e,k⟩=>⟨b,o,e,k.mono hm⟩⟩
 |.agg cells,v,h=>by
  simp only[B7]at h ⊢;obtain⟨vs,h1,h2⟩:=h;exact⟨vs,h1,D7.mono hm cells vs h2⟩
 |.tuple cells,v,h=>by
  simp only[B7]at h ⊢;obtain⟨vs,h1,h2⟩:=h;exact⟨vs,h1,K9.mono hm cells vs h2⟩
 |.nilptr,_,h=>h
 |.nptr,_,h=>h
 |.nilIface,_,h=>h
 |.iface t x,v,h=>by
  simp only[B7]at h ⊢;obtain⟨u,h1,h2⟩:=h;exact⟨u,h1,B7.mono hm x u h2⟩
 |.nilFunc,_,h=>h
 |.ptr _ _,_,h=>h.elim
 |.eptr cells,v,h=>by
  simp only[B7]at h ⊢;obtain⟨b,o,vs,h1,h2,h3⟩:=h;exact⟨b,o,vs,h1,D7.mono hm cells vs h2,h3.mono hm⟩
 |.clo _ _,_,h=>h
 |.agp _,_,h=>h.elim
 |.tupp _,_,h=>h.elim
 |.yld,_,h=>h.elim
 |.optr _ _ _,_,h=>h.elim
 |.bsl _ _ _ _,_,h=>h.elim
theorem D7.mono {M M':C4}(hm:M.le M'):∀(xs:List PV) (vs:List Value),D7 M xs vs->D7 M' xs vs
 |[],_,h=>h
 |x::xs,vs,h=>by
  simp only[D7]at h ⊢;obtain⟨u,us,h1,h2,h3,h4⟩:=h;exact⟨u,us,h1,h2,B7.mono hm x u h3,D7.mono hm xs us h4⟩
theorem K9.mono {M M':C4}(hm:M.le M'):∀(xs:List PV) (vs:List Value),K9 M xs vs->K9 M' xs vs
 |[],_,h=>h
 |x::xs,vs,h=>by
  simp only[K9]at h ⊢;obtain⟨u,us,h1,h3,h4⟩:=h;exact⟨u,us,h1,B7.mono hm x u h3,K9.mono hm xs us h4⟩
end
theorem D7.length {M:C4}:∀{xs:List PV} {vs:List Value},D7 M xs vs->xs.length=vs.length
 |[],vs,h=>by simp only[D7]at h;subst h;rfl
 |x::xs,vs,h=>by
  simp only[D7]at h;obtain⟨u,us,rfl,_,_,h⟩:=h;simp[D7.length h]
theorem D7.get {M:C4}:∀{xs:List PV} {vs:List Value},D7 M xs vs->∀{j:Nat} {x:PV},xs[j]? =some x->∃u,vs[j]? =some u/\u.oneCell'=true/\B7 M x u
 |[],vs,h,j,x,hx=>by simp at hx
 |y::xs,vs,h,j,x,hx=>by
  simp only[D7]at h;obtain⟨u,us,rfl,h1,h2,h⟩:=h
  cases j with
  |zero=>simp at hx;subst hx;exact⟨u,rfl,h1,h2⟩
  |succ j=>obtain⟨v,g⟩:=h.get (j:=j) (by simpa using hx);exact⟨v,by simpa using g⟩
theorem D7.append {M:C4}:∀{xs ys:List PV} {vs us:List Value},D7 M xs vs->D7 M ys us->D7 M (xs++ys) (vs++us)
 |[],ys,vs,us,h,k=>by simp only[D7]at h;subst h;exact k
 |x::xs,ys,vs,us,h,k=>by
  simp only[D7]at h;obtain⟨u,ws,rfl,h1,h2,h⟩:=h;exact⟨u,ws++us,rfl,h1,h2,h.append k⟩
theorem D7.drop {M:C4}:∀{xs:List PV} {vs:List Value} (k:Nat),D7 M xs vs->D7 M (xs.drop k) (vs.drop k)
 |xs,vs,0,h=>h
 |[],vs,k+1,h=>by simp only[D7]at h;subst h;rfl
 |x::xs,vs,k+1,h=>by
  simp only[D7]at h;obtain⟨u,us,rfl,_,_,h⟩:=h;exact h.drop k
theorem D7.take {M:C4}:∀{xs:List PV} {vs:List Value} (k:Nat),D7 M xs vs->D7 M (xs.take k) (vs.take k)
 |xs,vs,0,h=>rfl
 |[],vs,k+1,h=>by simp only[D7]at h;subst h;rfl
 |x::xs,vs,k+1,h=>by
  simp only[D7]at h;obtain⟨u,us,rfl,h1,h2,h⟩:=h;exact⟨u,us.take k,rfl,h1,h2,h.take k⟩
theorem D7.one {M:C4}:∀{xs:List PV} {vs:List Value},D7 M xs vs->∀u∈vs,u.oneCell'=true
 |[],vs,h=>by simp only[D7]at h;subst h;simp
 |x::xs,vs,h=>by
  simp only[D7]at h;obtain⟨u,us,rfl,h1,_,h⟩:=h;intro v hv
  cases hv with
  |head=>exact h1
  |tail _ hv=>exact h.one v hv
theorem K9.get {M:C4}:∀{xs:List PV} {vs:List Value},K9 M xs vs->∀{j:Nat} {x:PV},xs[j]? =some x->∃u,vs[j]? =some u/\B7 M x u
 |[],vs,h,j,x,hx=>by simp at hx
 |y::xs,vs,h,j,x,hx=>by
  simp only[K9]at h;obtain⟨u,us,rfl,h2,h⟩:=h
  cases j with
  |zero=>simp at hx;subst hx;exact⟨u,rfl,h2⟩
  |succ j=>obtain⟨v,g⟩:=h.get (j:=j) (by simpa using hx);exact⟨v,by simpa using g⟩
theorem K9.length {M:C4}:∀{xs:List PV} {vs:List Value},K9 M xs vs->xs.length=vs.length
 |[],vs,h=>by simp only[K9]at h;subst h;rfl
 |x::xs,vs,h=>by
  simp only[K9]at h;obtain⟨u,us,rfl,_,h⟩:=h;simp[K9.length h]
theorem T6.drop {M:C4}{b o:Nat}{vs:List Value}(h:T6 M b o vs)(k:Nat):T6 M b (o+k) (vs.drop k):=by
 intro j u hu;rw[List.getElem?_drop]at hu;have:=h _ _ hu
 rwa [<-Nat.add_assoc]at this
theorem T6.take {M:C4}{b o:Nat}{vs:List Value}(h:T6 M b o vs)(k:Nat):T6 M b o (vs.take k):=by
 intro j u hu;rw[List.getElem?_take]at hu;split at hu
 ·exact h _ _ hu
 ·cases hu
/-! ## what slots hold: also pointers to boxes of the call's own,closures,the loop body that was handed in -/
mutual
def C1 (M:C4)(β:Nat->Option Nat):PV->Value->Prop
 |.ptr id off,v=>∃b,β id=some b/\v=.pointer (some ⟨b,off,none⟩)
 |.clo f caps,v=>∃vs,v=pD f vs/\B9 M β caps vs
 |.agp cells,v=>∃vs,v=.agg vs.toArray/\(∀u∈vs,u.oneCell'=true)/\B9 M β cells vs
 |.tupp xs,v=>∃vs,v=.tuple vs.toArray/\B9 M β xs vs
 |.yld,v=>v=.func (.yield M.y.l) #[] #[]
 |.optr d i off,v=>∃b,M.y.γ d i=some b/\v=.pointer (some ⟨b,off,none⟩)
 |.bsl id off sz n,v=>∃b c,β id=some b/\v=.slice (some ⟨b,off,none⟩) n c/\n<=c/\c<=maxLen/\A1y M.w b (off+c * sz)
 |x,v=>B7 M x v
def B9 (M:C4)(β:Nat->Option Nat):List PV->List Value->Prop
 |[],vs=>vs=[]
 |x::xs,vs=>∃u us,vs=u::us/\C1 M β x u/\B9 M β xs us
end
def PV.data:PV->Bool
 |.ptr _ _=>false
 |.clo _ []=>true
 |.clo _ (_::_)=>false
 |.agp _=>false
 |.tupp _=>false
 |.yld=>false
 |.optr _ _ _=>false
 |.bsl _ _ _ _=>false
 |_=>true
theorem C1.data {M:C4}{β:Nat->Option Nat}{x:PV}{v:Value}(h:C1 M β x v)(hd:x.data=true):B7 M x v:=by
 cases x with
 |clo f caps =>
  cases caps with
  |nil =>
   simp only[C1,B9]at h;obtain⟨vs,rfl,rfl⟩:=h;exact⟨rfl,rfl⟩
  |cons c cs=>simp[PV.data]at hd
 |_=>first|(simp only[PV.data]at hd;cases hd;done)|(simpa only[C1]using h)
theorem C1.of_data {M:C4}{β:Nat->Option Nat}{x:PV}{v:Value}(h:B7 M x v):C1 M β x v:=by
 cases x with
 |clo f caps =>
  simp only[B7]at h;obtain⟨rfl,rfl⟩:=h;simp only[C1];exact⟨[],rfl,by simp only[B9]⟩
 |ptr b o=>simp[B7]at h
 |agp cs=>simp[B7]at h
 |tupp cs=>simp[B7]at h
 |yld=>simp[B7]at h
 |optr d i o=>simp[B7]at h
 |bsl _ _ _ _=>simp[B7]at h
 |_=>simpa only[C1]using h
mutual
theorem C1.mono {M M':C4}{β β':Nat->Option Nat}(hm:M.le M')(hb:∀id b,β id=some b->β' id=some b):∀{x:PV} {v:Value},C1 M β x v->C1 M' β' x v
 |.ptr id off,v,h=>by simp only[C1]at h ⊢;obtain⟨b,h1,h2⟩:=h;exact⟨b,hb _ _ h1,h2⟩
 |.clo f caps,v,h=>by simp only[C1]at h ⊢;obtain⟨vs,h1,h2⟩:=h;exact⟨vs,h1,B9.mono hm hb h2⟩
 |.agp cells,v,h=>by simp only[C1]at h ⊢;obtain⟨vs,h1,h0,h2⟩:=h;exact⟨vs,h1,h0,B9.mono hm hb h2⟩
 |.tupp cells,v,h=>by simp only[C1]at h ⊢;obtain⟨vs,h1,h2⟩:=h;exact⟨vs,h1,B9.mono hm hb h2⟩
 |.yld,v,h=>by simp only[C1]at h ⊢;rw[hm.y];exact h
 |.optr d i o,v,h=>by simp only[C1]at h ⊢;rw[hm.y];exact h
 |.bsl id off sz n,v,h=>by simp only[C1]at h ⊢;obtain⟨b,c,h1,h2,h3,h4,h5⟩:=h;exact⟨b,c,hb _ _ h1,h2,h3,h4,hm.size _ _ h5⟩
 |.undef,v,h=>C1.of_data (B7.mono hm _ _ (h.data rfl))
 |.bool _,v,h=>C1.of_data (B7.mono hm _ _ (h.data rfl))
 |.int _ _,v,h=>C1.of_data (B7.mono hm _ _ (h.data rfl))
 |.str _,v,h=>C1.of_data (B7.mono hm _ _ (h.data rfl))
 |.sl _ _ _ _,v,h=>C1.of_data (B7.mono hm _ _ (h.data rfl))
 |.agg _,v,h=>C1.of_data (B7.mono hm _ _ (h.data rfl))
 |.tuple _,v,h=>C1.of_data (B7.mono hm _ _ (h.data rfl))
 |.nilptr,v,h=>C1.of_data (B7.mono hm _ _ (h.data rfl))
 |.nptr,v,h=>C1.of_data (B7.mono hm _ _ (h.data rfl))
 |.nilIface,v,h=>C1.of_data (B7.mono hm _ _ (h.data rfl))
 |.iface _ _,v,h=>C1.of_data (B7.mono hm _ _ (h.data rfl))
 |.nilFunc,v,h=>C1.of_data (B7.mono hm _ _ (h.data rfl))
 |.eptr _,v,h=>C1.of_data (B7.mono hm _ _ (h.data rfl))
theorem B9.mono {M M':C4}{β β':Nat->Option Nat}(hm:M.le M')(hb:∀id b,β id=some b->β' id=some b):∀{xs:List PV} {vs:List Value},B9 M β xs vs->B9 M' β' xs vs
 |[],_,h=>by simp only[B9]at h ⊢;exact h
 |x::xs,vs,h=>by
  simp only[B9]at h ⊢;obtain⟨u,us,h1,h2,h3⟩:=h;exact⟨u,us,h1,C1.mono hm hb h2,B9.mono hm hb h3⟩
end
theorem B9.length {M:C4}{β:Nat->Option Nat}:∀{xs:List PV} {vs:List Value},B9 M β xs vs->xs.length=vs.length
 |[],vs,h=>by simp only[B9]at h;subst h;rfl
 |x::xs,vs,h=>by
  simp only[B9]at h;obtain⟨u,us,rfl,_,h⟩:=h;simp[B9.length h]
theorem B9.get {M:C4}{β:Nat->Option Nat}:∀{xs:List PV} {vs:List Value},B9 M β xs vs->∀{j:Nat} {x:PV},xs[j]? =some x->∃u,vs[j]? =some u/\C1 M β x u
 |[],vs,h,j,x,hx=>by simp at hx
 |y::xs,vs,h,j,x,hx=>by
  simp only[B9]at h;obtain⟨u,us,rfl,h2,h⟩:=h
  cases j with
  |zero=>simp at hx;subst hx;exact⟨u,rfl,h2⟩
  |succ j=>obtain⟨v,g⟩:=h.get (j:=j) (by simpa using hx);exact⟨v,by simpa using g⟩
theorem B9.append {M:C4}{β:Nat->Option Nat}:∀{xs ys:List PV} {vs us:List Value},B9 M β xs vs->B9 M β ys us->B9 M β (xs++ys) (vs++us)
 |[],ys,vs,us,h,k=>by simp only[B9]at h;subst h;exact k
 |x::xs,ys,vs,us,h,k=>by
  simp only[B9,List.cons_append]at h ⊢;obtain⟨u,ws,rfl,h1,h⟩:=h;exact⟨u,ws++us,rfl,h1,h.append k⟩
theorem B9.of_get {M:C4}{β:Nat->Option Nat}:∀{xs:List PV} {vs:List Value},xs.length=vs.length->(∀(j:Nat) (x:PV) (u:Value),xs[j]? =some x->vs[j]? =some u->C1 M β x u)->B9 M β xs vs
 |[],vs,hl,_=>by simp at hl;simp only[B9];exact Dw hl.symm
 |x::xs,[],hl,_=>by simp at hl
 |x::xs,u::vs,hl,h=>by
  simp only[B9];exact⟨u,vs,rfl,h 0 x u rfl rfl,B9.of_get (by simpa using hl) fun j y v h1 h2=>h (j+1) y v (by simpa using h1) (by simpa using h2)⟩
theorem B9.of_relT {M:C4}{β:Nat->Option Nat}:∀{xs:List PV} {vs:List Value},K9 M xs vs->B9 M β xs vs
 |[],vs,h=>by simp only[K9]at h;subst h;simp only[B9]
 |x::xs,vs,h=>by
  simp only[K9]at h;obtain⟨u,us,rfl,h1,h2⟩:=h;simp only[B9];exact⟨u,us,rfl,C1.of_data h1,B9.of_relT h2⟩
theorem B9.data {M:C4}{β:Nat->Option Nat}:∀{xs:List PV} {vs:List Value},B9 M β xs vs->xs.all PV.data=true->K9 M xs vs
 |[],vs,h,_=>by simp only[B9]at h;subst h;simp only[K9]
 |x::xs,vs,h,hd=>by
  simp only[B9]at h;obtain⟨u,us,rfl,h1,h2⟩:=h;simp only[Ci,Ae]at hd;simp only[K9];exact⟨u,us,rfl,h1.data hd.1,B9.data h2 hd.2⟩
end Go.Proofs.YtkpfigikffphdaaGreatDoor
namespace Go.Proofs.YtkpfigikffphdaaGreatDoor
open Go.RowKit
abbrev TV:=PV×Nat
inductive kH where
 |ret
 |exit (id:Nat)
inductive kC where
 |nil
 |fr (bx:List (Option (List TV))) (fin:Option kH) (o:kC)
structure St where
 ρ:List TV
 bx:List (Option (List TV))
 out:kC
structure D5 where
 F:{R:Type}->List PV->(PV->Option R)->Option R
 own:Bool
structure H7 where
 F:{R:Type}->List (List PV)->List PV->(List (List PV)->PV->Option R)->Option R
structure YFn where
 F:{R:Type}->List (List PV)->kC->List PV->(List (List PV)->kC->Bool->Option R)->Option R
structure IFn where
 F:{R:Type}->List (List PV)->kC->List PV->YFn->(List (List PV)->kC->PV->Option R)->Option R
structure NFn where
 F:{R:Type}->List PV->(Nat->Nat->List PV->Option R)->Option R
structure CFn where
 F:{R:Type}->Nat->Nat->List PV->List PV->(Nat->List PV->Option R)->Option R
structure K6 where
 P:Program
 E:FuncId->Option D5
 G:Nat->Option (List PV)
 H:FuncId->Option H7
 I:FuncId->Option IFn
 N:FuncId->Option NFn
 C:FuncId->Option CFn
 Y:Option (Nat×YFn)
 R:TypeId->Bool
inductive C7 where
 |skip
 |val (v:PV) (tag:Nat)
 |load (id off n:Nat) (agg:Bool)
 |store (id off:Nat) (cells:List TV)
 |mk (cells:List TV)
 |own (c:Nat) (v:PV)
 |hcall (ws:List (Nat×List PV)) (n0:Option (List PV)) (more:List (List PV)) (v:PV) (o:Option kC)
 |cons (id:Nat) (cells:List PV) (v:PV)
inductive CT where
 |int (k:IntKind)|bool|str|sl (sz:Nat)|ptr|iface|func|other
def F9 (P:Program)(t:TypeId):Nat:=((P.info? t).map (·.size)).getD 0
def dE (P:Program)(t:TypeId):Nat:=((P.info? t).map (·.bytes)).getD 0
def S9 (P:Program)(t:TypeId):Bool :=
 match P.underlying t with
 |some (.struct _)=>true
 |some (.array _ _)=>true
 |_=>false
def A60 (P:Program)(t:TypeId):Option TypeId :=
 match P.underlying t with
 |some (.slice e)=>some e
 |_=>none
def A96 (P:Program):Nat->TypeId->List CT
 |0,_=>[.other]
 |n+1,t =>
  match P.underlying t with
  |some .bool=>[.bool]
  |some (.int k)=>[.int k]
  |some .string=>[.str]
  |some (.slice e)=>[.sl (F9 P e)]
  |some (.pointer _)=>[.ptr]
  |some (.interface _)=>[.iface]
  |some (.func _ _ _)=>[.func]
  |some (.struct fs)=>fs.toList.flatMap fun f=>A96 P n f.type
  |some (.array len e)=>(Bv len (A96 P n e)).flatten
  |_=>[.other]
def A42 (P:Program)(t:TypeId):List CT:=A96 P 12 t
def CT.zero:CT->PV
 |.int k=>.int k 0
 |.bool=>.bool false
 |.str=>.str []
 |.sl sz=>.sl (some true) sz 0 []
 |.ptr=>.nilptr
 |.iface=>.nilIface
 |.func=>.nilFunc
 |.other=>.undef
def CT.fits:CT->Value->Bool
 |.int k,.int k' n=>decide (k=k')&&n==0
 |.bool,.bool b=>!b
 |.str,.string s=>s.data.toList.isEmpty
 |.sl _,.slice none n c=>n==0&&c==0
 |.ptr,.pointer none=>true
 |.iface,.nilIface=>true
 |.func,.nilFunc=>true
 |.other,v=>v.oneCell'
 |_,_=>false
def rN:List CT->List Value->Bool
 |[],[]=>true
 |t::ts,v::vs=>t.fits v&&rN ts vs
 |_,_=>false
def kG (P:Program)(t:TypeId):Option (List PV) :=
 match(P.info? t).bind (·.zero)with
 |some z=>if rN (A42 P t) z.cells.toList&&F9 P t==z.cells.size then some ((A42 P t).map CT.zero)else none
 |none=>none
def PV.asInt (k:IntKind):PV->Option Int
 |.int k' n=>if k'=k then some n else none
 |_=>none
def PV.asBool:PV->Option Bool
 |.bool b=>some b
 |_=>none
def PV.asStr:PV->Option (List UInt8)
 |.str s=>some s
 |_=>none
def PV.asSl (sz:Nat):PV->Option (Option Bool×Nat×List PV)
 |.sl nl sz' n cells=>if sz'=sz then some (nl,n,cells)else none
 |_=>none
def rI {R:Type}(t:CT)(x:PV)(k:PV->Option R):Option R :=
 match t with
 |.int i=>(x.asInt i).bind fun n=>k (.int i n)
 |.bool=>x.asBool.bind fun b=>k (.bool b)
 |.str=>x.asStr.bind fun s=>k (.str s)
 |.sl sz=>(x.asSl sz).bind fun p=>k (.sl p.1 sz p.2.1 p.2.2)
 |_=>if x.data then k x else none
def cG {R:Type}:List CT->List PV->(List PV->Option R)->Option R
 |[],_,k=>k []
 |t::ts,xs,k=>xs.head?.bind fun x=>rI t x fun y=>cG ts xs.tail fun ys=>k (y::ys)
def PV.asE:PV->Option (List PV)
 |.eptr cs=>some cs
 |_=>none
def A3n {R:Type}(b:Bool)(ts:List CT)(cs:List PV)(k:List PV->Option R):Option R :=
 if b then
  match ts with
  |[.ptr]=>cs.head?.bind fun x=>x.asE.bind fun es=>k [.eptr es]
  |_=>none
 else cG ts cs k
def vA (P:Program)(t:TypeId):Value->TV
 |.bool b=>(.bool b,0)
 |.int k n=>(.int k n,0)
 |.string s=>(.str s.data.toList,0)
 |.slice none n c=>if n=0/\c=0 then(.sl (some true) ((A60 P t).elim 0 (F9 P)) 0 [],1)else(.undef,0)
 |.pointer none=>(.nilptr,0)
 |.nilIface=>(.nilIface,0)
 |.nilFunc=>(.nilFunc,0)
 |_=>(.undef,0)
def ev (en:K6)(st:St)(t:TypeId):Operand->TV
 |.tmp u=>st.ρ.getD u (.undef,0)
 |.const v=>vA en.P t v
 |.global g=>match en.G g with
  |some cs=>(.eptr cs,0)
  |none=>(.undef,0)
 |.func f=>if f<1000000 then(.clo f [],0)else(.undef,0)
def C4n {R:Type}(op:BinOp)(k:IntKind)(a b:Int)(kk:PV->Option R):Option R :=
 match op with
 |.add=>kk (.int k (k.wrap (a+b)))
 |.sub=>kk (.int k (k.wrap (a-b)))
 |.mul=>kk (.int k (k.wrap (a * b)))
 |.quo=>bif b==0 then none else kk (.int k (k.wrap (a.tdiv b)))
 |.rem=>bif b==0 then none else kk (.int k (a.tmod b))
 |.eql=>kk (.bool (a==b))
 |.neq=>kk (.bool (a !=b))
 |.lss=>kk (.bool (decide (a<b)))
 |.leq=>kk (.bool (decide (a<=b)))
 |.gtr=>kk (.bool (decide (b<a)))
 |.geq=>kk (.bool (decide (b<=a)))
 |.shl=>none
 |.shr=>none
 |.and=>kk (.int k (k.wrap (BitVec.ofInt k.bits a &&& BitVec.ofInt k.bits b).toNat))
 |.or=>kk (.int k (k.wrap (BitVec.ofInt k.bits a |||BitVec.ofInt k.bits b).toNat))
 |.xor=>kk (.int k (k.wrap (BitVec.ofInt k.bits a ^^^ BitVec.ofInt k.bits b).toNat))
 |.andNot=>kk (.int k (k.wrap (BitVec.ofInt k.bits a &&& ~~~BitVec.ofInt k.bits b).toNat))
def C8e {R:Type}(op:BinOp)(a b:List UInt8)(kk:PV->Option R):Option R :=
 match op with
 |.add=>bif decide (a.length+b.length<=9223372036854775807)then kk (.str (a++b))else none
 |.eql=>kk (.bool (a==b))
 |.neq=>kk (.bool (a !=b))
 |.lss=>kk (.bool (Op.bytesLess a b))
 |.leq=>kk (.bool (Op.bytesLess a b||a==b))
 |.gtr=>kk (.bool (!(Op.bytesLess a b||a==b)))
 |.geq=>kk (.bool (!Op.bytesLess a b))
 |_=>none
def A8v (P:Program)(t:TypeId):Bool:=match P.underlying t with|some .bool=>true|_=>false
def dH (P:Program)(t:TypeId):Bool:=match P.underlying t with|some (.slice _)=>true|_=>false
def B6k (P:Program)(t:TypeId):Bool:=match P.underlying t with|some (.pointer _)=>true|_=>false
def lB (P:Program)(t:TypeId):Bool:=match P.underlying t with|some (.interface _)=>true|_=>false
def B0v (P:Program)(t:TypeId):Bool:=match P.underlying t with|some (.func _ _ _)=>true|_=>false
def sT (P:Program)(t:TypeId)(x:PV)(c:Value):Option Bool :=
 match c with
 |.slice none _ _=>if dH P t then match x with
  |.sl nl _ _ _=>nl
  |.bsl _ _ _ _=>some false
  |_=>none
  else none
 |.pointer none=>if B6k P t then match x with
  |.nilptr=>some true
  |.nptr=>some false
  |.ptr _ _=>some false
  |.eptr _=>some false
  |.optr _ _ _=>some false
  |_=>none
  else none
 |.nilIface=>if lB P t then match x with
  |.nilIface=>some true
  |.iface _ _=>some false
  |_=>none
  else none
 |.nilFunc=>if B0v P t then match x with
  |.nilFunc=>some true
  |.clo _ _=>some false
  |.yld=>some false
  |_=>none
  else none
 |_=>none
def vB {R:Type}(P:Program)(t:TypeId)(cells:List PV)(off:Nat)(kk:PV->Option R):Option R :=
 if S9 P t then
  if off+F9 P t<=cells.length then kk (.agg ((cells.take (off+F9 P t)).drop off))else none
 else cells[off]?.bind kk
def D1v (cs:List PV):PV:=if cs.all PV.data then .agg cs else .agp cs
def xQ {R:Type}(P:Program)(t:TypeId)(cells:List PV)(off:Nat)(kk:PV->Option R):Option R :=
 if S9 P t then
  if off+F9 P t<=cells.length then kk (D1v ((cells.take (off+F9 P t)).drop off))else none
 else cells[off]?.bind kk
def C62 (P :Program) (g:TypeId->PV->PV->Option Bool) (xs ys:List PV):List Field->Option Bool
 | []=>some true
 |f ::fs =>
  if f.name≠ "_" then
   if(P.info? f.type).isSome && (P.underlying f.type).isSome then
    match vB P f.type xs f.offset some,vB P f.type ys f.offset some with
    |some x,some y=>match g f.type x y with
     |some b=>match C62 P g xs ys fs with
      |some r=>some (bif b then r else false)
      |none=>none
     |none=>none
    |_,_=>none
   else none
  else C62 P g xs ys fs
def eqP (P:Program):Nat->TypeId->PV->PV->Option Bool
 |0,_,_,_=>none
 |d+1,t,x,y =>
  match P.underlying t,x,y with
  |some (.int _),.int k a,.int k' b=>if k=k' then some (a==b)else none
  |some .bool,.bool a,.bool b=>some (a==b)
  |some .string,.str a,.str b=>some (a==b)
  |some (.struct fs),.agg xs,.agg ys=>if P.stoodInHeld t then none else C62 P (eqP P d) xs ys fs.toList
  |_,_,_=>none
def C8b {R:Type}(P:Program)(op:BinOp)(t:TypeId)(ox oy:Operand)(x y:PV)(kk:PV->Option R):Option R :=
 match x,y with
 |.int kx a,.int ky b =>
  match op with
  |.shl=>bif decide (b<0)then none else kk (.int kx (kx.wrap (a * 2^(min b.toNat kx.bits))))
  |.shr=>bif decide (b<0)then none else kk (.int kx (a.fdiv (2^(min b.toNat kx.bits))))
  |op=>if kx=ky then C4n op kx a b kk else none
 |.str a,.str b=>C8e op a b kk
 |.bool a,.bool b =>
  if A8v P t then
   match op with
   |.eql=>kk (.bool (a==b))
   |.neq=>kk (.bool (!(a==b)))
   |_=>none
  else none
 |.agg xs,.agg ys =>
  if P.eqGuardType P.depth t then none else
   match op with
   |.eql=>(eqP P 20 t (.agg xs) (.agg ys)).bind fun b=>kk (.bool b)
   |.neq=>(eqP P 20 t (.agg xs) (.agg ys)).bind fun b=>kk (.bool (!b))
   |_=>none
 |x,y =>
  match oy with
  |.const c =>
   match op with
   |.eql=>(sT P t x c).bind fun b=>kk (.bool b)
   |.neq=>(sT P t x c).bind fun b=>kk (.bool (!b))
   |_=>none
  |_=>none
def pun {R:Type}(op:UnOp)(x:PV)(kk:PV->Option R):Option R :=
 match op,x with
 |.neg,.int k n=>kk (.int k (k.wrap (0-n)))
 |.xor,.int k n=>kk (.int k (k.wrap (BitVec.ofInt k.bits (if k.signed then -1 else k.max)^^^ BitVec.ofInt k.bits n).toNat))
 |.not,.bool b=>kk (.bool (!b))
 |_,_=>none
def eF:List PV->Option (List UInt8)
 |[]=>some []
 |x::xs=>(x.asInt .u8).bind fun n=>(eF xs).bind fun l=>some (UInt8.ofNat n.toNat::l)
def aA (c:UInt8):PV:=.int .u8 c.toNat
def B52 {R:Type}(P:Program)(src dst:TypeId)(x:PV)(kk:PV->Option R):Option R :=
 match P.underlying src,P.underlying dst,x with
 |some (.int _),some (.int k),.int _ n=>kk (.int k (k.wrap n))
 |some .string,some .string,.str s=>kk (.str s)
 |some .string,some (.slice e),.str s =>
  match P.underlying e with
  |some (.int .u8)=>if F9 P e=1 then bif decide (s.length<=9223372036854775807)then kk (.sl (some false) 1 s.length (s.map aA))else none else none
  |_=>none
 |some (.slice e),some .string,.sl _ sz n cells =>
  match P.underlying e with
  |some (.int .u8)=>if sz=1 then(eF cells).bind fun l=>kk (.str l)else none
  |_=>none
 |_,_,_=>none
def oZ {R:Type}(x:PV)(m:Nat)(kk:Nat->Option R):Option R :=
 match x with
 |.int _ i=>bif decide (0<=i)&&decide (i<=m)then kk i.toNat else none
 |_=>none
def X4 {R:Type}(x:Option PV)(dflt m:Nat)(kk:Nat->Option R):Option R :=
 match x with
 |some x=>oZ x m kk
 |none=>kk dflt
def A3l {R:Type}(P:Program)(t:TypeId)(x:PV)(lo hi mx:Option PV)(kk:TV->Option R):Option R :=
 match P.underlying t,x with
 |some .string,.str s =>
  match mx with
  |some _=>none
  |none=>X4 hi s.length s.length fun h=>X4 lo 0 h fun l=>kk (.str ((s.take h).drop l),0)
 |some (.slice e),.sl nl sz n cells =>
  if F9 P e=sz then
   match mx with
   |some m=>oZ m n fun m=>X4 (hi.or (some .undef)) m m fun h=>X4 lo 0 h fun l=>kk (.sl nl sz (h-l) ((cells.take (h * sz)).drop (l * sz)),if h=m then 1 else 0)
   |none=>X4 hi n n fun h=>X4 lo 0 h fun l=>kk (.sl nl sz (h-l) ((cells.take (h * sz)).drop (l * sz)),0)
  else none
 |some (.slice e),.bsl id off sz n =>
  if F9 P e=sz then
   match mx with
   |some _=>none
   |none=>X4 hi n n fun h=>X4 lo 0 h fun l=>bif decide (l=0)||decide (l<h)then kk (.bsl id (off+l * sz) sz (h-l),0)else none
  else none
 |_,_=>none
def fieldsOf (P:Program)(t:TypeId):Option (Array Field) :=
 match P.underlying t with
 |some (.struct fs)=>some fs
 |_=>none
def eE (x:TV):Option (List TV) :=
 match x with
 |(.agg cs,_)=>some (cs.map fun y=>(y,0))
 |(.bool b,_)=>some [(.bool b,0)]
 |(.int k n,_)=>some [(.int k n,0)]
 |(.str s,_)=>some [(.str s,0)]
 |(.sl nl sz n cs,c)=>some [(.sl nl sz n cs,c)]
 |(.nilptr,_)=>some [(.nilptr,0)]
 |(.nptr,_)=>some [(.nptr,0)]
 |(.nilIface,_)=>some [(.nilIface,0)]
 |(.iface t v,_)=>some [(.iface t v,0)]
 |(.nilFunc,_)=>some [(.nilFunc,0)]
 |(.eptr cs,_)=>some [(.eptr cs,0)]
 |(.ptr id off,_)=>some [(.ptr id off,0)]
 |(.clo f caps,_)=>some [(.clo f caps,0)]
 |(.agp cs,_)=>some (cs.map fun y=>(y,0))
 |(.yld,_)=>some [(.yld,0)]
 |(.optr d i off,_)=>some [(.optr d i off,0)]
 |(.bsl id off sz n,_)=>some [(.bsl id off sz n,0)]
 |_=>none
def jV (cells:List PV):List (Nat×List PV)->Option (List PV)
 |[]=>some cells
 |(off,cs)::rest=>if off+cs.length<=cells.length then jV (cells.take off++cs++cells.drop (off+cs.length)) rest else none
def aF (cs:List TV):Bool:=cs.all fun x=>x.1.data
def L5 (en:K6)(st:St)(place:Nat->Option (Nat×Nat×TypeId)):List (Nat×Operand)->Option (List (Nat×List PV))
 |[]=>some []
 |(i,x)::rest =>
  match place i with
  |some (off,sz,t)=>
   match eE (ev en st t x)with
   |some cs=>if cs.length=sz then(L5 en st place rest).map fun r=>(off,cs.map (·.1))::r else none
   |none=>none
  |none=>none
def J9 (en:K6)(st:St)(place:Nat->Option (Nat×Nat×TypeId)):List (Nat×Operand)->Option (List (Nat×List PV))
 |[]=>some []
 |(i,x)::rest =>
  match place i with
  |some (off,sz,t)=>
   match eE (ev en st t x)with
   |some cs=>if cs.length=sz&&aF cs then(J9 en st place rest).map fun r=>(off,cs.map (·.1))::r else none
   |none=>none
  |none=>none
def A62:Nat:=140737488355328
def C0b (a:Int):List PV->Option Int
 |[]=>some a
 |.int _ b::xs=>C0b (if b>a then b else a) xs
 |_::_=>none
def aP {R:Type}(P:Program)(b:Builtin)(ts:Array TypeId)(xs:List TV)(kk:C7->Option R):Option R :=
 match b,xs with
 |.len,[x]=>
  match ts[0]?.bind P.underlying,x.1 with
  |some .string,.str s=>kk (.val (.int .i64 s.length) 0)
  |some (.slice _),.sl _ _ n _=>kk (.val (.int .i64 n) 0)
  |some (.slice _),.bsl _ _ _ n=>kk (.val (.int .i64 n) 0)
  |some (.array n _),_=>kk (.val (.int .i64 n) 0)
  |_,_=>none
 |.max,[x,y]=>
  match x.1,y.1 with
  |.int k a,.int _ b=>kk (.val (.int k (if b>a then b else a)) 0)
  |.str a,.str b=>kk (.val (.str (bif Op.bytesLess a b then b else a)) 0)
  |_,_=>none
 |.min,[x,y]=>
  match x.1,y.1 with
  |.int k a,.int _ b=>kk (.val (.int k (if b<a then b else a)) 0)
  |_,_=>none
 |.max,[x,y,z]=>
  match x.1,y.1,z.1 with
  |.int k a,.int _ b,.int _ c=>kk (.val (.int k (if c>(if b>a then b else a)then c else if b>a then b else a)) 0)
  |_,_,_=>none
 |.max,x::y::z::w::rest =>
  match x.1 with
  |.int k a=>(C0b a ((y::z::w::rest).map (·.1))).bind fun m=>kk (.val (.int k m) 0)
  |_=>none
 |.append,[s,x]=>
  match ts[0]?.bind (A60 P),s.1 with
  |some e,.sl nl sz n cells =>
   if F9 P e=sz&&decide (0<sz)&&decide (s.2≠0)&&(kG P e).isSome then
    match(ts[1]?).bind P.underlying,x.1 with
    |some (.slice e'),.sl _ sz' m cells' =>
     if sz'=sz then
      bif decide (n+m<=9223372036854775807)&&decide ((n+m) * dE P e<=A62)then kk (.own s.2 (.sl (nl.map (·&& (m==0))) sz (n+m) (cells++cells')))else none
     else none
    |some .string,.str q =>
     if sz=1 then
      bif decide (n+q.length<=9223372036854775807)&&decide ((n+q.length) * dE P e<=A62)then kk (.own s.2 (.sl (nl.map (·&& (q.length==0))) 1 (n+q.length) (cells++q.map aA)))else none
     else none
    |_,_=>none
   else none
  |_,_=>none
 |_,_=>none
def H5 (en:K6)(st:St):List Operand->List TypeId->List TV
 |[],_=>[]
 |x::xs,ts=>ev en st (ts.headD 0) x::H5 en st xs ts.tail
def Z2:List Nat->Bool
 |[]=>true
 |x::xs=>!xs.contains x&&Z2 xs
def pK:Nat->PV->List Nat
 |0,_=>[]
 |n+1,x =>
  match x with
  |.ptr id _=>[id]
  |.bsl id _ _ _=>[id]
  |.clo _ caps=>caps.flatMap (pK n)
  |.agp cs=>cs.flatMap (pK n)
  |.tupp cs=>cs.flatMap (pK n)
  |_=>[]
def F7 {α β:Type}(f:α->Option β):List α->Option (List β)
 |[]=>some []
 |x::xs=>match f x with
  |some y=>match F7 f xs with
   |some ys=>some (y::ys)
   |none=>none
  |none=>none
def Q2 (σ:Nat->Option Nat)(o:Bool):Nat->PV->Option PV
 |0,x=>if x.data then some x else none
 |n+1,x =>
  match x with
  |.ptr id off=>match σ id with
   |some j=>some (.ptr j off)
   |none=>none
  |.bsl id off sz m=>match σ id with
   |some j=>some (.bsl j off sz m)
   |none=>none
  |.clo f caps=>match F7 (Q2 σ o n) caps with
   |some cs=>some (.clo f cs)
   |none=>none
  |.agp cs=>match F7 (Q2 σ o n) cs with
   |some cs=>some (.agp cs)
   |none=>none
  |.tupp cs=>match F7 (Q2 σ o n) cs with
   |some cs=>some (.tupp cs)
   |none=>none
  |.yld=>if o then some .yld else none
  |.optr d i off=>if o then some (.optr d i off)else none
  |x=>some x
def cF (bx:List (Option (List TV)))(id:Nat):Option (List PV) :=
 match bx[id]? with
 |some (some cs)=>some (cs.map (·.1))
 |_=>none
def mN (bx:List (Option (List TV))):Nat->List Nat->List Nat->Option (List Nat)
 |0,todo,seen=>if todo.isEmpty then some seen else none
 |n+1,todo,seen =>
  match todo with
  |[]=>some seen
  |id::todo=>if seen.contains id then mN bx n todo seen else
   match cF bx id with
   |some cs=>mN bx n (todo++cs.flatMap (pK 4)) (seen++[id])
   |none=>none
def jB:List Nat->Nat->Nat->Option Nat
 |[],_,_=>none
 |i::is,k,id=>if i==id then some k else jB is (k+1) id
def iB (ids:List Nat)(d n:Nat)(j:Nat):Option Nat :=
 match ids[j]? with
 |some id=>some id
 |none=>if j=ids.length then some d else some (n+(j-ids.length-1))
def cB:List Nat->List (List PV)->List (Nat×List PV)
 |i::is,c::cs=>(i,c)::cB is cs
 |_,_=>[]
def kR {R:Type}(bx:List (Option (List TV)))(ids:List Nat)(dst:Option Tmp)(bs:List (List PV))(v:PV)(kk:C7->Option R):Option R :=
 match dst with
 |none =>
  if bs.length=ids.length then
   match F7 (F7 (Q2 (fun j=>ids[j]?) false 4)) bs,Q2 (fun j=>ids[j]?) false 4 v with
   |some bs,some v=>kk (.hcall (cB ids bs) none [] v none)
   |_,_=>none
  else none
 |some d =>
  if ids.length<=bs.length then
   match F7 (F7 (Q2 (iB ids d bx.length) false 4)) bs,Q2 (iB ids d bx.length) false 4 v with
   |some bs,some v =>
    match bs.drop ids.length with
    |[]=>kk (.hcall (cB ids bs) none [] v none)
    |b::more=>kk (.hcall (cB ids bs) (some b) more v none)
   |_,_=>none
  else none
def aX {R:Type}(bx:List (Option (List TV)))(dst:Option Tmp)(p:H7)(xs:List PV)(kk:C7->Option R):Option R :=
 match mN bx 40 (xs.flatMap (pK 4)) []with
 |some ids =>
  if Z2 ids then
   match F7 (cF bx) ids,F7 (Q2 (jB ids 0) false 4) xs with
   |some bs,some xs =>
    match F7 (F7 (Q2 (jB ids 0) false 4)) bs with
    |some bs=>p.F bs xs fun bs' v=>kR bx ids dst bs' v kk
    |none=>none
   |_,_=>none
  else none
 |none=>none
def E9 (n k:Nat):List Nat:=(List.range k).map (n + ·)
def dO (bx:List (Option (List TV)))(ids:List Nat):Option (List (List PV)) :=
 match F7 (cF bx) ids with
 |some bs=>F7 (F7 (Q2 (jB ids 0) false 4)) bs
 |none=>none
def kF {R:Type}(ids:List Nat)(bs:List (List PV))(o:kC)(v:PV)(kk:C7->Option R):Option R :=
 if bs.length=ids.length then
  match F7 (F7 (Q2 (fun j=>ids[j]?) false 4)) bs,Q2 (fun j=>ids[j]?) false 4 v with
  |some bs,some v=>kk (.hcall (cB ids bs) none [] v (some o))
  |_,_=>none
 else none
def kX {R:Type}(st:St)(k:Nat)(y:YFn)(xs:List PV)(kk:C7->Option R):Option R :=
 match dO st.bx (E9 st.ρ.length k),F7 (Q2 (jB (E9 st.ρ.length k) 0) false 4) xs with
 |some bs,some xs=>y.F bs st.out xs fun bs o b=>kF (E9 st.ρ.length k) bs o (.bool b) kk
 |_,_=>none
def kO {R:Type}(st:St)(k:Nat)(y:YFn)(p:IFn)(xs:List PV)(kk:C7->Option R):Option R :=
 match dO st.bx (E9 st.ρ.length k),F7 (Q2 (jB (E9 st.ρ.length k) 0) true 4) xs with
 |some bs,some xs=>p.F bs st.out xs y fun bs o v=>kF (E9 st.ρ.length k) bs o v kk
 |_,_=>none
def E73:PV->Option (List PV)
 |.tuple xs=>some xs
 |_=>none
def oG:List TV->Option (List PV)
 |[x]=>E73 x.1
 |_=>none
def sF (bx:List (Option (List TV)))(id:Nat):Option (List PV) :=
 match bx[id]? with
 |some (some cs)=>oG cs
 |_=>none
def oO {R:Type}(dst:Option Tmp)(p:NFn)(xs:List PV)(kk:C7->Option R):Option R :=
 match dst with
 |some d=>p.F xs fun sz n cells=>kk (.hcall [] (some [.tuple cells]) [] (.bsl d 0 sz n) none)
 |none=>none
def kM {R:Type}(st:St)(dst:Option Tmp)(p:CFn)(xs:List PV)(kk:C7->Option R):Option R :=
 match xs,dst with
 |.bsl id off sz n::ys,some d =>
  match sF st.bx id with
  |some cells=>if off=0&&decide (id<st.ρ.length)&&ys.all PV.data then p.F sz n cells ys fun n' cells'=>bif decide (n' * sz<=cells'.length)then kk (.cons id [] (.sl (some false) sz n' (cells'.take (n' * sz))))else none else none
  |none=>none
 |_,_=>none
def A9 {R :Type} (en:K6) (st:St) (o:Oper) (kk:C7->Option R):Option R :=
 match o.op with
 |.move x=>kk (.val (ev en st o.type x).1 (if dH en.P o.type then(ev en st o.type x).2 else 0))
 |.assign x=>kk (.val (ev en st o.type x).1 (if dH en.P o.type then(ev en st o.type x).2 else 0))
 |.pick c a b =>
  match(ev en st o.type c).1 with
  |.bool cb =>
   match(ev en st o.type a).1,(ev en st o.type b).1 with
   |.bool x,.bool y=>kk (.val (.bool (bif cb then x else y)) 0)
   |x,y=>bif cb then kk (.val x 0)else kk (.val y 0)
  |_=>none
 |.binOp op t x y yt=>C8b en.P op t x y (ev en st t x).1 (ev en st t y).1 fun v=>kk (.val v 0)
 |.unOp op t x=>pun op (ev en st t x).1 fun v=>kk (.val v 0)
 |.convert s d x=>B52 en.P s d (ev en st s x).1 fun v=>kk (.val v 0)
 |.slice t x lo hi mx=>A3l en.P t (ev en st t x).1 (lo.map fun y=>(ev en st 0 y).1) (hi.map fun y=>(ev en st 0 y).1) (mx.map fun y=>(ev en st 0 y).1) fun v=>kk (.val v.1 v.2)
 |.field t x f =>
  match(fieldsOf en.P t).bind (·[f]?),(ev en st t x).1 with
  |some fd,.agg cs=>vB en.P fd.type cs fd.offset fun v=>kk (.val v 0)
  |some fd,.agp cs=>xQ en.P fd.type cs fd.offset fun v=>kk (.val v 0)
  |_,_=>none
 |.index t x i =>
  match en.P.underlying t,(ev en st t x).1,(ev en st 0 i).1 with
  |some .string,.str s,.int _ i=>bif decide (0<=i) && decide (i < s.length)then s[i.toNat]?.bind fun c=>kk (.val (aA c) 0)else none
  |some (.array n e),.agg cs,.int _ i=>bif decide (0<=i) && decide (i < n)then vB en.P e cs (i.toNat * F9 en.P e) fun v=>kk (.val v 0)else none
  |_,_,_=>none
 |.fieldAddr t x f =>
  match(fieldsOf en.P t).bind (·[f]?),(ev en st t x).1 with
  |some fd,.ptr id off=>if F9 en.P fd.type=0 then none else kk (.val (.ptr id (off + fd.offset)) 0)
  |some fd,.eptr cs=>if F9 en.P fd.type=0 then none else kk (.val (.eptr (cs.drop fd.offset)) 0)
  |some fd,.optr d i off=>if F9 en.P fd.type=0 then none else kk (.val (.optr d i (off + fd.offset)) 0)
  |_,_=>none
 |.indexAddr t x i =>
  match en.P.underlying t,(ev en st t x).1,(ev en st 0 i).1 with
  |some (.slice e),.sl nl sz n cells,.int _ i =>
   if F9 en.P e=sz && decide (0 < sz)then bif decide (0<=i) && decide (i < n)then kk (.val (.eptr ((cells.drop (i.toNat * sz)).take sz)) 0)else none else none
  |some (.slice e),.bsl id off sz n,.int _ i=>if F9 en.P e=sz && decide (0 < sz)then bif decide (0<=i) && decide (i < n)then kk (.val (.ptr id (off + i.toNat * sz)) 0)else none else none
  |some (.array n e),.ptr id off,.int _ i=>bif decide (0<=i) && decide (i < n)then kk (.val (.ptr id (off + i.toNat * F9 en.P e)) 0)else none
  |some (.array n e),.eptr cs,.int _ i=>bif decide (0<=i) && decide (i < n)then kk (.val (.eptr (cs.drop (i.toNat * F9 en.P e))) 0)else none
  |_,_,_=>none
 |.load t a =>
  match(ev en st t a).1 with
  |.ptr id off=>kk (.load id off (F9 en.P t) (S9 en.P t))
  |.eptr cs=>if(A42 en.P t).length=F9 en.P t then
    A3n (en.R t) (A42 en.P t) cs fun r=>if S9 en.P t then kk (.val (.agg r) 0)else match r with
     | [x]=>kk (.val x 0)
     |_=>none
   else none
  |_=>none
 |.store t a x =>
  match(ev en st t a).1,eE (ev en st t x)with
  |.ptr id off,some cs=>if cs.length=F9 en.P t then kk (.store id off cs)else none
  |_,_=>none
 |.alloc t =>
  match kG en.P t with
  |some cs=>kk (.mk (cs.map fun x=>(x,0)))
  |none=>none
 |.box t x =>
  match eE (ev en st t x)with
  |some cs=>kk (.mk cs)
  |none=>none
 |.nilCheck x =>
  match ev en st 0 x with
  |(.ptr id off,c)=>kk (.val (.ptr id off) 0)
  |(.eptr cs,c)=>kk (.val (.eptr cs) 0)
  |(.clo f cs,c)=>kk (.val (.clo f cs) 0)
  |(.yld,c)=>kk (.val .yld 0)
  |(.optr d i off,c)=>kk (.val (.optr d i off) 0)
  |_=>none
 |.build t parts =>
  match kG en.P t with
  |some z =>
   match en.P.underlying t with
   |some (.struct fs)=>
    match J9 en st (fun i=>fs[i]?.map fun f=>(f.offset,F9 en.P f.type,f.type)) parts.toList with
    |some ps=>match jV z ps with
     |some cs=>kk (.val (.agg cs) 0)
     |none=>none
    |none =>
     match L5 en st (fun i=>fs[i]?.map fun f=>(f.offset,F9 en.P f.type,f.type)) parts.toList with
     |some ps=>match jV z ps with
      |some cs=>kk (.val (.agp cs) 0)
      |none=>none
     |none=>none
   |some (.array n e)=>
    match J9 en st (fun i=>some (i * F9 en.P e,F9 en.P e,e)) parts.toList with
    |some ps=>match jV z ps with
     |some cs=>kk (.val (.agg cs) 0)
     |none=>none
    |none=>none
   |_=>none
  |none=>none
 |.buildSlice t len parts =>
  match A60 en.P t with
  |some e =>
   if len * F9 en.P e<=1000 then
    match kG en.P e with
    |some z=>if z.length=F9 en.P e && decide (0 < F9 en.P e)then
      match J9 en st (fun i=>some (i * F9 en.P e,F9 en.P e,e)) parts.toList with
      |some ps=>match jV ((Bv len z).flatten) ps with
       |some cs=>kk (.val (.sl (some false) (F9 en.P e) len cs) 1)
       |none=>none
      |none=>none
     else none
    |none=>none
   else none
  |none=>none
 |.makeSlice t l c =>
  match A60 en.P t,(ev en st 0 l).1,(ev en st 0 c).1 with
  |some e,.int _ n,.int _ m =>
   match kG en.P e with
   |some z =>
    if z.length=F9 en.P e && decide (0 < F9 en.P e)then
     bif decide (0<=n) && decide (n<=m) && decide (m * dE en.P e<=A62) && decide (m<=9223372036854775807)then kk (.own 0 (.sl (some false) (F9 en.P e) n.toNat ((Bv n.toNat z).flatten)))else none
    else none
   |none=>none
  |_,_,_=>none
 |.extract x i =>
  match(ev en st 0 x).1 with
  |.tuple vs=>vs[i]?.bind fun v=>if v.data then kk (.val v 0)else none
  |.tupp vs=>vs[i]?.bind fun v=>kk (.val v 0)
  |_=>none
 |.makeInterface t x =>
  if lB en.P t then none else
  match(ev en st t x).1 with
  |v=>if v.data then kk (.val (.iface t v) 0)else none
 |.call c =>
  match c.callee with
  |.builtin b=>aP en.P b c.argTypes (H5 en st c.args.toList c.argTypes.toList) kk
  |.value f =>
   match(ev en st 0 f).1 with
   |.clo fid caps =>
    if 1000000<=fid then
     match en.H (fid - 1000000)with
     |some p=>aX st.bx o.dst p (caps ++ (H5 en st c.args.toList c.argTypes.toList).map (·.1)) kk
     |none=>none
    else
    match en.E fid with
    |some fn =>
     if aF (H5 en st c.args.toList c.argTypes.toList) && caps.all PV.data then fn.F ((H5 en st c.args.toList c.argTypes.toList).map (·.1)++ caps) fun v=>if fn.own then kk (.own 0 v)else kk (.val v 0)else none
    |none =>
     match en.H fid with
     |some p=>aX st.bx o.dst p ((H5 en st c.args.toList c.argTypes.toList).map (·.1)++ caps) kk
     |none =>
      match en.N fid with
      |some p=>if aF (H5 en st c.args.toList c.argTypes.toList) && caps.all PV.data then oO o.dst p ((H5 en st c.args.toList c.argTypes.toList).map (·.1)++ caps) kk else none
      |none =>
       match en.C fid with
       |some p=>kM st o.dst p ((H5 en st c.args.toList c.argTypes.toList).map (·.1)++ caps) kk
       |none =>
        match en.I fid,en.Y with
        |some p,some (k,y)=>kO st k y p ((H5 en st c.args.toList c.argTypes.toList).map (·.1)++ caps) kk
        |_,_=>none
   |.yld =>
    match en.Y with
    |some (k,y)=>kX st k y ((H5 en st c.args.toList c.argTypes.toList).map (·.1)) kk
    |none=>none
   |_=>none
  |.invoke _ _=>none
 |.makeFunc fn first caps =>
  match fn with
  |.func f=>if f < 1000000 then(if first.isEmpty then kk (.val (.clo f (caps.toList.map fun x=>(ev en st 0 x).1)) 0)else if caps.isEmpty then kk (.val (.clo (f + 1000000) (first.toList.map fun x=>(ev en st 0 x).1)) 0)else none)else none
  |_=>none
 |_=>none
def W4 (P:Program)(t:TypeId):Bool :=
 match P.underlying t with
 |some (.slice e)=>(P.underlying e).isSome
 |some (.array _ e)=>(P.underlying e).isSome
 |some (.struct fs)=>fs.all fun f=>(P.underlying f.type).isSome
 |some _=>true
 |none=>false
def A5f (P:Program)(o:Oper):Bool :=
 match o.op with
 |.load t _=>W4 P t&&(S9 P t||F9 P t==1)
 |.store t _ _=>W4 P t
 |.build t _=>W4 P t
 |.buildSlice t _ _=>W4 P t
 |.makeSlice t _ _=>W4 P t
 |.slice t _ _ _ _=>W4 P t
 |.fieldAddr t _ _=>W4 P t
 |.field t _ _=>W4 P t
 |.indexAddr t _ _=>W4 P t
 |.index t _ _=>W4 P t
 |.makeInterface t _=>W4 P t
 |.call c=>match c.argTypes[0]? with
  |some t=>W4 P t
  |none=>true
 |_=>true
def O4 (d:Option Tmp)(v:TV)(st:St):St :=
 match d with
 |some d=>{st with ρ:=st.ρ.set d v}
 |none=>st
def clr (c:Nat)(x:TV):TV:=if c=x.2&&decide (2<=c)then(x.1,0)else x
def St.clr (c:Nat)(st:St):St:=⟨st.ρ.map (Go.Proofs.YtkpfigikffphdaaGreatDoor.clr c),st.bx.map (Option.map (List.map (Go.Proofs.YtkpfigikffphdaaGreatDoor.clr c))),st.out⟩
def C2f (id:Nat)(x:PV):PV:=(Q2 (fun j=>if j=id then none else some j) true 4 x).getD .undef
def uI (id:Nat)(x:TV):TV:=(C2f id x.1,x.2)
def St.kill (id:Nat)(st:St):St:=⟨st.ρ.map (uI id),(st.bx.map (Option.map (List.map (uI id)))).set id none,st.out⟩
def A9s (cs:List TV)(off:Nat)(cells:List TV):Option (List TV) :=
 match oG cs with
 |some xs=>bif aF cells&&decide (off+cells.length<=xs.length)then some [(.tuple (xs.take off++cells.map (·.1)++xs.drop (off+cells.length)),0)]else none
 |none=>if off+cells.length<=cs.length then some (cs.take off++cells++cs.drop (off+cells.length))else none
def K8 (act:C7)(bx:List (Option (List TV))):Option TV :=
 match act with
 |.skip=>some (.tuple [],0)
 |.val v c=>some (v,c)
 |.load id off n agg =>
  match bx[id]? with
  |some (some cs)=>match oG cs with
   |some xs=>if agg then if off+n<=xs.length then some (.agg ((xs.take (off+n)).drop off),0)else none else(xs[off]?).map fun x=>(x,0)
   |none=>if agg then if off+n<=cs.length then some (D1v (((cs.take (off+n)).drop off).map (·.1)),0)else none else cs[off]?
  |_=>none
 |_=>none
def E1:List (Nat×List PV)->List (Option (List TV))->List (Option (List TV))
 |[],bx=>bx
 |(i,cs)::ws,bx=>E1 ws (bx.set i (some (cs.map fun x=>(x,0))))
def B0 (act:C7)(d:Option Tmp)(st:St):Option St :=
 match act with
 |.store id off cells =>
  match st.bx[id]?,d with
  |some (some cs),none=>(A9s cs off cells).map fun cs'=>{st with bx:=st.bx.set id (some cs')}
  |_,_=>none
 |.mk cells =>
  match d with
  |some d=>match st.bx[d]? with
   |some none=>if d<st.ρ.length then some ⟨st.ρ.set d (.ptr d 0,0),st.bx.set d (some cells),st.out⟩else none
   |_=>none
  |none=>none
 |.own c v =>
  match d with
  |some d=>some ⟨((st.clr c).clr (d+2)).ρ.set d (v,d+2),((st.clr c).clr (d+2)).bx,st.out⟩
  |none=>none
 |.hcall ws n0 more v o =>
  match n0,d with
  |none,d=>if more.isEmpty then some (O4 d (v,0) ⟨st.ρ,E1 ws st.bx,o.getD st.out⟩)else none
  |some cs,some d =>
   match st.bx[d]? with
   |some none=>if d<st.ρ.length then some (O4 (some d) (v,0) ⟨st.ρ,E1 ((d,cs)::ws) st.bx++more.map fun cs=>some (cs.map fun x=>(x,0)),o.getD st.out⟩)else none
   |_=>none
  |some _,none=>none
 |.cons id cells v =>
  match d with
  |some d=>some (O4 (some d) (v,0) (st.kill id))
  |none=>none
 |.skip=>(K8 .skip st.bx).map fun x=>O4 d x st
 |.val v c=>(K8 (.val v c) st.bx).map fun x=>O4 d x st
 |.load id off n agg=>(K8 (.load id off n agg) st.bx).map fun x=>O4 d x st
def aD {R:Type} (en:K6) (o:Oper) (act:C7) (st:St) (k:St->Option R):Option R :=
 match act with
 |.load id off n agg =>
  match sF st.bx id with
  |some xs =>
   match o.op with
   |.load t _ =>
    if(A42 en.P t).length=n/\0 < n then
     A3n (en.R t) (A42 en.P t) (xs.drop off) fun r=>if agg then k (O4 o.dst (.agg r,0) st)else match r with
      | [x]=>k (O4 o.dst (x,0) st)
      |_=>none
    else none
   |_=>none
  |none=>match B0 act o.dst st with
   |some st'=>k st'
   |none=>none
 |.store id off cells =>
  match sF st.bx id,o.dst with
  |some xs,none=>bif aF cells && decide (off + cells.length<=xs.length)then k {st with bx:=st.bx.set id (some [(.tuple (xs.take off ++ cells.map (·.1)++ xs.drop (off + cells.length)),0)])} else none
  |_,_=>match B0 act o.dst st with
   |some st'=>k st'
   |none=>none
 |act=>match B0 act o.dst st with
  |some st'=>k st'
  |none=>none
def C23 (t id off sz m:Nat)(xs:List PV)(st:St):St:=⟨(st.kill id).ρ.set t (.sl (some false) sz m ((xs.drop off).take (m * sz)),0),(st.kill id).bx,st.out⟩
def zI {R:Type}:List (Nat×Bool)->St->(St->Option R)->Option R
 |[],st,k=>k st
 |(t,_)::ts,st,k =>
  match st.ρ[t]? with
  |some (.bsl id off sz m,_)=>
   match sF st.bx id with
   |some xs=>if id<st.ρ.length then bif decide (off+m * sz<=xs.length)then zI ts (C23 t id off sz m xs st) k else none else none
   |none=>none
  |_=>zI ts st k
def A4s {R:Type}(l:Option (List (Nat×Bool)))(st:St)(k:St->Option R):Option R :=
 match l with
 |none=>k st
 |some l=>zI l st k
def S1:C7->Bool
 |.skip=>true
 |.val _ _=>true
 |.load _ _ _ _=>true
 |_=>false
def yZ (_:List (Nat×Bool))(_:C7):Bool:=true
abbrev OS:=List (Nat×Bool)
def D1s (os:OS):Operand->Option Bool
 |.tmp t=>os.lookup t
 |_=>none
def fX (os:OS)(t:Nat)(x:TV):TV :=
 match os.lookup t with
 |none=>x
 |some b=>bif b then x else(.tuple [],0)
def S4 {α β:Type}(f:Nat->α->β):Nat->List α->List β
 |_,[]=>[]
 |i,x::xs=>f i x::S4 f (i+1) xs
def I8 (os:OS)(st:St):St :=
 match os with
 |[]=>st
 |os=>⟨S4 (fX os) 0 st.ρ,st.bx,st.out⟩
def nS:List Bool->Bool
 |[]=>true
 |[b]=>b
 |b::bs=>bif b then nS bs else false
abbrev LS:=List (Nat×List (Nat×Bool))
def F56 (l L:List (Nat×Bool)):Bool:=l.all fun p=>L.any fun q=>p.1==q.1&&p.2==q.2
def yR (os:OS)(ls:LS)(L:List (Nat×Bool)):Operand->Option Bool
 |.tmp t=>match ls.lookup t with
  |some l=>if F56 l L then none else os.lookup t
  |none=>os.lookup t
 |_=>none
def C7d (c:Operand)(b:Bool)(L:List (Nat×Bool)):List (Nat×Bool) :=
 match c with
 |.tmp t=>(t,b)::L
 |_=>L
def iI (en:K6)(st:St)(os:OS)(ls:LS)(L:List (Nat×Bool))(o:Oper):List Bool :=
 match o.op with
 |.pick c a b =>
  match(ev en st o.type c).1 with
  |.bool cb=>(yR os ls L c).toList++(match yR os ls (C7d c true L) a,yR os ls (C7d c false L) b with
   |none,none=>[]
   |x,y=>[bif cb then x.getD true else y.getD true])
  |_=>[]
 |op=>op.operands.toList.filterMap (yR os ls L)
def iP (d:Option Tmp)(ls:LS):LS :=
 match d with
 |some d=>ls.filter fun q=>q.1 !=d&&!q.2.any (fun p=>p.1==d)
 |none=>ls
def C3r (d:Option Tmp)(l:Option (List (Nat×Bool)))(ls:LS):LS :=
 match d,l with
 |some d,some l=>if l.any (fun p=>p.1==d)then ls else(d,l)::ls
 |_,_=>ls
def aJ (os:OS)(ls:LS)(t:Nat)(want:Bool):Option (List (Nat×Bool)) :=
 match os.lookup t with
 |none=>some [(t,want)]
 |some _=>(ls.lookup t).map fun l=>(t,want)::l
def gC {R:Type}(l:List Bool)(x:Option R):Option R :=
 match l with
 |[]=>x
 |l=>bif nS l then x else none
def rD {R:Type}(g:Bool)(l:List Bool)(x:Option R):Option R :=
 match l with
 |[]=>x
 |l=>bif(bif g then nS l else true)then x else none
def gL (d:Option Tmp)(os:OS):OS :=
 match d with
 |some d=>os.filter fun p=>p.1 !=d
 |none=>os
def A07 (d:Option Tmp)(g:Bool)(os:OS):OS :=
 match d with
 |some d=>(d,g)::os
 |none=>os
def F0p (P:Program)(o:Oper):Bool :=
 match o.op with
 |.move _=>!dH P o.type
 |.assign _=>!dH P o.type
 |.pick _ _ _=>true
 |.binOp op t _ _ _ =>
  match op with
  |.quo=>false
  |.rem=>false
  |.shl=>false
  |.shr=>false
  |.add=>!(match P.underlying t with|some .string=>true|_=>false)
  |_=>true
 |.unOp _ _ _=>true
 |.convert s d _=>match P.underlying s,P.underlying d with
  |some (.int _),some (.int _)=>true
  |_,_=>false
 |.field _ _ _=>true
 |.extract _ _=>true
 |.load _ _=>true
 |.fieldAddr _ _ _=>true
 |.call c=>match c.callee with
  |.builtin .len=>true
  |.builtin .min=>true
  |.builtin .max=>true
  |_=>false
 |_=>false
def tT (ob:Option Bool)(want x:Bool):Bool :=
 match ob with
 |none=>if want then x else !x
 |some b=>bif b then(if want then x else !x)else false
def C96 (P:Program)(t:TypeId):TV :=
 match P.underlying t with
 |some .bool=>(.bool false,0)
 |some (.int k)=>(.int k 0,0)
 |some .string=>(.str [],0)
 |_=>(.tuple [],0)
def B4o (p:Nat×Bool)(so:St×OS):St×OS :=
 match so.1.ρ[p.1]? with
 |some (.bool _,c)=>({so.1 with ρ:=so.1.ρ.set p.1 (.bool p.2,c)},gL (some p.1) so.2)
 |_=>so
def jE:List (Nat×Bool)->St×OS->St×OS
 |[],so=>so
 |p::l,so=>B4o p (jE l so)
def C3o (L:List (Nat×Bool))(ls:LS):LS:=ls.filter fun q=>!L.any fun p=>p.1==q.1
def W9 {R:Type} (en:K6) (ops:Array Oper):List Oper->List C7->St->OS->LS->OS->(St->List C7->Option R)->Option R
 | [],acc,st,os,_,_,k=>k (I8 os st) acc
 |o ::rest,acc,st,os,ls,kn,k =>
  match o.guard with
  |none=>gC (iI en st os ls [] o) (A9 en st o fun act =>
   if yZ os act then aD en o act st fun st'=>W9 en ops rest (act ::acc) st' (gL o.dst os) (if S1 act then iP o.dst ls else []) kn k
   else none)
  |some (j,want)=>
   match(ops[j]?).bind (·.dst)with
   |none=>W9 en ops rest (.skip ::acc) (O4 o.dst (.tuple [],0) st) (gL o.dst os) (iP o.dst ls) kn k
   |some t =>
    match st.ρ[t]? with
    |some (.tuple [],_)=>match os.lookup t with
     |none=>W9 en ops rest (.skip ::acc) (O4 o.dst (.tuple [],0) st) (gL o.dst os) (iP o.dst ls) kn k
     |some _=>none
    |some (.bool x,c)=>
     match kn.lookup t,os.lookup t with
     |some b,none=>bif x ==b then
      (if b ==want then gC (iI en st os ls [(t,want)] o) (A9 en st o fun act =>
       if yZ os act then aD en o act st fun st'=>W9 en ops rest (act ::acc) st' (gL o.dst os) (if S1 act then iP o.dst ls else []) kn k
       else none)
      else W9 en ops rest (.skip ::acc) (O4 o.dst (.tuple [],0) st) (gL o.dst os) (iP o.dst ls) kn k)else none
     |some w,some b =>
      if w ==want then
       bif tT (some b) want x then none
       else W9 en ops rest (.skip ::acc) (O4 o.dst (C96 en.P o.type) st) (A07 o.dst false os) (C3r o.dst (aJ os ls t want) (iP o.dst ls)) kn k
      else none
     |none,ob =>
      if F0p en.P o then
       rD (tT ob want x) (iI en st os ls ((aJ os ls t want).getD []) o) (A9 en st o fun act =>
        if S1 act then match K8 act st.bx with
         |some v=>W9 en ops rest (act ::acc) (O4 o.dst v st) (A07 o.dst (tT ob want x) os) (C3r o.dst (aJ os ls t want) (iP o.dst ls)) kn k
         |none=>none
        else none)
      else match ob with
       |some b =>
        bif tT (some b) want x then
         gC (iI en (jE ((aJ os ls t want).getD []) (st,os)).1 (jE ((aJ os ls t want).getD []) (st,os)).2 (C3o ((aJ os ls t want).getD []) ls) ((aJ os ls t want).getD []) o) (A9 en (jE ((aJ os ls t want).getD []) (st,os)).1 o fun act =>
          if yZ (jE ((aJ os ls t want).getD []) (st,os)).2 act then aD en o act (jE ((aJ os ls t want).getD []) (st,os)).1 fun st'=>W9 en ops rest (act ::acc) st' (gL o.dst (jE ((aJ os ls t want).getD []) (st,os)).2) (if S1 act then iP o.dst (C3o ((aJ os ls t want).getD []) ls)else []) (((aJ os ls t want).getD [])++ kn) k
          else none)
        else W9 en ops rest (.skip ::acc) (O4 o.dst (C96 en.P o.type) st) (A07 o.dst false os) (C3r o.dst (aJ os ls t want) (iP o.dst ls)) ((t,want) ::kn) k
       |none =>
        bif(if want then x else !x)then gC (iI en {st with ρ:=st.ρ.set t (.bool want,c)} os ls [(t,want)] o) (A9 en {st with ρ:=st.ρ.set t (.bool want,c)} o fun act =>
         if yZ os act then aD en o act {st with ρ:=st.ρ.set t (.bool want,c)} fun st'=>W9 en ops rest (act ::acc) st' (gL o.dst os) (if S1 act then iP o.dst ls else []) ((t,want) ::kn) k
         else none)
        else W9 en ops rest (.skip ::acc) (O4 o.dst (.tuple [],0) {st with ρ:=st.ρ.set t (.bool (!want),c)}) (gL o.dst os) (iP o.dst ls) ((t,!want) ::kn) k
    |_=>none
def R9 (P:Program)(o:Oper):Bool :=
 match o.op with
 |.move _=>!dH P o.type
 |.assign _=>!dH P o.type
 |.store _ _ _=>false
 |.box _ _=>false
 |.call c=>match c.callee with
  |.builtin .append=>false
  |_=>true
 |_=>true
def dY (di dj:Option Tmp)(fi fj:Bool):C7->C7->Bool
 |.cons _ _ _,_=>false
 |_,.cons _ _ _=>false
 |.skip,_=>true
 |_,.skip=>true
 |.val _ _,.val _ _=>true
 |.val _ _,.load _ _ _ _=>true
 |.val _ _,.store _ _ _=>true
 |.val _ _,.mk _=>true
 |.val _ t,.own _ _=>fi&&decide (t<=1)
 |.val _ _,.hcall _ _ _ _ _=>true
 |.hcall _ _ _ _ _,.val _ _=>true
 |.load i _ _ _,.hcall ws _ more _ _=>ws.all (fun p=>p.1 !=i)&&dj !=some i&&more.isEmpty
 |.hcall ws _ more _ _,.load i _ _ _=>ws.all (fun p=>p.1 !=i)&&di !=some i&&more.isEmpty
 |.hcall ws n0 more _ _,.mk _=>ws.all (fun p=>dj !=some p.1)&&n0.isNone&&more.isEmpty
 |.hcall _ _ _ _ _,_=>false
 |_,.hcall _ _ _ _ _=>false
 |.load _ _ _ _,.val _ _=>true
 |.load _ _ _ _,.load _ _ _ _=>true
 |.load i _ _ _,.store j _ _=>i !=j
 |.load i _ _ _,.mk _=>dj !=some i
 |.load _ _ _ _,.own _ _=>fi
 |.store _ _ _,.val _ _=>true
 |.store i _ _,.load j _ _ _=>i !=j
 |.store i _ _,.store j _ _=>i !=j
 |.store i _ _,.mk _=>dj !=some i
 |.store _ _ _,.own _ _=>false
 |.mk _,.val _ _=>true
 |.mk _,.load i _ _ _=>di !=some i
 |.mk _,.store i _ _=>di !=some i
 |.mk _,.mk _=>true
 |.mk _,.own _ _=>false
 |.own _ _,.val _ t=>fj&&decide (t<=1)
 |.own _ _,.load _ _ _ _=>fj
 |.own _ _,.store _ _ _=>false
 |.own _ _,.mk _=>false
 |.own _ _,.own _ _=>false
def nV (acts:List C7)(i:Nat):C7:=acts.getD i .skip
def eR (ops:Array Oper):Nat->Nat->Nat->Bool
 |0,_,_=>false
 |n+1,j,i =>
  match ops[j]? with
  |some oj=>oj.after.any fun e=>Region.binds .any e&&(e.on==i||eR ops n e.on i)
  |none=>false
def B94 {α:Type}(n:Nat)(f:Nat->α):α :=
 match n with
 |0=>f 0
 |k+1=>f (k+1)
def B7i (ms:List Nat)(j:Nat)(o:Oper):Nat:=o.after.toList.foldr (fun e acc=>if Region.binds .any e then((if e.on<j then ms.getD (j-1-e.on) 0 else 0) |||(1 <<< e.on)) |||acc else acc) 0
def mU:List Nat->Nat
 |[]=>0
 |t::l=>(1 <<< t) |||mU l
def A94 (x y:Oper)(Lx Ly:Nat):Bool :=
 (match x.dst with
  |some d=>!Ly.testBit d&&y.dst !=some d
  |none=>true) &&
 (match y.dst with
  |some d=>!Lx.testBit d
  |none=>true)
def A12 (P:Program)(o:Oper)(a:C7)(m L:Nat):Nat->List (Oper×C7×Nat)->Bool
 |_,[]=>true
 |i,(oi,ai,Li)::ds=>(m.testBit i||(A94 oi o Li L&&dY oi.dst o.dst (R9 P oi) (R9 P o) ai a))&&A12 P o a m L (i-1) ds
def A6b (P:Program)(ops:Array Oper):List Oper->List C7->Nat->List Nat->List (Oper×C7×Nat)->Bool
 |[],[],_,_,_=>true
 |o::os,a::as',j,ms,ds=>o.after.toList.all (fun e=>!Region.binds .any e||decide (e.on<j)) &&
  B94 (B7i ms j o) fun m=>B94 (mU (o.looksAt ops)) fun L=>A12 P o a m L (j-1) ds&&A6b P ops os as' (j+1) (m::ms) ((o,a,L)::ds)
 |_,_,_,_,_=>false
def dQ {R:Type}(en:K6)(ops:Array Oper)(draw:Bool)(st:St)(k:St->Option R):Option R :=
 if ops.toList.all (A5f en.P)then
  if draw then
   W9 en ops ops.toList [] st [] [] [] fun st' acts=>if A6b en.P ops ops.toList acts.reverse 0 [] []then k st' else none
  else W9 en ops ops.toList [] st [] [] [] fun st' _=>k st'
 else none
structure zX where
 slots:List (Nat×Bool)
 boxes:List Nat
def mJ (bs:List Nat):PV->PV
 |.ptr id off=>if bs.contains id then .ptr id off else .undef
 |.bsl id off sz n=>if bs.contains id then .bsl id off sz n else .undef
 |.clo f []=>.clo f []
 |.clo f (c::cs)=>(Q2 (fun id=>if bs.contains id then some id else none) true 4 (.clo f (c::cs))).getD .undef
 |.agp cs=>(Q2 (fun id=>if bs.contains id then some id else none) true 4 (.agp cs)).getD .undef
 |.tupp cs=>(Q2 (fun id=>if bs.contains id then some id else none) true 4 (.tupp cs)).getD .undef
 |x=>x
def zX.claims (kp:zX):List Nat:=kp.boxes.filterMap fun i=>if 1048576<=i then some (i-1048576)else none
def B5s (slots:List (Nat×Bool))(st:St):List Nat:=slots.filterMap fun p=>if p.2 then(match st.ρ[p.1]? with|some x=>if 2<=x.2 then some x.2 else none|none=>none)else none
def kE:Option (Option (List TV))->Option TV
 |some (some (x::_))=>some x
 |_=>none
def lD (claims:List Nat)(st:St):List Nat:=claims.filterMap fun i=>match kE st.bx[i]? with
 |some x=>if 2<=x.2 then some x.2 else none
 |none=>none
def B1i (slots:List (Nat×Bool))(boxes:List Nat)(n t:Nat)(x:TV):TV :=
 match slots.lookup t with
 |none=>(.undef,0)
 |some want=>(mJ boxes x.1,if want then(if x.2=0 then 0 else n+2+t)else 0)
def PV.nilSl:PV->Bool
 |.sl (some true) _ _ _=>true
 |_=>false
def gT (boxes claims:List Nat)(n id:Nat):List TV->List TV
 |[]=>[]
 |x::cs=>(mJ boxes x.1,if claims.contains id then(if x.2=0 then(if x.1.nilSl then n+n+2+id else 0)else n+n+2+id)else 0)::cs.map fun x=>(mJ boxes x.1,0)
def A82 (boxes claims:List Nat)(n id:Nat)(b:Option (List TV)):Option (List TV):=if boxes.contains id then b.map (gT boxes claims n id)else none
def A9r (slots:List (Nat×Bool))(claims:List Nat)(st:St):Bool :=
 Z2 (B5s slots st++lD claims st)&&slots.all (fun p=>(!p.2||(match st.ρ[p.1]? with|some x=>x.2 !=0|none=>false))&&decide (p.1<st.ρ.length))
def wQ (slots:List (Nat×Bool))(boxes claims:List Nat)(st:St):St:=⟨S4 (B1i slots boxes st.ρ.length) 0 st.ρ,S4 (A82 boxes claims st.ρ.length) 0 st.bx,st.out⟩
def F5r:Nat:=2097152
def A79 (slots:List (Nat×Bool))(t:Nat)(x:TV):TV :=
 match slots.lookup t with
 |none=>(.undef,0)
 |some _=>(x.1,0)
def normA (slots:List (Nat×Bool))(st:St):St:=⟨S4 (A79 slots) 0 st.ρ,st.bx,st.out⟩
def A7h (n:Nat)(al:List Nat)(id:Nat):Option Nat :=
 match jB al 0 id with
 |some i=>some (n+i)
 |none=>none
def A50 (n:Nat)(al:List Nat)(x:PV):PV:=(Q2 (A7h n al) true 4 x).getD .undef
def fL (n:Nat)(bx:List (Option (List TV))):List (Option (List TV)):=Bv n none++bx
def C3p:Nat:=4194304
def D3e (slots:List (Nat×Bool))(st:St):List Nat:=slots.flatMap fun p=>match st.ρ[p.1]? with
 |some x=>pK 4 x.1
 |none=>[]
def C31 (n:Nat)(al:List Nat)(x:TV):TV:=(A50 n al x.1,x.2)
def C1v (n:Nat)(al:List Nat)(bx:List (Option (List TV)))(id:Nat):Option (Option (List TV)) :=
 match bx[id]? with
 |some (some cs)=>some (some (cs.map (C31 n al)))
 |_=>none
def C2c (al:List Nat)(st:St):Option St :=
 match F7 (C1v st.ρ.length al st.bx) al with
 |some bx=>some ⟨st.ρ.map (C31 st.ρ.length al),fL st.ρ.length bx,st.out⟩
 |none=>none
def D5n (kp:zX)(st:St):Option St :=
 match mN st.bx 40 (D3e kp.slots st) []with
 |some al =>
  if Z2 al then
   match C2c al st with
   |some st=>if A9r kp.slots kp.claims st then some (wQ kp.slots (E9 st.ρ.length al.length) kp.claims st)else none
   |none=>none
  else none
 |none=>none
def C2 {R:Type}(kp:Option zX)(st:St)(k:St->Option R):Option R :=
 match kp with
 |none=>k st
 |some kp=>if kp.boxes.contains F5r then k (normA kp.slots st)else if kp.boxes.contains C3p then(match D5n kp st with
  |some st=>k st
  |none=>none)else if A9r kp.slots kp.claims st then k (wQ kp.slots kp.boxes kp.claims st)else none
def iT {R:Type}(kp:Option zX)(step:St->(St->Option R)->Option R):Nat->St->Option R
 |0,_=>none
 |n+1,st=>step st fun st'=>C2 kp st' fun st''=>iT kp step n st''
structure B4 where
 block:List (Nat×zX)
 loop:List (Nat×zX)
def kN:List Tmp->List PV->List TV->List TV
 |p::ps,x::xs,ρ=>kN ps xs (ρ.set p (x,0))
 |_,_,ρ=>ρ
def B9l:Nat->List (Option (List TV))->List Nat
 |_,[]=>[]
 |i,some _::bx=>i::B9l (i+1) bx
 |i,none::bx=>B9l (i+1) bx
def A4d (n:Nat)(bx:List (Option (List TV))):List Nat:=E9 n (bx.length-n)++B9l 0 (bx.take n)
def mR (n:Nat)(al:List Nat)(ρ:List TV):List TV:=ρ.map fun x=>(A50 n al x.1,if x.2=1 then 1 else 0)
def lZ (n:Nat)(al:List Nat)(i:Nat):List TV->List TV
 |[]=>[]
 |x::cs=>(A50 n al x.1,if x.2=0 then(if x.1.nilSl then n+n+2+i else 0)else n+n+2+i)::cs.map fun x=>(A50 n al x.1,0)
def dG (n:Nat)(al:List Nat)(bx:List (Option (List TV))):Nat->List Nat->Option (List (Option (List TV)))
 |_,[]=>some []
 |i,id::ids =>
  match bx[id]? with
  |some (some cs)=>match dG n al bx (i+1) ids with
   |some r=>some (some (lZ n al i cs)::r)
   |none=>none
  |_=>none
def B1r {R:Type}(al:List Nat)(st:St)(k:List (Option (List TV))->Option R):Option R :=
 if Z2 al&&Z2 (lD al st)then
  match dG st.ρ.length al st.bx 0 al with
  |some bx=>k bx
  |none=>none
 else none
def tP (ids :List Nat) (np:Array Tmp) (ρ:List TV) (run:{S:Type}->St->(Option kH->St->Option S)->Option S):YFn:=⟨fun {R} bs o xs k =>
 match o with
 |.fr bx none o' =>
  if bs.length=ids.length && xs.length=np.size then
   match F7 (F7 (Q2 (fun j=>ids[j]?) false 4)) bs,F7 (Q2 (fun j=>ids[j]?) false 4) xs with
   |some bs,some xs=>run (S:=R) ⟨kN np.toList xs ρ,E1 (cB ids bs) (fL ρ.length bx),o'⟩ fun j st' =>
    if st'.ρ.length=ρ.length then
     B1r (E9 ρ.length bx.length) st' fun bx' =>
      match dO (fL ρ.length bx') ids with
      |some bs'=>match j with
       |none=>k bs' (.fr bx' none st'.out) true
       |some j=>k bs' (.fr bx' (some j) st'.out) false
      |none=>none
    else none
   |_,_=>none
  else none
 |_=>none⟩
def xF {R :Type} (en:K6) (st:St) (f:Operand) (np:Array Tmp) (run:{S:Type}->St->(Option kH->St->Option S)->Option S) (kj:Option kH->St->Option R):Option R :=
 match(ev en st 0 f).1 with
 |.clo fid caps =>
  match(if fid < 1000000 then en.I fid else none)with
  |some p =>
   B1r (A4d st.ρ.length st.bx) st fun bx =>
    match F7 (Q2 (A7h st.ρ.length (A4d st.ρ.length st.bx)) false 4) caps with
    |some caps =>
     match mN (fL st.ρ.length bx) 40 (caps.flatMap (pK 4)) []with
     |some ids =>
      if Z2 ids then
       match dO (fL st.ρ.length bx) ids,F7 (Q2 (jB ids 0) false 4) caps with
       |some bs,some caps=>p.F bs (.fr bx none st.out) (.yld ::caps) (tP ids np (mR st.ρ.length (A4d st.ρ.length st.bx) st.ρ) run) fun bs o v =>
        match o with
        |.fr bx j o' =>
         if bs.length=ids.length then
          match F7 (F7 (Q2 (fun j=>ids[j]?) false 4)) bs with
          |some bs=>kj j ⟨mR st.ρ.length (A4d st.ρ.length st.bx) st.ρ,E1 (cB ids bs) (fL st.ρ.length bx),o'⟩
          |none=>none
         else none
        |.nil=>none
       |_,_=>none
      else none
     |none=>none
    |none=>none
  |none=>none
 |_=>none
def B8d:Option zX->Bool
 |some kp=>kp.boxes.contains C3p
 |none=>false
def W1 (h:B4):Code->Nat->Bool
 |.seq a b,cur=>W1 h a cur||W1 h b cur
 |.cond _ a b,cur=>W1 h a cur||W1 h b cur
 |.block id a,_=>B8d (h.block.lookup id)||W1 h a id
 |.loop a,cur=>B8d (h.loop.lookup cur)||W1 h a cur
 |.ret,_=>B8d (h.block.lookup 4000000)
 |_,_=>false
def H0 (en:K6)(h:B4)(fuel:Nat):Code->{R:Type}->(St->Option R)->Nat->St->(St->Option R)->List (Nat×(St->Option R))->Option R
 |.skip,_,_,_,st,kn,_=>kn st
 |.region id ops draw,_,_,_,st,kn,_=>A4s ((h.block.lookup (1000000+id)).map (·.slots)) st fun st=>dQ en ops draw st kn
 |.seq a b,_,kr,cur,st,kn,kx=>H0 en h fuel a kr cur st (fun st'=>H0 en h fuel b kr cur st' kn kx) kx
 |.cond c a b,_,kr,cur,st,kn,kx =>
  match(ev en st 0 c).1 with
  |.bool t=>bif t then H0 en h fuel a kr cur st kn kx else H0 en h fuel b kr cur st kn kx
  |_=>none
 |.block id a,_,kr,_,st,kn,kx=>H0 en h fuel a kr id st (fun st'=>C2 (h.block.lookup id) st' kn) ((id,fun st'=>C2 (h.block.lookup id) st' kn)::kx)
 |.loop a,_,kr,cur,st,kn,kx=>C2 (h.loop.lookup cur) st fun st'=>iT (h.loop.lookup cur) (fun st kn'=>H0 en h fuel a kr cur st kn' kx) fuel st'
 |.exit id,_,_,_,st,_,kx =>
  match kx.lookup id with
  |some k=>k st
  |none=>none
 |.ret,_,kr,_,st,_,_=>A4s ((h.block.lookup 3000000).map (·.slots)) st fun st=>C2 (h.block.lookup 4000000) st kr
 |.label _,_,_,_,st,kn,_=>kn st
 |.rangeFunc f np assign body,_,kr,_,st,kn,kx =>
  if W1 h assign 0||W1 h body 0 then none else xF en st f np
   (fun {S} st k=>H0 en h fuel assign (fun _=>none) 0 st (fun st=>H0 en h fuel body (fun st=>k (some .ret) st) 0 st (fun st=>k none st) ((kx.map (·.1)).map fun id=>(id,fun st=>k (some (.exit id)) st))) [])
   (fun j st=>match j with
    |none=>kn st
    |some .ret=>kr st
    |some (.exit id)=>match kx.lookup id with
     |some k=>k st
     |none=>none)
 |_,_,_,_,_,_,_=>none
def W5 {R:Type}(en:K6)(h:B4)(fuel:Nat)(kr:St->Option R):List Nat->Code->Nat->(St->Option R)->List (Nat×(St->Option R))->(St->Option R)->St->(St->Option R)->Option R
 |0::p,.seq a b,cur,kn,kx,kl=>W5 en h fuel kr p a cur (fun st'=>H0 en h fuel b kr cur st' kn kx) kx kl
 |_::p,.seq _ b,cur,kn,kx,kl=>W5 en h fuel kr p b cur kn kx kl
 |0::p,.cond _ a _,cur,kn,kx,kl=>W5 en h fuel kr p a cur kn kx kl
 |_::p,.cond _ _ b,cur,kn,kx,kl=>W5 en h fuel kr p b cur kn kx kl
 |_::p,.block id a,_,kn,kx,kl=>W5 en h fuel kr p a id (fun st'=>C2 (h.block.lookup id) st' kn) ((id,fun st'=>C2 (h.block.lookup id) st' kn)::kx) kl
 |_::p,.loop a,cur,_,kx,kl=>W5 en h fuel kr p a cur kl kx kl
 |[],.loop a,cur,_,kx,_=>fun st kn'=>H0 en h fuel a kr cur st kn' kx
 |_,_,_,_,_,_=>fun _ _=>none
def frame (n:Nat)(l:List (Nat×TV))(b:List (Nat×List TV)):St:=⟨(List.range n).map fun t=>(l.lookup t).getD (.undef,0),(List.range n).map fun t=>b.lookup t,.nil⟩
def frz (st:St)(x:PV):Option PV :=
 if x.data then some x else
 match x with
 |.ptr id off =>
  match st.bx[id]? with
  |some (some cs)=>if aF cs&&(oG cs).isNone then some (.eptr ((cs.drop off).map (·.1)))else none
  |_=>none
 |_=>none
def vU (en:K6)(st:St):ResultVar->Option PV
 |.tmp t=>match st.ρ[t]? with
  |some x=>frz st x.1
  |none=>none
 |.cell a t=>match st.ρ[a]? with
  |some (.ptr id off,_)=>
   match st.bx[id]? with
   |some (some cs)=>
    if W4 en.P t&&(S9 en.P t||F9 en.P t==1)then
     if S9 en.P t then if off+F9 en.P t<=cs.length&&aF ((cs.take (off+F9 en.P t)).drop off)&&(oG cs).isNone then some (.agg (((cs.take (off+F9 en.P t)).drop off).map (·.1)))else none
     else if(oG cs).isNone then(cs[off]?).bind fun x=>frz st x.1 else none
    else none
   |_=>none
  |_=>none
def iJ (en:K6)(st:St):List ResultVar->Option (List PV)
 |[]=>some []
 |r::rs=>match vU en st r with
  |some x=>(iJ en st rs).map (x :: ·)
  |none=>none
def B7p (st:St):List ResultVar->Bool
 |[.tmp t]=>match st.ρ[t]? with
  |some (.sl _ _ _ _,c)=>c !=0
  |_=>false
 |_=>false
def iA (en:K6)(own:Bool)(fn:Func)(st:St):Option PV :=
 if !own||B7p st fn.results.toList then
  match iJ en st fn.results.toList with
  |some [x]=>some x
  |some xs=>some (.tuple xs)
  |none=>none
 else none
def st0 (n:Nat)(args:List PV):St:=⟨args.map (fun x=>(x,0))++Bv (n-args.length) (.tuple [],0),Bv n none,.nil⟩
def C6 (en:K6)(h:B4)(fuel:Nat)(own:Bool)(fn:Func)(args:List PV):Option PV :=
 match fn.body with
 |some c=>H0 en h fuel c (iA en own fn) 0 (st0 fn.ntmps args) (iA en own fn) []
 |none=>none
def qQ (en:K6)(st:St):ResultVar->Option PV
 |.tmp t=>match st.ρ[t]? with
  |some x=>some x.1
  |none=>none
 |.cell a t=>match st.ρ[a]? with
  |some (.ptr id off,_)=>
   match st.bx[id]? with
   |some (some cs)=>
    if W4 en.P t&&(S9 en.P t||F9 en.P t==1)then
     if S9 en.P t then if off+F9 en.P t<=cs.length&&(oG cs).isNone then some (D1v (((cs.take (off+F9 en.P t)).drop off).map (·.1)))else none
     else if(oG cs).isNone then(cs[off]?).map (·.1)else none
    else none
   |_=>none
  |_=>none
def A2l:List PV->PV
 |[x]=>x
 |xs=>if xs.all PV.data then .tuple xs else .tupp xs
def bZ {R:Type}(en:K6)(nl:Nat)(fn:Func)(st:St)(kk:List (List PV)->kC->PV->Option R):Option R :=
 match F7 (qQ en st) fn.results.toList with
 |some xs =>
  match mN st.bx 40 (E9 st.ρ.length nl++xs.flatMap (pK 4)) []with
  |some ids =>
   if Z2 ids&&(ids.take nl==E9 st.ρ.length nl)then
    match dO st.bx ids,F7 (Q2 (jB ids 0) false 4) xs with
    |some bs,some xs=>kk bs st.out (A2l xs)
    |_,_=>none
   else none
  |none=>none
 |none=>none
def A9t (n nl j:Nat):Option Nat:=if j<nl then some (n+j)else none
def C6t (n:Nat)(bs:List (List PV))(o:kC)(args:List PV):Option St :=
 match F7 (F7 (Q2 (A9t (max args.length n) bs.length) false 4)) bs,F7 (Q2 (A9t (max args.length n) bs.length) true 4) args with
 |some bs,some args=>some ⟨args.map (fun x=>(x,0))++Bv (n-args.length) (.tuple [],0),Bv (max args.length n) none++bs.map (fun cs=>some (cs.map fun x=>(x,0))),o⟩
 |_,_=>none
def C5 {R:Type}(en:K6)(h:B4)(fuel:Nat)(fn:Func)(bs:List (List PV))(args:List PV)(kk:List (List PV)->PV->Option R):Option R :=
 match fn.body,C6t fn.ntmps bs .nil args with
 |some c,some st=>if W1 h c 0 then none else H0 en h fuel c (fun st=>bZ en bs.length fn st fun bs _ v=>kk bs v) 0 st (fun st=>bZ en bs.length fn st fun bs _ v=>kk bs v) []
 |_,_=>none
end Go.Proofs.YtkpfigikffphdaaGreatDoor
namespace Go.Proofs.YtkpfigikffphdaaGreatDoor
open Go.RowKit
section
variable {R:Type}
theorem Q3 {α:Type}(b:Bool)(x:Option α)(k:α->Option R):(bif b then x else none).bind k=bif b then x.bind k else none:=by cases b<;>rfl
theorem xZ {α:Type}(b:Bool)(x:Option α)(k:α->Option R):(bif b then none else x).bind k=bif b then none else x.bind k:=by cases b<;>rfl
theorem C6i {α:Type}(b:Bool)(x y:Option α)(k:α->Option R):(bif b then x else y).bind k=bif b then x.bind k else y.bind k:=by cases b<;>rfl
theorem G1 {α:Type}(c:Prop)[Decidable c](x:Option α)(k:α->Option R):(if c then x else none).bind k=if c then x.bind k else none:=by split<;>rfl
theorem rA {α:Type}(c:Prop)[Decidable c](x:Option α)(k:α->Option R):(if c then none else x).bind k=if c then none else x.bind k:=by split<;>rfl
theorem C9l (op:BinOp)(k:IntKind)(a b:Int)(kk:PV->Option R):C4n op k a b kk=(C4n op k a b some).bind kk:=by
 cases op<;>simp only[C4n,Aa,Option.bind_none,xZ]
theorem D52 (op:BinOp)(a b:List UInt8)(kk:PV->Option R):C8e op a b kk=(C8e op a b some).bind kk:=by
 cases op<;>simp only[C8e,Aa,Option.bind_none,Q3]
theorem A38 (P:Program)(op:BinOp)(t:TypeId)(ox oy:Operand)(x y:PV)(kk:PV->Option R):C8b P op t ox oy x y kk=(C8b P op t ox oy x y some).bind kk:=by
 unfold C8b;split
 ·split
  ·simp only[xZ,Aa]
  ·simp only[xZ,Aa]
  ·rw[G1,<-C9l]
 ·exact D52 _ _ _ _
 ·rw[G1];split
  ·split<;>rfl
  ·rfl
 ·split
  ·rfl
  ·split
   ·cases eqP P 20 t _ _<;>rfl
   ·cases eqP P 20 t _ _<;>rfl
   ·rfl
 ·split
  ·split
   ·cases sT P t x _<;>rfl
   ·cases sT P t x _<;>rfl
   ·rfl
  ·rfl
theorem B11 (op:UnOp)(x:PV)(kk:PV->Option R):pun op x kk=(pun op x some).bind kk:=by
 unfold pun;split<;>rfl
theorem xG (P:Program)(s d:TypeId)(x:PV)(kk:PV->Option R):B52 P s d x kk=(B52 P s d x some).bind kk:=by
 unfold B52;split
 ·rfl
 ·rfl
 ·split
  ·rw[G1,Q3];rfl
  ·rfl
 ·split
  ·rw[G1]
   cases eF _<;>rfl
  ·rfl
 ·rfl
theorem nA (x:PV)(m:Nat)(kk:Nat->Option R):oZ x m kk=(oZ x m some).bind kk:=by
 unfold oZ;split
 ·rw[Q3];rfl
 ·rfl
theorem E7 (x:Option PV)(d m:Nat)(kk:Nat->Option R):X4 x d m kk=(X4 x d m some).bind kk:=by
 unfold X4;split
 ·exact nA _ _ _
 ·rfl
theorem C3 {α β γ:Type}(x:Option α)(f:α->Option β)(g:β->Option γ):(x.bind f).bind g=x.bind fun a=>(f a).bind g:=by cases x<;>rfl
theorem tK (P:Program)(t:TypeId)(x:PV)(lo hi mx:Option PV)(kk:TV->Option R):A3l P t x lo hi mx kk=(A3l P t x lo hi mx some).bind kk:=by
 unfold A3l;split
 ·split
  ·rfl
  ·rw[E7,E7 (R:=TV),C3];congr 1;funext h;rw[E7,E7 (R:=TV),C3];rfl
 ·rw[G1];split
  ·split
   ·rw[nA,nA (R:=TV),C3];congr 1;funext m;rw[E7,E7 (R:=TV),C3];congr 1;funext h;rw[E7,E7 (R:=TV),C3];rfl
   ·rw[E7,E7 (R:=TV),C3];congr 1;funext h;rw[E7,E7 (R:=TV),C3];rfl
  ·rfl
 ·rw[G1];split
  ·split
   ·rfl
   ·rw[E7,E7 (R:=TV),C3];congr 1;funext h;rw[E7,E7 (R:=TV),C3];congr 1;funext l;rw[Q3];rfl
  ·rfl
 ·rfl
theorem gS (P:Program)(t:TypeId)(cells:List PV)(off:Nat)(kk:PV->Option R):vB P t cells off kk=(vB P t cells off some).bind kk:=by
 unfold vB;split
 ·rw[G1];rfl
 ·cases cells[off]? <;> rfl
theorem jN (t:CT)(x:PV)(kk:PV->Option R):rI t x kk=(rI t x some).bind kk:=by
 cases t<;>simp only[rI,C3,Aa,G1]
end
theorem fM:∀{R:Type} (ts:List CT) (xs:List PV) (kk:List PV->Option R),cG ts xs kk=(cG ts xs some).bind kk
 |_,[],_,_=>rfl
 |R,t::ts,xs,kk=>by
  simp only[cG,C3];congr 1;funext x;rw[jN,jN (R:=List PV),C3];congr 1;funext y;rw[fM ts xs.tail (fun ys=>kk (y::ys)),fM ts xs.tail (fun ys=>some (y::ys)),C3];rfl
section
variable {R:Type}
theorem gX {R:Type}(b:Bool)(ts:List CT)(xs:List PV)(kk:List PV->Option R):A3n b ts xs kk=(A3n b ts xs some).bind kk:=by
 unfold A3n
 cases b with
 |false=>exact fM ts xs kk
 |true =>
  simp only[if_true];split
  ·rw[C3];congr 1;funext x;rw[C3];rfl
  ·rfl
theorem B0u (P:Program)(b:Builtin)(ts:Array TypeId)(xs:List TV)(kk:C7->Option R):aP P b ts xs kk=(aP P b ts xs some).bind kk:=by
 unfold aP;split
 ·split<;>rfl
 ·split<;>rfl
 ·split<;>rfl
 ·split<;>rfl
 ·split
  ·rw[Option.bind_assoc];rfl
  ·rfl
 ·split
  ·rw[G1];split
   ·split
    ·rw[G1,Q3];rfl
    ·rw[G1,Q3];rfl
    ·rfl
   ·rfl
  ·rfl
 ·rfl
theorem tV (P:Program)(t:TypeId)(cells:List PV)(off:Nat)(kk:PV->Option R):xQ P t cells off kk=(xQ P t cells off some).bind kk:=by
 unfold xQ;split
 ·rw[G1];rfl
 ·cases cells[off]? <;> rfl
def D5.nat (f:D5):Prop:=∀(R:Type) (xs:List PV) (k:PV->Option R),f.F xs k=(f.F xs (R:=PV) some).bind k
def H7.nat (f:H7):Prop:=∀(R:Type) (bs:List (List PV)) (xs:List PV) (k:List (List PV)->PV->Option R),f.F bs xs k=(f.F bs xs (R:=List (List PV)×PV) fun b v=>some (b,v)).bind fun r=>k r.1 r.2
def YFn.nat (y:YFn):Prop:=∀(R:Type) (bs:List (List PV)) (o:kC) (xs:List PV) (k:List (List PV)->kC->Bool->Option R),y.F bs o xs k=(y.F bs o xs (R:=List (List PV)×kC×Bool) fun b o v=>some (b,o,v)).bind fun r=>k r.1 r.2.1 r.2.2
def IFn.nat (f:IFn):Prop:=∀(R:Type) (bs:List (List PV)) (o:kC) (xs:List PV) (y:YFn) (k:List (List PV)->kC->PV->Option R),f.F bs o xs y k=(f.F bs o xs y (R:=List (List PV)×kC×PV) fun b o v=>some (b,o,v)).bind fun r=>k r.1 r.2.1 r.2.2
def NFn.nat (f:NFn):Prop:=∀(R:Type) (xs:List PV) (k:Nat->Nat->List PV->Option R),f.F xs k=(f.F xs (R:=Nat×Nat×List PV) fun s n c=>some (s,n,c)).bind fun r=>k r.1 r.2.1 r.2.2
def CFn.nat (f:CFn):Prop:=∀(R:Type) (s n:Nat) (cs xs:List PV) (k:Nat->List PV->Option R),f.F s n cs xs k=(f.F s n cs xs (R:=Nat×List PV) fun n c=>some (n,c)).bind fun r=>k r.1 r.2
structure K6.nat (en:K6):Prop where
 e:∀f fn,en.E f=some fn->fn.nat
 h:∀f p,en.H f=some p->p.nat
 i:∀f p,en.I f=some p->p.nat
 n:∀f p,en.N f=some p->p.nat
 c:∀f p,en.C f=some p->p.nat
 y:∀k y,en.Y=some (k,y)->y.nat
theorem A4c (ids:List Nat)(bs:List (List PV))(o:kC)(v:PV)(kk:C7->Option R):kF ids bs o v kk=(kF ids bs o v some).bind kk:=by
 unfold kF;rw[G1];split
 ·split<;>rfl
 ·rfl
theorem B6j {y:YFn}(hy:y.nat)(st:St)(k:Nat)(xs:List PV)(kk:C7->Option R):kX st k y xs kk=(kX st k y xs some).bind kk:=by
 unfold kX;split
 ·rw[hy R,hy C7,C3];congr 1;funext r;rw[A4c]
 ·rfl
theorem B6p {p:IFn}(hp:p.nat)(st:St)(k:Nat)(y:YFn)(xs:List PV)(kk:C7->Option R):kO st k y p xs kk=(kO st k y p xs some).bind kk:=by
 unfold kO;split
 ·rw[hp R,hp C7,C3];congr 1;funext r;rw[A4c]
 ·rfl
theorem B9x (bx:List (Option (List TV)))(ids:List Nat)(dst:Option Tmp)(bs:List (List PV))(v:PV)(kk:C7->Option R):kR bx ids dst bs v kk=(kR bx ids dst bs v some).bind kk:=by
 unfold kR;split
 ·rw[G1];split
  ·split<;>rfl
  ·rfl
 ·rw[G1];split
  ·split
   ·split<;>rfl
   ·rfl
  ·rfl
theorem iQ {p:H7}(hp:p.nat)(bx:List (Option (List TV)))(dst:Option Tmp)(xs:List PV)(kk:C7->Option R):aX bx dst p xs kk=(aX bx dst p xs some).bind kk:=by
 unfold aX;split
 ·rw[G1];split
  ·split
   ·split
    ·rw[hp R,hp C7,C3];congr 1;funext r;rw[B9x]
    ·rfl
   ·rfl
  ·rfl
 ·rfl
theorem B8y {p:NFn}(hp:p.nat)(dst:Option Tmp)(xs:List PV)(kk:C7->Option R):oO dst p xs kk=(oO dst p xs some).bind kk:=by
 unfold oO;split
 ·rw[hp R,hp C7,C3];rfl
 ·rfl
theorem B6u {p:CFn}(hp:p.nat)(st:St)(dst:Option Tmp)(xs:List PV)(kk:C7->Option R):kM st dst p xs kk=(kM st dst p xs some).bind kk:=by
 unfold kM;split
 ·split
  ·rw[G1,hp R,hp C7,C3];simp only[Q3,Aa]
  ·rfl
 ·rfl
theorem X8 (en:K6)(hE:en.nat)(st:St)(o:Oper)(kk:C7->Option R):A9 en st o kk=(A9 en st o some).bind kk:=by
 unfold A9;split
 ·rfl
 ·rfl
 ·split
  ·split
   ·rfl
   ·rw[C6i];rfl
  ·rfl
 ·rw[A38,A38 (R:=C7),C3];rfl
 ·rw[B11,B11 (R:=C7),C3];rfl
 ·rw[xG,xG (R:=C7),C3];rfl
 ·rw[tK,tK (R:=C7),C3];rfl
 ·split
  ·rw[gS,gS (R:=C7),C3];rfl
  ·rw[tV,tV (R:=C7),C3];rfl
  ·rfl
 ·split
  ·rw[Q3,C3];rfl
  ·rw[Q3,gS,gS (R:=C7),C3];rfl
  ·rfl
 ·split
  ·rw[rA];rfl
  ·rw[rA];rfl
  ·rw[rA];rfl
  ·rfl
 ·split
  ·rw[G1,Q3];rfl
  ·rw[G1,Q3];rfl
  ·rw[Q3];rfl
  ·rw[Q3];rfl
  ·rfl
 ·split
  ·rfl
  ·rw[G1];split
   ·rw[gX,gX (R:=C7),C3];congr 1;funext r;split
    ·rfl
    ·split<;>rfl
   ·rfl
  ·rfl
 ·split
  ·rw[G1];rfl
  ·rfl
 ·split<;>rfl
 ·split<;>rfl
 ·split<;>rfl
 ·split
  ·split
   ·split
    ·split<;>rfl
    ·split
     ·split<;>rfl
     ·rfl
   ·split
    ·split<;>rfl
    ·rfl
   ·rfl
  ·rfl
 ·split
  ·rw[G1];split
   ·split
    ·rw[G1];split
     ·split
      ·split<;>rfl
      ·rfl
     ·rfl
    ·rfl
   ·rfl
  ·rfl
 ·split
  ·split
   ·rw[G1,Q3];rfl
   ·rfl
  ·rfl
 ·split
  ·rw[C3];congr 1;funext v;rw[G1];rfl
  ·rw[C3];rfl
  ·rfl
 ·rw[rA,G1];rfl
 ·split
  ·exact B0u _ _ _ _ _
  ·split
   ·split
    ·split
     ·rename_i p hp;exact iQ (hE.h _ _ hp) _ _ _ _
     ·rfl
    split
    ·rename_i fn hfn;rw[G1,hE.e _ _ hfn R,hE.e _ _ hfn C7,C3];congr 1;congr 1;funext v;split<;>rfl
    ·split
     ·rename_i p hp;exact iQ (hE.h _ _ hp) _ _ _ _
     ·split
      ·rename_i p hp;rw[G1,B8y (hE.n _ _ hp)]
      ·split
       ·rename_i p hp;exact B6u (hE.c _ _ hp) _ _ _ _
       ·split
        ·rename_i p k y hp hy;exact B6p (hE.i _ _ hp) _ _ _ _ _
        ·rfl
   ·split
    ·rename_i k y hy;exact B6j (hE.y _ _ hy) _ _ _ _
    ·rfl
   ·rfl
  ·rfl
 ·split
  ·split
   ·split
    ·rfl
    ·split<;>rfl
   ·rfl
  ·rfl
 ·rfl
theorem B5f {S:Type}{en:K6}{o:Oper}{act:C7}{st:St}{k0:St->Option R}{k:R->Option S}:aD en o act st (fun st=>(k0 st).bind k)=(aD en o act st k0).bind k:=by
 have plain:(match B0 act o.dst st with|some st'=>(k0 st').bind k|none=>none)=(match B0 act o.dst st with|some st'=>k0 st' |none=>none).bind k:=by cases B0 act o.dst st<;>rfl
 cases act with
 |load id off n agg =>
  simp only[aD];split
  ·split
   ·rw[G1];split
    ·rw[gX,gX (R:=R),C3];congr 1;funext r;split
     ·rfl
     ·split<;>rfl
    ·rfl
   ·rfl
  ·exact plain
 |store id off cells =>
  simp only[aD];split
  ·rw[Q3]
  ·exact plain
 |_=>exact plain
theorem xC {S:Type}{k:R->Option S}:∀(l:List (Nat×Bool)) (st:St) (k0:St->Option R),zI l st (fun st=>(k0 st).bind k)=(zI l st k0).bind k
 |[],st,k0=>rfl
 |(t,b)::ts,st,k0=>by
  simp only[zI];split
  ·split
   ·rw[G1,Q3,xC ts]
   ·rfl
  ·exact xC ts st k0
theorem A1v {S:Type}{l:Option (List (Nat×Bool))}{st:St}{k0:St->Option R}{k:R->Option S}:A4s l st (fun st=>(k0 st).bind k)=(A4s l st k0).bind k:=by
 cases l with
 |none=>rfl
 |some l=>exact xC l st k0
end
end Go.Proofs.YtkpfigikffphdaaGreatDoor
namespace Go.Proofs.YtkpfigikffphdaaGreatDoor
open Go.RowKit
structure L4 (M M':C4)(ex:Option Nat):Prop where
 os:M'.w.os=M.w.os
 tape:M'.w.tape=M.w.tape
 output:M'.w.output=M.w.output
 size:M.w.heap.size<=M'.w.heap.size
 block:∀b,b<M.w.heap.size->some b≠ex->M'.w.heap[b]? =M.w.heap[b]?/\M'.U b=M.U b
 le:M.le M'
theorem E2f {w:World}{b o:Nat}{u:Value}(h:w.cell? ⟨b,o,none⟩=some u):b<w.heap.size:=World.block_lt_of_cell? w _ h
theorem N6 {w:World}{b:Nat}{x:Obj}(h:w.heap[b]? =some x):b<w.heap.size:=(Bu.1 h).1
def eT (w:World)(b:Nat)(e:TypeId)(l:List Value):Prop:=∃tl:List Value,w.heap[b]? =some (.cells (l++tl).toArray e (0,0))
theorem eT.lt {w:World}{b:Nat}{e:TypeId}{l:List Value}(h:eT w b e l):b<w.heap.size:=let⟨_,k⟩:=h;N6 k
theorem eT.of_eq {w w':World}{b:Nat}{e:TypeId}{l:List Value}(h:eT w b e l)(k:w'.heap[b]? =w.heap[b]?):eT w' b e l:=let⟨tl,q⟩:=h;⟨tl,k.trans q⟩
theorem eT.cell {w:World}{b:Nat}{e:TypeId}{l:List Value}(h:eT w b e l){j:Nat}{u:Value}(hu:l[j]? =some u):w.cell? ⟨b,j,none⟩=some u:=by
 obtain⟨tl,k2⟩:=h;rw[cell_of_row _ _ _ (l++tl).toArray e (0,0) k2];have hlt:=(Aj.1 hu).1;simp only[List.getElem?_toArray];rw[List.getElem?_append_left hlt];exact hu
theorem eT.full {w:World}{b:Nat}{e:TypeId}{arr:Array Value}(h:w.heap[b]? =some (.cells arr e (0,0))):eT w b e arr.toList:=⟨[],by simpa using h⟩
theorem L4.mk0 {M M':C4}(hb:Below M.w.heap.size M.w M'.w)(hU:∀b,b<M.w.heap.size->M'.U b=M.U b)(hy:M'.y=M.y:=by rfl):L4 M M' none :=
 ⟨hb.os,hb.tape,hb.output,hb.size,fun b h _=>⟨hb.block b h,hU b h⟩,⟨fun b o u h1 h2=>by
  have:=E2f h1
  exact⟨(hb.cell (p:=⟨b,o,none⟩) this).trans h1,by rw[hU b this];exact h2⟩,hy,fun b k ⟨arr,e,h1,h2⟩=>⟨arr,e,(hb.block b (Bu.1 h1).1).trans h1,h2⟩⟩⟩
theorem L4.refl (M:C4):L4 M M none:=⟨rfl,rfl,rfl,Ak _,fun _ _ _=>⟨rfl,rfl⟩,M.le_refl⟩
theorem L4.world {M:C4}{w':World}(hb:Below M.w.heap.size M.w w'):L4 M ⟨w',M.U,M.y⟩ none:=L4.mk0 hb fun _ _=>rfl
structure H8 (M M':C4)(ex:Nat->Prop):Prop where
 os:M'.w.os=M.w.os
 tape:M'.w.tape=M.w.tape
 output:M'.w.output=M.w.output
 size:M.w.heap.size<=M'.w.heap.size
 block:∀b,b<M.w.heap.size->¬ex b->M'.w.heap[b]? =M.w.heap[b]?/\M'.U b=M.U b
 le:M.le M'
theorem L4.x {M M':C4}{ex:Option Nat}(h:L4 M M' ex):H8 M M' fun b=>some b=ex:=⟨h.os,h.tape,h.output,h.size,fun b hb he=>h.block b hb he,h.le⟩
theorem H8.refl (M:C4)(ex:Nat->Prop):H8 M M ex:=⟨rfl,rfl,rfl,Ak _,fun _ _ _=>⟨rfl,rfl⟩,M.le_refl⟩
theorem H8.trans {A B C:C4}{ex ey:Nat->Prop}(h:H8 A B ex)(k:H8 B C ey)(he:∀b,b<A.w.heap.size->ey b->ex b):H8 A C ex :=
 ⟨k.os.trans h.os,k.tape.trans h.tape,k.output.trans h.output,Aw h.size k.size,fun b hb hn=>by
  obtain⟨h1,h2⟩:=h.block b hb hn;obtain⟨k1,k2⟩:=k.block b (As hb h.size) (fun e=>hn (he b hb e))
  exact⟨k1.trans h1,k2.trans h2⟩,C4.le_trans h.le k.le⟩
theorem H8.weaken {M M':C4}{ex ex':Nat->Prop}(h:H8 M M' ex)(he:∀b,ex b->ex' b):H8 M M' ex':=⟨h.os,h.tape,h.output,h.size,fun b hb hn=>h.block b hb (fun e=>hn (he b e)),h.le⟩
theorem H8.none {M M':C4}{ex:Nat->Prop}(h:H8 M M' ex)(he:∀b,¬ex b):L4 M M' none:=⟨h.os,h.tape,h.output,h.size,fun b hb _=>h.block b hb (he b),h.le⟩
def yN (v:Value):Prop:=∃A n,v=.slice A n n
structure bO (M:C4)(g sz:Nat)(v:Value):Prop where
 ex:∃n cap cur e,v=.slice (some ⟨g,0,none⟩) n cap/\M.w.heap[g]? =some (.cells cur e (0,0))/\n<=cap/\cap<=maxLen/\cur.size=cap * sz/\M.U g=n * sz
def N1 (M:C4)(κ:Nat->Option Nat)(x:PV)(c:Nat)(v:Value):Prop :=
 c=0\/∃nl sz n cells,x=.sl nl sz n cells/\(yN v\/(2<=c/\∃g,κ c=some g/\bO M g sz v))
theorem bO.lt {M:C4}{g sz:Nat}{v:Value}(h:bO M g sz v):g<M.w.heap.size:=by
 obtain⟨n,cap,cur,e,_,h,_⟩:=h.ex;exact N6 h
theorem bO.move {M M':C4}{ex:Option Nat}(hm:L4 M M' ex){g sz:Nat}{v:Value}(h:bO M g sz v)(hg:some g≠ex):bO M' g sz v:=by
 obtain⟨n,cap,cur,e,h1,h2,h3,h4,h5,h6⟩:=h.ex;obtain⟨k1,k2⟩:=hm.block g (N6 h2) hg;exact⟨n,cap,cur,e,h1,k1.trans h2,h3,h4,h5,k2.trans h6⟩
theorem N1.move {M M':C4}{ex:Option Nat}(hm:L4 M M' ex){κ:Nat->Option Nat}{x:PV}{c:Nat}{v:Value}(h:N1 M κ x c v)(hg:∀g,κ c=some g->some g≠ex):N1 M' κ x c v:=by
 rcases h with h|⟨nl,sz,n,cells,hx,h⟩
 ·exact .inl h
 ·refine .inr ⟨nl,sz,n,cells,hx,?_⟩;rcases h with h|⟨hc,g,hk,ho⟩
  ·exact .inl h
  ·exact .inr ⟨hc,g,hk,ho.move hm (hg g hk)⟩
def J6 (M:C4)(β κ:Nat->Option Nat)(cs:List TV)(arr:List Value):Prop :=
 cs.length=arr.length/\∀(j:Nat) (x:TV),cs[j]? =some x->∃u,arr[j]? =some u/\u.oneCell'=true/\C1 M β x.1 u/\N1 M κ x.1 x.2 u
theorem J6.move {M M':C4}{ex:Option Nat}(hm:L4 M M' ex){β β' κ:Nat->Option Nat}(hb:∀id b,β id=some b->β' id=some b){cs:List TV}{arr:List Value}(h:J6 M β κ cs arr)(hg:∀c g,κ c=some g->some g≠ex):J6 M' β' κ cs arr :=
 ⟨h.1,fun j x hx=>let⟨u,h1,h2,h3,h4⟩:=h.2 j x hx;⟨u,h1,h2,h3.mono hm.le hb,h4.move hm (hg _)⟩⟩
theorem J6.beta {M:C4}{β β' κ:Nat->Option Nat}(hb:∀id b,β id=some b->β' id=some b){cs:List TV}{arr:List Value}(h:J6 M β κ cs arr):J6 M β' κ cs arr :=
 ⟨h.1,fun j x hx=>let⟨u,h1,h2,h3,h4⟩:=h.2 j x hx;⟨u,h1,h2,h3.mono M.le_refl hb,h4⟩⟩
theorem J6.rels {M:C4}{β κ:Nat->Option Nat}{cs:List TV}{arr:List Value}(h:J6 M β κ cs arr):B9 M β (cs.map (·.1)) arr :=
 B9.of_get (by simpa using h.1) fun j x u hx hu=>by
  rw[Az]at hx;obtain⟨y,hy,rfl⟩:=Am.1 hx;obtain⟨v,h1,_,h3,_⟩:=h.2 j y hy;rw[hu]at h1;injection h1 with h1;rw[h1];exact h3
theorem J6.one {M:C4}{β κ:Nat->Option Nat}{cs:List TV}{arr:List Value}(h:J6 M β κ cs arr):∀u∈arr,u.oneCell'=true:=by
 intro u hu;obtain⟨j,hj⟩:=List.getElem?_of_mem hu
 have hlt:j<cs.length:=by rw[h.1];exact(Aj.1 hj).1
 obtain⟨v,h1,h2,_⟩:=h.2 j cs[j] (Ag hlt);rw[hj]at h1;injection h1 with h1;rw[h1];exact h2
theorem J6.rel {M:C4}{β κ:Nat->Option Nat}:∀{cs:List TV} {arr:List Value},(cs.all fun x=>x.1.data)=true->J6 M β κ cs arr->D7 M (cs.map (·.1)) arr
 |[],arr,_,h=>by
  have:=h.1
  cases arr with
  |nil=>rfl
  |cons a l=>simp at this
 |x::cs,[],_,h=>by have:=h.1;simp at this
 |x::cs,u::arr,hd,h=>by
  simp only[Ci,Ae]at hd;obtain⟨v,h1,h2,h3,_⟩:=h.2 0 x rfl;simp at h1;subst h1;exact⟨u,arr,rfl,h2,h3.data hd.1,J6.rel hd.2 ⟨by have:=h.1;simpa using this,fun j y hy=>h.2 (j+1) y hy⟩⟩
theorem J6.of_rels {M:C4}{β κ:Nat->Option Nat}{xs:List PV}{arr:List Value}(h:B9 M β xs arr)(h1:∀u∈arr,u.oneCell'=true):J6 M β κ (xs.map fun x=>(x,0)) arr :=
 ⟨by simp[h.length],fun j x hx=>by
  rw[Az]at hx;obtain⟨y,hy,rfl⟩:=Am.1 hx;obtain⟨u,k1,k2⟩:=h.get hy
  exact⟨u,k1,h1 u (List.mem_of_getElem? k1),k2,.inl rfl⟩⟩
theorem D7.rels {M:C4}{β:Nat->Option Nat}:∀{xs:List PV} {vs:List Value},D7 M xs vs->B9 M β xs vs
 |[],vs,h=>by simp only[D7]at h;subst h;simp only[B9]
 |x::xs,vs,h=>by
  simp only[D7]at h;obtain⟨u,us,rfl,_,h1,h2⟩:=h;simp only[B9];exact⟨u,us,rfl,C1.of_data h1,D7.rels h2⟩
theorem J6.of_rel {M:C4}{β κ:Nat->Option Nat}{xs:List PV}{arr:List Value}(h:D7 M xs arr):J6 M β κ (xs.map fun x=>(x,0)) arr:=J6.of_rels h.rels h.one
theorem B7.tup {M:C4}{xs:List PV}{v:Value}(h:B7 M (.tuple xs) v):v.oneCell'=false:=by
 simp only[B7]at h;obtain⟨vs,rfl,_⟩:=h;rfl
def Y8 (M:C4)(β κ:Nat->Option Nat)(cs:List TV)(arr:List Value):Prop:=J6 M β κ cs arr\/∃xs,cs=[(.tuple xs,0)]/\D7 M xs arr
theorem Y8.move {M M':C4}{ex:Option Nat}(hm:L4 M M' ex){β β' κ:Nat->Option Nat}(hb:∀id b,β id=some b->β' id=some b){cs:List TV}{arr:List Value}(h:Y8 M β κ cs arr)(hg:∀c g,κ c=some g->some g≠ex):Y8 M' β' κ cs arr :=
 h.imp (fun h=>h.move hm hb hg) fun⟨xs,e,h⟩=>⟨xs,e,D7.mono hm.le _ _ h⟩
theorem Y8.beta {M:C4}{β β' κ:Nat->Option Nat}(hb:∀id b,β id=some b->β' id=some b){cs:List TV}{arr:List Value}(h:Y8 M β κ cs arr):Y8 M β' κ cs arr :=
 h.imp (fun h=>h.beta hb) id
theorem Y8.cells {M:C4}{β κ:Nat->Option Nat}{cs:List TV}{arr:List Value}(h:Y8 M β κ cs arr)(ha:oG cs=none):J6 M β κ cs arr:=by
 rcases h with h|⟨xs,rfl,_⟩
 ·exact h
 ·cases ha
theorem C4i {cs:List TV}{xs:List PV}(ha:oG cs=some xs):∃c,cs=[(.tuple xs,c)]:=by
 match cs,ha with
 |[(x,c)],ha =>
  cases x<;>simp only[oG,E73,reduceCtorEq,Ah]at ha;subst ha;exact⟨c,rfl⟩
theorem Y8.arr {M:C4}{β κ:Nat->Option Nat}{cs:List TV}{arr:List Value}{xs:List PV}(h:Y8 M β κ cs arr)(ha:oG cs=some xs):D7 M xs arr:=by
 obtain⟨c,rfl⟩:=C4i ha;rcases h with h|⟨ys,e,h⟩
 ·obtain⟨u,_,h2,h3,_⟩:=h.2 0 _ rfl;rw[B7.tup (show B7 M (.tuple xs) u from h3)]at h2
  cases h2
 ·injection e with e;injection e with e;injection e with e;rw[e];exact h
def BsK (M:C4)(β:Nat->Option Nat)(cs:List PV)(arr:List Value):Prop:=(B9 M β cs arr/\∀u∈arr,u.oneCell'=true)\/∃xs,cs=[.tuple xs]/\D7 M xs arr
theorem Y8.bs {M:C4}{β κ:Nat->Option Nat}{cs:List TV}{arr:List Value}(h:Y8 M β κ cs arr):BsK M β (cs.map (·.1)) arr :=
 h.imp (fun h=>⟨h.rels,h.one⟩) fun⟨xs,e,h⟩=>⟨xs,by rw[e];rfl,h⟩
theorem Y8.of_bs {M:C4}{β κ:Nat->Option Nat}{xs:List PV}{arr:List Value}(h:BsK M β xs arr):Y8 M β κ (xs.map fun x=>(x,0)) arr :=
 h.imp (fun h=>J6.of_rels h.1 h.2) fun⟨ys,e,h⟩=>⟨ys,by rw[e];rfl,h⟩
theorem BsK.map {M M':C4}{β β':Nat->Option Nat}{f:List PV->Option (List PV)}{xs ys:List PV}{arr:List Value}(h:BsK M β xs arr)(hf:f xs=some ys)(h1:∀vs,B9 M β xs vs->B9 M' β' ys vs)(h2:∀zs,xs=[.tuple zs]->ys=xs)(h3:∀zs,D7 M zs arr->D7 M' zs arr):BsK M' β' ys arr :=
 h.imp (fun h=>⟨h1 _ h.1,h.2⟩) fun⟨zs,e,h⟩=>⟨zs,(h2 zs e).trans e,h3 _ h⟩
structure Cx where
 M0:C4
 fp:Nat->Prop
 nl:Nat
 np:Nat
 lb:Nat->Option Nat
 nlp:nl<=np
 J:kC->C4->(Nat->Prop)->Prop
 stab:∀{o:kC} {M M':C4} {f:Nat->Prop},J o M f->(∀b,f b->M'.w.heap[b]? =M.w.heap[b]?/\M'.U b=M.U b)->M.le M'->M.w.heap.size<=M'.w.heap.size->J o M' f
 ds0:List Deferred
def Cx.low (X:Cx)(g:Nat):Prop:=X.M0.w.heap.size<=g\/X.fp g
def Cx.lone (M0:C4)(fp:Nat->Prop):Cx:=⟨M0,fp,0,0,fun _=>none,Ak _,fun _ _ f=>∀b,¬f b,fun h _ _ _=>h,[]⟩
structure InvB (NG:Nat)(X:Cx)(st:St)(a:Act)(M:C4)(β κ:Nat->Option Nat):Prop where
 mv:H8 X.M0 M X.fp
 ng:NG<=X.M0.w.heap.size
 fpng:∀b,X.fp b->NG<=b
 len:st.ρ.length=a.tmps.size
 slot:∀(t:Nat) (x:TV),st.ρ[t]? =some x->∃v,a.tmps[t]? =some v/\C1 M β x.1 v/\N1 M κ x.1 x.2 v
 box:∀(id b:Nat),β id=some b->∃cs arr e,st.bx[id]? =some (some cs)/\eT M.w b e arr/\Y8 M β κ cs arr/\M.U b=0/\X.low b
 alive:∀(id:Nat) (cs:List TV),st.bx[id]? =some (some cs)->∃b,β id=some b
 binj:∀id id' b,β id=some b->β id'=some b->id=id'
 kinj:∀c c' g,κ c=some g->κ c'=some g->c=c'
 kbox:∀c g id b,κ c=some g->β id=some b->g≠b
 klow:∀c g,κ c=some g->X.low g
 khigh:∀c g,κ c=some g->g<M.w.heap.size
def eO (D:Nat):Deferred:={target:=.collected D,args:=#[]}
def fB (d0:List Deferred)(Ds:List Nat)(ds:List Deferred):Prop:=∃A B,Ds=A++B/\ds=A.map eO++(d0++B.map eO)
theorem fB.nil:fB [] [] []:=⟨[],[],rfl,rfl⟩
theorem fB.cons {d0:List Deferred}{Ds:List Nat}{ds:List Deferred}(h:fB d0 Ds ds)(D:Nat):fB d0 (D::Ds) (eO D::ds):=by
 obtain⟨A,B,rfl,rfl⟩:=h;exact⟨D::A,B,rfl,rfl⟩
structure C33 (X:Cx)(ds:List Deferred)(M:C4)(f f0:Nat->Prop):Prop where
 ex:∃Ds:List Nat,fB X.ds0 Ds ds/\Ds.Nodup/\∀D∈Ds,f D/\¬f0 D/\M.w.heap[D]? =some (.deferred (some []))/\X.M0.w.heap.size<=D
structure rY (X:Cx)(st:St)(ds:List Deferred)(M:C4)(β κ:Nat->Option Nat):Prop where
 lent:∀id b,β id=some b->(∃j,j<X.np/\id=st.ρ.length+j/\X.lb j=some b)\/(X.M0.w.heap.size<=b/\∀j,j<X.np->id≠st.ρ.length+j)
 room:0<X.np->st.ρ.length+X.np<=st.bx.length
 ex:∃f f0:Nat->Prop,X.J st.out M f0/\(∀b,f0 b->f b)/\C33 X ds M f f0/\(∀b,f b->b<M.w.heap.size/\X.low b)/\(∀id b,β id=some b->¬f b)/\(∀c g,κ c=some g->¬f g)
structure I0 (NG:Nat)(X:Cx)(st:St)(a:Act)(M:C4)(β κ:Nat->Option Nat):Prop extends InvB NG X st a M β κ where
 out:rY X st a.defers M β κ
theorem rY.next {X:Cx}{st st':St}{ds:List Deferred}{M M':C4}{β κ β' κ':Nat->Option Nat}{ex:Nat->Prop}(h:rY X st ds M β κ)(hρ:st'.ρ.length=st.ρ.length)(hbx:st.bx.length<=st'.bx.length)(ho:st'.out=st.out)(hM:X.M0.w.heap.size<=M.w.heap.size)
  (hm:H8 M M' ex) (hex:∀b,ex b->(∃id,β id=some b)\/(∃c,κ c=some b))
  (hβ:∀id b,β' id=some b->β id=some b\/(M.w.heap.size<=b/\∀j,j<X.np->id≠st.ρ.length+j)) (hκ:∀c b,κ' c=some b->(∃i,β i=some b)\/(∃c,κ c=some b)\/M.w.heap.size<=b):rY X st' ds M' β' κ':=by
 obtain⟨f,f0,h1,h01,hmk,h2,h3,h4⟩:=h.ex
 have hne:∀b,f b->¬ex b:=fun b hb he=>by
  rcases hex b he with⟨id,hi⟩|⟨c,hc⟩
  ·exact h3 id b hi hb
  ·exact h4 c b hc hb
 refine⟨fun id b hb=>?_,fun h0=>by rw[hρ];exact Aw (h.room h0) hbx,f,f0,?_,h01,⟨?_⟩,fun b hb=>⟨As (h2 b hb).1 hm.size,(h2 b hb).2⟩,fun id b hb hf=>?_,fun c g hg hf=>?_⟩
 ·rw[hρ];rcases hβ id b hb with h' |⟨h',h''⟩
  ·exact h.lent id b h'
  ·exact .inr ⟨Aw hM h',h''⟩
 ·rw[ho];exact X.stab h1 (fun b hb=>hm.block b (h2 b (h01 b hb)).1 (hne b (h01 b hb))) hm.le hm.size
 ·obtain⟨Ds,k1,k2,k3⟩:=hmk.ex;exact⟨Ds,k1,k2,fun D hD=>⟨(k3 D hD).1,(k3 D hD).2.1,(hm.block D (h2 D (k3 D hD).1).1 (hne D (k3 D hD).1)).1.trans (k3 D hD).2.2.1,(k3 D hD).2.2.2⟩⟩
 ·rcases hβ id b hb with h' |⟨h',_⟩
  ·exact h3 id b h' hf
  ·have:=(h2 b hf).1;omega
 ·rcases hκ c g hg with⟨i,hi⟩|⟨c,hc⟩|hl
  ·exact h3 i g hi hf
  ·exact h4 c g hc hf
  ·have:=(h2 g hf).1;omega
theorem rY.next2 {X:Cx}{st st':St}{ds:List Deferred}{M M':C4}{β κ β' κ':Nat->Option Nat}{ex:Nat->Prop}(h:rY X st ds M β κ)(hρ:st'.ρ.length=st.ρ.length)(hbx:st.bx.length<=st'.bx.length)(ho:st'.out=st.out)(hM:X.M0.w.heap.size<=M.w.heap.size)
  (hm:H8 M M' ex) (hex:∀b,ex b->(∃id,β id=some b)\/(∃c,κ c=some b))
  (hβ:∀id b,β' id=some b->β id=some b\/((∃i,β i=some b/\X.M0.w.heap.size<=b)\/M.w.heap.size<=b)/\∀j,j<X.np->id≠st.ρ.length+j) (hκ:∀c b,κ' c=some b->(∃i,β i=some b)\/(∃c,κ c=some b)\/M.w.heap.size<=b):rY X st' ds M' β' κ':=by
 obtain⟨f,f0,h1,h01,hmk,h2,h3,h4⟩:=h.ex
 have hne:∀b,f b->¬ex b:=fun b hb he=>by
  rcases hex b he with⟨id,hi⟩|⟨c,hc⟩
  ·exact h3 id b hi hb
  ·exact h4 c b hc hb
 refine⟨fun id b hb=>?_,fun h0=>by rw[hρ];exact Aw (h.room h0) hbx,f,f0,?_,h01,⟨?_⟩,fun b hb=>⟨As (h2 b hb).1 hm.size,(h2 b hb).2⟩,fun id b hb hf=>?_,fun c g hg hf=>?_⟩
 ·rw[hρ];rcases hβ id b hb with h' |⟨⟨_,_,h'⟩|h',h''⟩
  ·exact h.lent id b h'
  ·exact .inr ⟨h',h''⟩
  ·exact .inr ⟨Aw hM h',h''⟩
 ·rw[ho];exact X.stab h1 (fun b hb=>hm.block b (h2 b (h01 b hb)).1 (hne b (h01 b hb))) hm.le hm.size
 ·obtain⟨Ds,k1,k2,k3⟩:=hmk.ex;exact⟨Ds,k1,k2,fun D hD=>⟨(k3 D hD).1,(k3 D hD).2.1,(hm.block D (h2 D (k3 D hD).1).1 (hne D (k3 D hD).1)).1.trans (k3 D hD).2.2.1,(k3 D hD).2.2.2⟩⟩
 ·rcases hβ id b hb with h' |⟨⟨i,hi,_⟩|h',_⟩
  ·exact h3 id b h' hf
  ·exact h3 i b hi hf
  ·have:=(h2 b hf).1;omega
 ·rcases hκ c g hg with⟨i,hi⟩|⟨c,hc⟩|hl
  ·exact h3 i g hi hf
  ·exact h4 c g hc hf
  ·have:=(h2 g hf).1;omega
section
variable {NG:Nat} {X:Cx} {st:St} {a:Act} {M:C4} {β κ:Nat->Option Nat}
theorem InvB.size (h:InvB NG X st a M β κ):X.M0.w.heap.size<=M.w.heap.size:=h.mv.size
theorem InvB.le0 (h:InvB NG X st a M β κ):X.M0.le M:=h.mv.le
theorem InvB.lowng (h:InvB NG X st a M β κ){g:Nat}(hg:X.low g):NG<=g:=by
 rcases hg with hg|hg
 ·exact Aw h.ng hg
 ·exact h.fpng g hg
theorem InvB.grow {M':C4}(h:InvB NG X st a M β κ)(hm:L4 M M' none):InvB NG X st a M' β κ where
 mv:=h.mv.trans hm.x (fun b _ e=>by cases e)
 ng:=h.ng
 fpng:=h.fpng
 len:=h.len
 slot:=fun t x hx=>let⟨v,h1,h2,h3⟩:=h.slot t x hx;⟨v,h1,h2.mono hm.le (fun _ _ h=>h),h3.move hm (fun _ _=>by simp)⟩
 box:=fun id b hb=>by
  obtain⟨cs,arr,e,h1,h2,h3,h4,h5⟩:=h.box id b hb;obtain⟨k1,k2⟩:=hm.block b h2.lt (by simp);exact⟨cs,arr,e,h1,h2.of_eq k1,h3.move hm (fun _ _ h=>h) (fun _ _ _=>by simp),k2.trans h4,h5⟩
 alive:=h.alive
 binj:=h.binj
 kinj:=h.kinj
 kbox:=h.kbox
 klow:=h.klow
 khigh:=fun c g hk=>As (h.khigh c g hk) hm.size
theorem I0.grow {M':C4}(h:I0 NG X st a M β κ)(hm:L4 M M' none):I0 NG X st a M' β κ :=
 ⟨h.toInvB.grow hm,h.out.next rfl (Ak _) rfl h.size hm.x (fun b e=>by cases e) (fun id b hb=>.inl hb) (fun c g hg=>.inr (.inl ⟨c,hg⟩))⟩
end
theorem uH (a:Act)(d:Option Tmp)(v:Value):(a.put d v).defers=a.defers/\(a.put d v).tmps.size=a.tmps.size:=by
 cases d<;>simp[Act.put]
theorem X7 (d:Option Tmp)(x:TV)(st:St):(O4 d x st).bx=st.bx:=by cases d<;>rfl
theorem fT (d:Option Tmp)(x:TV)(st:St):(O4 d x st).ρ.length=st.ρ.length:=by cases d<;>simp[O4]
theorem InvB.put {NG:Nat}{X:Cx}{st:St}{a:Act}{M:C4}{β κ:Nat->Option Nat}(h:InvB NG X st a M β κ)(d:Option Tmp){x:TV}{v:Value}(hx:C1 M β x.1 v)(ht:N1 M κ x.1 x.2 v) :
  InvB NG X (O4 d x st) (a.put d v) M β κ where
 mv:=h.mv
 ng:=h.ng
 fpng:=h.fpng
 len:=by rw[fT,(uH a d v).2];exact h.len
 slot :=by
  intro t y hy
  cases d with
  |none=>exact h.slot t y hy
  |some d =>
   simp only[O4,Act.put]at hy ⊢
   by_cases hdt:d=t
   ·subst hdt
    have hlt:d<st.ρ.length:=by
     rcases Nat.lt_or_ge d st.ρ.length with h' |h'
     ·exact h'
     ·rw[List.getElem?_eq_none (by simpa using h')]at hy;cases hy
    rw[List.getElem?_set_self hlt]at hy;injection hy with hy;subst hy;exact⟨v,by rw[Array.getElem?_setIfInBounds_self_of_lt (by rw[<-h.len];exact hlt)],hx,ht⟩
   ·rw[List.getElem?_set_ne hdt]at hy;obtain⟨u,h1,h2⟩:=h.slot t y hy;exact⟨u,by rw[Array.getElem?_setIfInBounds_ne hdt];exact h1,h2⟩
 box:=fun id b hb=>by rw[X7];exact h.box id b hb
 alive:=fun id cs hc=>by rw[X7]at hc;exact h.alive id cs hc
 binj:=h.binj
 kinj:=h.kinj
 kbox:=h.kbox
 klow:=h.klow
 khigh:=h.khigh
theorem B2w (d:Option Tmp)(x:TV)(st:St):(O4 d x st).out=st.out:=by cases d<;>rfl
theorem I0.put {NG:Nat}{X:Cx}{st:St}{a:Act}{M:C4}{β κ:Nat->Option Nat}(h:I0 NG X st a M β κ)(d:Option Tmp){x:TV}{v:Value}(hx:C1 M β x.1 v)(ht:N1 M κ x.1 x.2 v) :
 I0 NG X (O4 d x st) (a.put d v) M β κ:=⟨h.toInvB.put d hx ht,by rw[(uH a d v).1];exact h.out.next (fT d x st) (by rw[X7];exact Ak _) (B2w d x st) h.size (H8.refl M fun _=>False) (fun _ h=>h.elim) (fun id b hb=>.inl hb) (fun c g hg=>.inr (.inl ⟨c,hg⟩))⟩
def gO (en:K6)(M:C4):Prop:=∀g cs,en.G g=some cs->∃vs,D7 M cs vs/\T6 M g 0 vs
theorem gO.mono {en:K6}{M M':C4}(h:gO en M)(hm:M.le M'):gO en M':=fun g cs hg=>let⟨vs,h1,h2⟩:=h g cs hg;⟨vs,h1.mono hm,h2.mono hm⟩
theorem D7.mono' {M M':C4}(hm:M.le M'){xs:List PV}{vs:List Value}(h:D7 M xs vs):D7 M' xs vs:=D7.mono hm xs vs h
theorem C1.undef {M:C4}{β:Nat->Option Nat}{v:Value}:C1 M β .undef v:=trivial
theorem B67 (P:Program)(t:TypeId)(M:C4)(β κ:Nat->Option Nat)(v:Value):C1 M β (vA P t v).1 v/\N1 M κ (vA P t v).1 (vA P t v).2 v:=by
 cases v with
 |bool b=>exact⟨rfl,.inl rfl⟩
 |int k n=>exact⟨rfl,.inl rfl⟩
 |string s=>exact⟨by show Value.string s=.string ⟨s.data.toList.toArray⟩;simp,.inl rfl⟩
 |slice A n c =>
  cases A with
  |none =>
   simp only[vA];split
   ·rename_i h;obtain⟨rfl,rfl⟩:=h;refine⟨?_,.inr ⟨_,_,_,_,rfl,.inl ⟨none,0,rfl⟩⟩⟩;show B7 M (.sl (some true) _ 0 []) (.slice none 0 0);simp only[B7];exact⟨none,0,[],rfl,Ak _,Nat.zero_le _,by simp,by simp,by simp,rfl,.inl rfl⟩
   ·exact⟨trivial,.inl rfl⟩
  |some a=>exact⟨trivial,.inl rfl⟩
 |pointer a=>cases a with
  |none=>exact⟨rfl,.inl rfl⟩
  |some a=>exact⟨trivial,.inl rfl⟩
 |nilIface=>exact⟨rfl,.inl rfl⟩
 |nilFunc=>exact⟨rfl,.inl rfl⟩
 |_=>exact⟨trivial,.inl rfl⟩
theorem I0.ev {en:K6}{NG:Nat}{X:Cx}{st:St}{a:Act}{M:C4}{β κ:Nat->Option Nat}(h:I0 NG X st a M β κ)(hG:gO en X.M0)(t:TypeId)(x:Operand) :
  C1 M β (Go.Proofs.YtkpfigikffphdaaGreatDoor.ev en st t x).1 (a.eval x)/\N1 M κ (Go.Proofs.YtkpfigikffphdaaGreatDoor.ev en st t x).1 (Go.Proofs.YtkpfigikffphdaaGreatDoor.ev en st t x).2 (a.eval x):=by
 cases x with
 |tmp u =>
  simp only[Go.Proofs.YtkpfigikffphdaaGreatDoor.ev,Act.eval];rcases hu:st.ρ[u]? with _|y
  ·rw[List.getD,hu];exact⟨trivial,.inl rfl⟩
  ·obtain⟨v,h1,h2,h3⟩:=h.slot u y hu
   have e:a.tmps.getD u Go.undef=v:=by simp[h1]
   rw[List.getD,hu,e];exact⟨h2,h3⟩
 |const v=>exact B67 _ _ _ _ _ _
 |global g =>
  simp only[Go.Proofs.YtkpfigikffphdaaGreatDoor.ev,Act.eval];rcases hg:en.G g with _|cs
  ·exact⟨trivial,.inl rfl⟩
  ·obtain⟨vs,h1,h2⟩:=(hG.mono h.le0) g cs hg;exact⟨⟨g,0,vs,rfl,h1,h2⟩,.inl rfl⟩
 |func f =>
  simp only[Go.Proofs.YtkpfigikffphdaaGreatDoor.ev,Act.eval];split
  ·rename_i hlt;exact⟨⟨[],by simp[pD,hlt],rfl⟩,.inl rfl⟩
  ·exact⟨trivial,.inl rfl⟩
end Go.Proofs.YtkpfigikffphdaaGreatDoor
end
section
namespace Go.Proofs.YtkpfigikffphdaaGreatDoor
open Go.RowKit
def FR (ro:Option Nat):Fence:={Fence.wide with round:=ro}
theorem F5v (ro:Option Nat)(f:FuncId):(FR ro).fn f:=trivial
structure kJ (M:C4)(β:Nat->Option Nat)(NG:Nat)(bs:List (List PV)):Prop where
 box:∀(j:Nat) (cs:List PV),bs[j]? =some cs->∃b arr e,β j=some b/\eT M.w b e arr/\M.U b=0/\NG<=b/\BsK M β cs arr
 lt:∀j b,β j=some b->j<bs.length
 inj:∀i j b,β i=some b->β j=some b->i=j
structure YOK (P:Program)(NG:Nat)(W:World->Prop)(X:Cx)(k:Nat)(y:YFn):Prop where
 nl:X.nl=k
 call:∀(M:C4) (β:Nat->Option Nat) (bs:List (List PV)) (o:kC) (xs:List PV) (vs:List Value) (bs':List (List PV)) (o':kC) (b:Bool) (f:Nat->Prop),H8 X.M0 M X.fp->X.J o M f->(∀c,f c->c<M.w.heap.size/\X.low c)->
  kJ M β NG bs->bs.length=k->(∀j c,β j=some c->X.lb j=some c/\¬f c)->B9 M β xs vs->y.F bs o xs (R:=List (List PV)×kC×Bool) (fun b o v=>some (b,o,v))=some (bs',o',b)->
  ∃fn tmps assign body,(Instr.yield M.y.l vs.toArray).run P M.w=.ok (.round M.y.l fn tmps assign body) M.w/\RoundIn Fence.wide 0 P M.y.l fn tmps assign body M.w fun e w'=>e=.returned (.bool b)/\
   ∃U' f',H8 M ⟨w',U',M.y⟩ (fun c=>f c\/∃j,β j=some c)/\kJ ⟨w',U',M.y⟩ β NG bs'/\bs'.length=k/\X.J o' ⟨w',U',M.y⟩ f'/\∀c,f' c->(f c\/M.w.heap.size<=c)/\c<w'.heap.size
structure Amb (en:K6)(NG:Nat)(W:World->Prop)(X:Cx):Prop where
 w:W X.M0.w
 y:∀k y,en.Y=some (k,y)->YOK en.P NG W X k y
def rZ (en:K6)(NG:Nat)(W:World->Prop)(st:St)(o:Oper)(act:C7):Prop :=
 ∀(X:Cx) (a:Act) (M:C4) (β κ:Nat->Option Nat),I0 NG X st a M β κ->gO en X.M0->Amb en NG W X->
 ∀st',B0 act o.dst st=some st'->∀(ro:Option Nat) (next:Act->World->Prop) (Q:Exit->Act->World->Prop),
  (∀a' M' β' κ',I0 NG X st' a' M' β' κ'->next a' M'.w)->o.wpIn (FR ro) 0 en.P a M.w next Q
theorem qT {P:Program}{o:Oper}{ρ:Operand->Value}{w w':World}{n:Next}(h:(execOp ρ o).run P w=.ok n w')(hn:∀d,n≠.defer d):∀c,o.op≠.defer c:=by
 intro c hc;simp only[execOp,hc,Sem.run_bind]at h;rcases hr:(resolve ρ c o.type).run P w with⟨d,w1⟩|⟨e,w1⟩
 ·rw[hr]at h;simp at h;exact hn d h.1.symm
 ·rw[hr]at h;simp[Result.andThen]at h
theorem lN {P:Program}{o:Oper}{a:Act}{w w':World}{v:Value}{ro:Option Nat}{next:Act->World->Prop}{Q:Exit->Act->World->Prop}
  (h:(execOp a.eval o).run P w=.ok (.value v) w') (hn:next (a.put o.dst v) w'):o.wpIn (FR ro) 0 P a w next Q:=by
 refine⟨fun _ _=>trivial,?_⟩;rw[Oper.semAt_eq _ _ _ (qT h (by simp)),h];exact hn
theorem D9z {P:Program}{o:Oper}{a:Act}{w w':World}{ro:Option Nat}{next:Act->World->Prop}{Q:Exit->Act->World->Prop}
  (h:(execOp a.eval o).run P w=.ok .skip w') (hn:next (a.put o.dst undef) w'):o.wpIn (FR ro) 0 P a w next Q:=by
 refine⟨fun _ _=>trivial,?_⟩;rw[Oper.semAt_eq _ _ _ (qT h (by simp)),h];exact hn
theorem C9i {P:Program}{o:Oper}{a:Act}{w w':World}{f:FuncId}{args:Array Value}{ro:Option Nat}{next:Act->World->Prop}{Q:Exit->Act->World->Prop}
  (h:(execOp a.eval o).run P w=.ok (.enter f args) w') (hc:Calls P f args w' fun e w''=>∃v,e=.returned v/\next (a.put o.dst v) w''):o.wpIn (FR ro) 0 P a w next Q:=by
 refine⟨fun _ _=>trivial,?_⟩;rw[Oper.semAt_eq _ _ _ (qT h (by simp)),h];rw[Oper.uponIn_enter];refine⟨fun hd=>by simp[FR,Fence.wide]at hd,?_⟩;refine CallsIn.mono (show CallsIn Fence.wide (0-1) P f args w' _ from callsIn_wide.2 hc) ?_
 rintro e w'' ⟨v,rfl,h3⟩
 exact h3
section
variable {en:K6} {NG:Nat} {W:World->Prop} {st:St} {o:Oper}
theorem B0j {x:PV}{c:Nat}(h:∀(X:Cx) (a:Act) (M:C4) (β κ:Nat->Option Nat),I0 NG X st a M β κ->gO en X.M0->Amb en NG W X->
  ∃v M',(execOp a.eval o).run en.P M.w=.ok (.value v) M'.w/\L4 M M' none/\C1 M' β x v/\N1 M' κ x c v):rZ en NG W st o (.val x c):=by
 intro X a M β κ hI hG hW st' hst ro next Q hn;obtain⟨v,M',h1,h2,h3,h4⟩:=h X a M β κ hI hG hW;simp only[B0,K8,Aq,Ah]at hst;subst hst;exact lN h1 (hn _ M' β κ ((hI.grow h2).put o.dst h3 h4))
theorem C9 {x:PV}{c:Nat}(h:∀(X:Cx) (a:Act) (M:C4) (β κ:Nat->Option Nat),I0 NG X st a M β κ->gO en X.M0->Amb en NG W X->
  ∃v,(execOp a.eval o).run en.P M.w=.ok (.value v) M.w/\C1 M β x v/\N1 M κ x c v):rZ en NG W st o (.val x c) :=
 B0j fun X a M β κ hI hG hW=>let⟨v,h1,h2,h3⟩:=h X a M β κ hI hG hW;⟨v,M,h1,L4.refl M,h2,h3⟩
theorem M5 {M:C4}{β:Nat->Option Nat}{k:IntKind}{n:Int}{v:Value}(h:C1 M β (.int k n) v):v=.int k n:=h
theorem iW {M:C4}{β:Nat->Option Nat}{b:Bool}{v:Value}(h:C1 M β (.bool b) v):v=.bool b:=h
theorem dF {M:C4}{β:Nat->Option Nat}{s:List UInt8}{v:Value}(h:C1 M β (.str s) v):v=.string ⟨s.toArray⟩:=h
theorem C9d {x:Operand}(ho:o.op=.move x){act:C7}(h:A9 en st o some=some act):rZ en NG W st o act:=by
 simp only[A9,ho,Ah]at h;subst h;refine C9 fun X a M β κ hI hG _=>?_;obtain⟨h1,h2⟩:=hI.ev hG o.type x;refine⟨a.eval x,by simp[execOp,ho],h1,?_⟩;split
 ·exact h2
 ·exact .inl rfl
theorem B8m {x:Operand}(ho:o.op=.assign x){act:C7}(h:A9 en st o some=some act):rZ en NG W st o act:=by
 simp only[A9,ho,Ah]at h;subst h;refine C9 fun X a M β κ hI hG _=>?_;obtain⟨h1,h2⟩:=hI.ev hG o.type x;refine⟨a.eval x,by simp[execOp,ho],h1,?_⟩;split
 ·exact h2
 ·exact .inl rfl
theorem D4u {c x y:Operand}(ho:o.op=.pick c x y){act:C7}(h:A9 en st o some=some act):rZ en NG W st o act:=by
 simp only[A9,ho]at h;split at h
 ·rename_i cb hc
  have hcv:∀{X:Cx} {a:Act} {M:C4} {β κ:Nat->Option Nat},I0 NG X st a M β κ->gO en X.M0->a.eval c=.bool cb:=fun hI hG=>by
   have:=(hI.ev hG o.type c).1;rw[hc]at this;exact this
  have hrun:∀{X:Cx} {a:Act} {M:C4} {β κ:Nat->Option Nat},I0 NG X st a M β κ->gO en X.M0->(execOp a.eval o).run en.P M.w=.ok (.value (if cb then a.eval x else a.eval y)) M.w:=fun hI hG=>by
   simp[execOp,ho,hcv hI hG,asBool]
  split at h
  ·rename_i bx bY hx hy;simp only[Ah]at h;subst h;refine C9 fun X a M β κ hI hG _=>⟨_,hrun hI hG,?_,.inl rfl⟩;have h1:=(hI.ev hG o.type x).1;have h2:=(hI.ev hG o.type y).1;rw[hx]at h1;rw[hy]at h2;rw[iW h1,iW h2]
   cases cb<;>rfl
  ·cases cb
   ·simp only[cond_false,Ah]at h;subst h;refine C9 fun X a M β κ hI hG _=>⟨_,hrun hI hG,?_,.inl rfl⟩;exact(hI.ev hG o.type y).1
   ·simp only[cond_true,Ah]at h;subst h;refine C9 fun X a M β κ hI hG _=>⟨_,hrun hI hG,?_,.inl rfl⟩;exact(hI.ev hG o.type x).1
 ·cases h
theorem fD {P:Program} {w:World} {op:BinOp} {t:TypeId} {x y:Operand} {a b:Value} (h1:a=.nilIface->b=.nilIface->∃c,y=.const c) (h2:∀xs ys,a=.agg xs->b=.agg ys->False) :
  (eqGuard op t x y a b).run P w=.ok () w:=by
 unfold eqGuard
 cases op <;> first
  |rfl
  |(cases a<;>cases b<;>first
   |rfl
   |exact(h2 _ _ rfl rfl).elim
   |(obtain⟨c,rfl⟩:=h1 rfl rfl
     simp))
theorem E5w {P:Program} {w:World} {op:BinOp} {k:IntKind} {a b:Int} {v:PV} (h:C4n op k a b some=some v) (t:TypeId) (hs:op≠.shl) (hr:op≠.shr) :
  ∃u,(binOp op t (.int k a) (.int k b)).run P w=.ok u w/\∀M β,C1 M β v u:=by
 cases op<;>simp only [C4n,Ah]at h<;>first
  |(subst h;exact⟨_,by simp [binOp,Op.intArith,Op.intBits,Op.intCmp],fun _ _=>rfl⟩)
  |(rcases hb:(b ==0)with _ |_<;>simp only [hb,cond_true,cond_false,Ah,reduceCtorEq]at h
    subst h
    have hb':b≠0:=by simpa using hb
    exact⟨_,by simp [binOp,Op.intDiv,hb'],fun _ _=>rfl⟩)
  |exact(hs rfl).elim
  |exact(hr rfl).elim
theorem E3v {P:Program}{w:World}{op:BinOp}{a b:List UInt8}{v:PV}(h:C8e op a b some=some v)(t:TypeId) :
  ∃u,(binOp op t (.string ⟨a.toArray⟩) (.string ⟨b.toArray⟩)).run P w=.ok u w/\∀M β,C1 M β v u:=by
 cases op<;>simp only[C8e,Ah,reduceCtorEq]at h
 case add =>
  rcases hb:decide (a.length+b.length<=9223372036854775807)with _|_<;>simp only[hb,cond_true,cond_false,Ah,reduceCtorEq]at h;subst h
  have hb':a.length+b.length<=9223372036854775807:=by simpa using hb
  refine⟨.string ⟨(a++b).toArray⟩,?_,fun _ _=>rfl⟩
  have hs:¬((((⟨a.toArray⟩:ByteArray).size+(⟨b.toArray⟩:ByteArray).size:Nat):Int)>IntKind.i64.max):=by
   simp only[ByteArray.size,List.size_toArray,IntKind.max,IntKind.signed,IntKind.bits];simp;omega
  have he:(⟨a.toArray⟩:ByteArray)++(⟨b.toArray⟩:ByteArray)=⟨(a++b).toArray⟩:=by
   apply ByteArray.ext;simp[ByteArray.data_append]
  simp only[binOp,Op.stringOp,if_neg hs,Sem.run_pure,he]
 all_goals
  subst h;exact⟨_,by simp[binOp,Op.stringOp,bne],fun _ _=>rfl⟩
theorem C8 {P:Program}{t:TypeId}{d:TypeDesc}(h:P.underlying t=some d)(w:World):(underlying t).run P w=.ok d w:=run_underlying h w
theorem A56 {P:Program}{t:TypeId}(h:dH P t=true):∃e,P.underlying t=some (.slice e):=by
 unfold dH at h;split at h
 ·exact⟨_,by assumption⟩
 ·cases h
theorem B3x {P:Program}{t:TypeId}(h:B6k P t=true):∃e,P.underlying t=some (.pointer e):=by
 unfold B6k at h;split at h
 ·exact⟨_,by assumption⟩
 ·cases h
theorem A51 {P:Program}{t:TypeId}(h:lB P t=true):∃e,P.underlying t=some (.interface e):=by
 unfold lB at h;split at h
 ·exact⟨_,by assumption⟩
 ·cases h
theorem A8h {P:Program}{t:TypeId}(h:B0v P t=true):∃a b c,P.underlying t=some (.func a b c):=by
 unfold B0v at h;split at h
 ·exact⟨_,_,_,by assumption⟩
 ·cases h
theorem B15 {P:Program}{t:TypeId}(h:A8v P t=true):P.underlying t=some .bool:=by
 unfold A8v at h;split at h
 ·assumption
 ·cases h
theorem B4w (t:TypeId):∃d,∀x y,Op.equal t x y=Op.equalIn (d+1) t x y:=⟨9999,fun _ _=>rfl⟩
theorem F0u {P:Program}{w:World}{M:C4}{β:Nat->Option Nat}{t:TypeId}{x:PV}{a c:Value}{b:Bool}(hx:sT P t x c=some b)(hr:C1 M β x a) :
  (Op.equal t a c).run P w=.ok b w/\(a=.nilIface->∃c',Operand.const c=.const c')/\(∀xs,a≠.agg xs)/\(∀k n,a≠.int k n)/\(∀s,a≠.string s)/\(∀k n,a≠.float k n)/\(∀k n m,a≠.complex k n m):=by
 obtain⟨d,hd⟩:=B4w t;rw[hd];unfold sT at hx;split at hx
 ·split at hx
  ·rename_i ht;obtain⟨e,ht⟩:=A56 ht;split at hx
   ·obtain⟨A,c',vs,rfl,_,_,h4,_⟩:=(show B7 M _ _ from hr);have:=h4 b hx;refine⟨?_,by simp,by simp,by simp,by simp,by simp,by simp⟩
    cases A<;>simp[Op.equalIn,C8 ht]at this ⊢ <;> exact this
   ·injection hx with hx;subst hx;obtain⟨b',c',_,rfl,_⟩:=hr;exact⟨by simp[Op.equalIn,C8 ht],by simp,by simp,by simp,by simp,by simp,by simp⟩
   ·cases hx
  ·cases hx
 ·split at hx
  ·rename_i ht;obtain⟨e,ht⟩:=B3x ht;split at hx<;>simp only[Ah,reduceCtorEq]at hx<;>subst hx
   ·obtain rfl:a=.pointer none:=hr;exact⟨by simp[Op.equalIn,C8 ht],by simp,by simp,by simp,by simp,by simp,by simp⟩
   ·obtain⟨ad,rfl⟩:∃ad,a=.pointer (some ad):=hr;exact⟨by simp[Op.equalIn,C8 ht],by simp,by simp,by simp,by simp,by simp,by simp⟩
   ·obtain⟨b',_,rfl⟩:=hr;exact⟨by simp[Op.equalIn,C8 ht],by simp,by simp,by simp,by simp,by simp,by simp⟩
   ·obtain⟨b',_,_,rfl,_⟩:=(show B7 M (.eptr _) a from hr);exact⟨by simp[Op.equalIn,C8 ht],by simp,by simp,by simp,by simp,by simp,by simp⟩
   ·obtain⟨b',_,rfl⟩:=hr;exact⟨by simp[Op.equalIn,C8 ht],by simp,by simp,by simp,by simp,by simp,by simp⟩
  ·cases hx
 ·split at hx
  ·rename_i ht;obtain⟨e,ht⟩:=A51 ht;split at hx<;>simp only[Ah,reduceCtorEq]at hx<;>subst hx
   ·obtain rfl:a=.nilIface:=hr;exact⟨by simp[Op.equalIn,C8 ht],by simp,by simp,by simp,by simp,by simp,by simp⟩
   ·obtain⟨u,rfl,_⟩:=(show B7 M (.iface _ _) a from hr);exact⟨by simp[Op.equalIn,C8 ht],by simp,by simp,by simp,by simp,by simp,by simp⟩
  ·cases hx
 ·split at hx
  ·rename_i ht;obtain⟨e,e',e'',ht⟩:=A8h ht;split at hx<;>simp only[Ah,reduceCtorEq]at hx<;>subst hx
   ·obtain rfl:a=.nilFunc:=hr;exact⟨by simp[Op.equalIn,C8 ht],by simp,by simp,by simp,by simp,by simp,by simp⟩
   ·obtain⟨vs,rfl,_⟩:=hr;unfold pD;split<;>exact⟨by simp[Op.equalIn,C8 ht],by simp,by simp,by simp,by simp,by simp,by simp⟩
   ·obtain rfl:=hr;exact⟨by simp[Op.equalIn,C8 ht],by simp,by simp,by simp,by simp,by simp,by simp⟩
  ·cases hx
 ·cases hx
end
end Go.Proofs.YtkpfigikffphdaaGreatDoor
namespace Go.Proofs.YtkpfigikffphdaaGreatDoor
open Go.RowKit
theorem A6 {α β:Type}{x:Option α}{f:α->Option β}{r:β}(h:x.bind f=some r):∃a,x=some a/\f a=some r:=by
 cases x with
 |none=>cases h
 |some a=>exact⟨a,rfl,h⟩
theorem B8 {α:Type}{b:Bool}{x:Option α}{r:α}(h:(bif b then x else none)=some r):b=true/\x=some r:=by
 cases b
 ·cases h
 ·exact⟨rfl,h⟩
theorem B2r {α:Type}{b:Bool}{x:Option α}{r:α}(h:(bif b then none else x)=some r):b=false/\x=some r:=by
 cases b
 ·exact⟨rfl,h⟩
 ·cases h
theorem A5 {α:Type}{c:Prop}[Decidable c]{x:Option α}{r:α}(h:(if c then x else none)=some r):c/\x=some r:=by
 split at h
 ·exact⟨by assumption,h⟩
 ·cases h
theorem vM {α:Type}{c:Prop}[Decidable c]{x:Option α}{r:α}(h:(if c then none else x)=some r):¬c/\x=some r:=by
 split at h
 ·cases h
 ·exact⟨by assumption,h⟩
theorem uB {P:Program}{e:TypeId}{w:World}{i:TypeInfo}(h:P.info? e=some i):(sizeOf e).run P w=.ok (F9 P e) w:=by
 simp[sizeOf,typeInfo,h,F9]
theorem aR {P:Program}{t:TypeId}{d:TypeDesc}(h:P.underlying t=some d):(P.info? t).isSome=true:=by
 unfold Program.underlying at h
 cases hi:P.info? t with
 |none=>rw[hi]at h;cases h
 |some i=>rfl
theorem L3 {P:Program}{e:TypeId}(h:(P.info? e).isSome=true)(w:World):(sizeOf e).run P w=.ok (F9 P e) w:=by
 obtain⟨i,hi⟩:=Cn.1 h;exact uB hi
theorem mE {P:Program}{t:TypeId}(h:(P.info? t).isSome=true)(hu:∃d,P.underlying t=some d)(w:World):(isAgg t).run P w=.ok (S9 P t) w:=by
 obtain⟨d,hd⟩:=hu;unfold isAgg S9;simp only[Sem.run_bind,C8 hd,Result.andThen_ok,hd]
 cases d<;>rfl
theorem A1e {P:Program}{M:C4}{t:TypeId}{cells:List PV}{vs:List Value}{off:Nat}{v:PV}(ht:(P.info? t).isSome=true)(hu:∃d,P.underlying t=some d)(h:vB P t cells off some=some v)(hr:D7 M cells vs) :
  ∃u,(∀w,(part t vs.toArray off).run P w=.ok u w)/\B7 M v u:=by
 unfold vB at h;unfold part;split at h
 ·rename_i hag;obtain⟨hle,h⟩:=A5 h;injection h with h;subst h;refine⟨.agg ((vs.take (off+F9 P t)).drop off).toArray,fun w=>?_,?_⟩
  ·simp only[Sem.run_bind,mE ht hu,Result.andThen_ok,if_pos hag,L3 ht,Sem.run_pure];congr 2;simp[List.extract_toArray,List.drop_take]
  ·simp only[B7];exact⟨_,rfl,(hr.take _).drop _⟩
 ·rename_i hag;obtain⟨x,hx,h⟩:=A6 h;injection h with h;subst h;obtain⟨u,h1,_,h3⟩:=hr.get hx;refine⟨u,fun w=>?_,h3⟩;simp only[Sem.run_bind,mE ht hu,Result.andThen_ok];rw[if_neg hag]
  have:vs.toArray[off]? =some u:=by simpa using h1
  rw[this];rfl
theorem B0x {P:Program}{M:C4}{d:Nat}{g:TypeId->PV->PV->Option Bool}
  (hg:∀(t:TypeId) (X Y:PV) (b:Bool) (u v:Value),g t X Y=some b->B7 M X u->B7 M Y v->∀w,(Op.equalIn d t u v).run P w=.ok b w) {xs ys:List PV} {us vs:List Value} (hx:D7 M xs us) (hy:D7 M ys vs) :
  ∀(fs:List Field) (b:Bool),C62 P g xs ys fs=some b->∀w,(Op.eqFields d us.toArray vs.toArray fs).run P w=.ok b w
 |[],b,h,w=>by
  simp only[C62,Ah]at h;subst h;simp[Op.eqFields]
 |f::fs,b,h,w=>by
  simp only[C62]at h;simp only[Op.eqFields];split at h
  ·rename_i hn;rw[if_pos hn];split at h
   ·rename_i hi;simp only[Ae]at hi;split at h
    ·rename_i x y h1 h2;split at h
     ·rename_i b1 h3;split at h
      ·rename_i r h4;injection h with h;subst h;obtain⟨u,k1,k2⟩:=A1e hi.1 (Cn.1 hi.2) h1 hx;obtain⟨v,k3,k4⟩:=A1e hi.1 (Cn.1 hi.2) h2 hy;have k5:=hg _ _ _ _ _ _ h3 k2 k4;simp only[Sem.run_bind,k1,k3,k5,Result.andThen_ok]
       cases b1
       ·simp
       ·simp only[Bool.not_true,Bp,if_false,cond_true];exact B0x hg hx hy fs r h4 w
      ·cases h
     ·cases h
    ·cases h
   ·cases h
  ·rename_i hn;rw[if_neg hn];exact B0x hg hx hy fs b h w
theorem D3c {P:Program}{M:C4}(e:Nat):∀(d:Nat) (t:TypeId) (X Y:PV) (b:Bool) (u v:Value),eqP P d t X Y=some b->B7 M X u->B7 M Y v->∀w,(Op.equalIn (e+d) t u v).run P w=.ok b w
 |0,_,_,_,_,_,_,h,_,_,_=>by cases h
 |d+1,t,X,Y,b,u,v,h,hx,hy,w=>by
  rw[<-Nat.add_assoc];unfold eqP at h;split at h
  ·rename_i k0 k a k' b' ht;obtain⟨hk,g⟩:=A5 h;injection g with g;subst g;subst hk;simp only[B7]at hx hy;subst hx hy;exact run_equalIn_int w (e+d) t k k0 a b' ht
  ·rename_i a b' ht;injection h with h;subst h;simp only[B7]at hx hy;subst hx hy;exact run_equalIn_bool w (e+d) t a b' ht
  ·rename_i a b' ht;injection h with h;subst h;simp only[B7]at hx hy;subst hx hy;rw[run_equalIn_string w (e+d) t _ _ ht];simp[ByteArray.toList_eq]
  ·rename_i fs xs ys ht;split at h
   ·cases h
   ·rename_i hs;simp only[B7]at hx hy;obtain⟨us,rfl,hx⟩:=hx;obtain⟨vs,rfl,hy⟩:=hy
    have hf:P.fieldsOf t=fs:=by unfold Program.fieldsOf;rw[ht]
    rw[run_equalIn_struct w (e+d) t _ _ (by rw[hf];exact ht) (by simpa using hs),hf];exact B0x (fun t X Y b u v h1 h2 h3 w=>D3c e d t X Y b u v h1 h2 h3 w) hx hy fs.toList b h w
  ·cases h
theorem B2u {P:Program}{w:World}{op:BinOp}{t:TypeId}{x y:Operand}{xs ys:Array Value}(h:P.eqGuardType P.depth t=false):(eqGuard op t x y (.agg xs) (.agg ys)).run P w=.ok () w:=by
 unfold eqGuard
 cases op<;>simp[h]
end Go.Proofs.YtkpfigikffphdaaGreatDoor
namespace Go.Proofs.YtkpfigikffphdaaGreatDoor
open Go.RowKit
theorem mV {P:Program}{w:World}{t:TypeId}{a c:Value}{b:Bool}(h:(Op.equal t a c).run P w=.ok b w)(h1:∀k n,a≠.int k n)(h2:∀s,a≠.string s)(h3:∀k n,a≠.float k n)(h4:∀k n m,a≠.complex k n m) :
  (binOp .eql t a c).run P w=.ok (.bool b) w/\(binOp .neq t a c).run P w=.ok (.bool (!b)) w:=by
 cases a<;>first
  |exact(h1 _ _ rfl).elim
  |exact(h2 _ rfl).elim
  |exact(h3 _ _ rfl).elim
  |exact(h4 _ _ _ rfl).elim
  |(constructor<;>simp[binOp,h])
theorem D9f {P:Program}{w:World}{M:C4}{β:Nat->Option Nat}{op:BinOp}{t:TypeId}{ox oy:Operand}{X Y v:PV}{a b:Value}(h:C8b P op t ox oy X Y some=some v)(hx:C1 M β X a)(hy:C1 M β Y b)(hc:∀c,oy=.const c->b=c) :
  ∃u,(do eqGuard op t ox oy a b;binOp op t a b:Sem Value).run P w=.ok u w/\C1 M β v u:=by
 unfold C8b at h;split at h
 ·rename_i kx a' ky b';obtain rfl:=M5 hx;obtain rfl:=M5 hy;have hg:(eqGuard op t ox oy (.int kx a') (.int ky b')).run P w=.ok () w:=fD (by simp) (by simp);split at h
  ·obtain⟨hb,h⟩:=B2r h;injection h with h;subst h
   have hb':¬b'<0:=by simpa using hb
   exact⟨_,by simp[hg,binOp,Op.shift,hb'],rfl⟩
  ·obtain⟨hb,h⟩:=B2r h;injection h with h;subst h
   have hb':¬b'<0:=by simpa using hb
   exact⟨_,by simp[hg,binOp,Op.shift,hb'],rfl⟩
  ·rename_i hs hr;obtain⟨hk,h'⟩:=A5 h;clear h;subst hk;obtain⟨u,h1,h2⟩:=E5w (P:=P) (w:=w) h' t hs hr;exact⟨u,by simp[hg,h1],h2 M β⟩
 ·rename_i a' b';obtain rfl:=dF hx;obtain rfl:=dF hy;have hg:(eqGuard op t ox oy (.string ⟨a'.toArray⟩) (.string ⟨b'.toArray⟩)).run P w=.ok () w:=fD (by simp) (by simp);obtain⟨u,h1,h2⟩:=E3v (P:=P) (w:=w) h t;exact⟨u,by simp[hg,h1],h2 M β⟩
 ·rename_i a' b';obtain rfl:=iW hx;obtain rfl:=iW hy;have hg:(eqGuard op t ox oy (.bool a') (.bool b')).run P w=.ok () w:=fD (by simp) (by simp);obtain⟨ht,h⟩:=A5 h;have ht:=B15 ht;obtain⟨d,hd⟩:=B4w t
  have he:(Op.equal t (.bool a') (.bool b')).run P w=.ok (a'==b') w:=by rw[hd];simp[Op.equalIn,C8 ht]
  have:=mV he (by simp) (by simp) (by simp) (by simp);split at h
  ·injection h with h;subst h;exact⟨_,by simp only[Sem.run_bind,hg,Result.andThen_ok];exact this.1,rfl⟩
  ·injection h with h;subst h;exact⟨_,by simp only[Sem.run_bind,hg,Result.andThen_ok];exact this.2,rfl⟩
  ·cases h
 ·rename_i xs ys;split at h
  ·cases h
  ·rename_i hgd
   have hgd:P.eqGuardType P.depth t=false:=by simpa using hgd
   have hx':B7 M (.agg xs) a:=hx;have hy':B7 M (.agg ys) b:=hy
   have key:∀bb,eqP P 20 t (.agg xs) (.agg ys)=some bb->(eqGuard op t ox oy a b).run P w=.ok () w/\(binOp .eql t a b).run P w=.ok (.bool bb) w/\(binOp .neq t a b).run P w=.ok (.bool (!bb)) w:=by
    intro bb hbb;have he:=D3c 9980 20 t _ _ bb a b hbb hx' hy' w;simp only[B7]at hx' hy';obtain⟨us,rfl,_⟩:=hx';obtain⟨vs,rfl,_⟩:=hy';have:=mV (P:=P) (w:=w) (t:=t) (a:=.agg us.toArray) (c:=.agg vs.toArray) (b:=bb) he (by simp) (by simp) (by simp) (by simp);exact⟨B2u hgd,this.1,this.2⟩
   split at h
   ·obtain⟨bb,hbb,h⟩:=A6 h;injection h with h;subst h;obtain⟨k0,k1,k2⟩:=key bb hbb;exact⟨_,by simp only[Sem.run_bind,k0,Result.andThen_ok];exact k1,rfl⟩
   ·obtain⟨bb,hbb,h⟩:=A6 h;injection h with h;subst h;obtain⟨k0,k1,k2⟩:=key bb hbb;exact⟨_,by simp only[Sem.run_bind,k0,Result.andThen_ok];exact k2,rfl⟩
   ·cases h
 ·split at h
  ·rename_i c;have hbc:=hc c rfl;subst hbc
   have key:∀bb,sT P t X b=some bb->(eqGuard op t ox (.const b) a b).run P w=.ok () w/\(binOp .eql t a b).run P w=.ok (.bool bb) w/\(binOp .neq t a b).run P w=.ok (.bool (!bb)) w:=by
    intro bb hbb;obtain⟨h1,h2,h3,h4,h5,h6,h7⟩:=F0u (w:=w) hbb hx;obtain⟨k1,k2⟩:=mV h1 h4 h5 h6 h7;exact⟨fD (fun _ _=>⟨b,rfl⟩) (fun xs _ e _=>h3 xs e),k1,k2⟩
   split at h
   ·obtain⟨bb,hbb,h⟩:=A6 h;injection h with h;subst h;obtain⟨k0,k1,k2⟩:=key bb hbb;exact⟨_,by simp only[Sem.run_bind,k0,Result.andThen_ok];exact k1,rfl⟩
   ·obtain⟨bb,hbb,h⟩:=A6 h;injection h with h;subst h;obtain⟨k0,k1,k2⟩:=key bb hbb;exact⟨_,by simp only[Sem.run_bind,k0,Result.andThen_ok];exact k2,rfl⟩
   ·cases h
  ·cases h
section
variable {en:K6} {NG:Nat} {W:World->Prop} {st:St} {o:Oper}
theorem C6b {op:BinOp}{t:TypeId}{x y:Operand}{yt:TypeId}(ho:o.op=.binOp op t x y yt){act:C7}(h:A9 en st o some=some act):rZ en NG W st o act:=by
 simp only[A9,ho]at h;rw[A38]at h;obtain⟨v,hv,h⟩:=A6 h;injection h with h;subst h;refine C9 fun X a M β κ hI hG _=>?_;obtain⟨u,h1,h2⟩:=D9f (w:=M.w) hv (hI.ev hG t x).1 (hI.ev hG t y).1 (fun c hc=>by subst hc;rfl);refine⟨u,?_,h2,.inl rfl⟩;simp only[execOp,ho];rw[Sem.run_bind,h1];rfl
theorem E91 {P:Program}{w:World}{M:C4}{β:Nat->Option Nat}{op:UnOp}{X v:PV}{a:Value}(h:pun op X some=some v)(hx:C1 M β X a):∃u,(Op.unary op a).run P w=.ok u w/\C1 M β v u:=by
 unfold pun at h;split at h<;>simp only[Ah,reduceCtorEq]at h<;>subst h
 ·obtain rfl:=M5 hx;exact⟨_,by simp[Op.unary,Op.intArith],rfl⟩
 ·obtain rfl:=M5 hx;exact⟨_,by simp[Op.unary,Op.intBits],rfl⟩
 ·obtain rfl:=iW hx;exact⟨_,by simp[Op.unary],rfl⟩
theorem D48 {op:UnOp}{t:TypeId}{x:Operand}(ho:o.op=.unOp op t x){act:C7}(h:A9 en st o some=some act):rZ en NG W st o act:=by
 simp only[A9,ho]at h;rw[B11]at h;obtain⟨v,hv,h⟩:=A6 h;injection h with h;subst h;refine C9 fun X a M β κ hI hG _=>?_;obtain⟨u,h1,h2⟩:=E91 (P:=en.P) (w:=M.w) hv (hI.ev hG t x).1;exact⟨u,by simp[execOp,ho,h1],h2,.inl rfl⟩
theorem A6p {P:Program}{w:World}{X:PV}{m k:Nat}{a:Value}{M:C4}{β:Nat->Option Nat}(h:oZ X m some=some k)(hx:C1 M β X a)(y:Nat)(hy:m<=y)(code:BoundsCode):(Instr.sliceBound a y code).run P w=.ok k w/\k<=m:=by
 unfold oZ at h;split at h
 ·obtain rfl:=M5 hx;rename_i kk i;obtain⟨hb,h⟩:=B8 h;injection h with h;simp at hb;subst h;refine⟨?_,by omega⟩
  have h1:0<=i/\i<=(y:Int):=by omega
  simp[Instr.sliceBound,asIntOf,h1]
 ·cases h
end
theorem B01 {P:Program}{w:World}{lo' hi':Option Value}{b:Bool}{n c l h:Nat}(hhi:∀v,hi'=some v->∀code,(Instr.sliceBound v c code).run P w=.ok h w)(hhi0:hi'=none->h=n)
  (hlo:∀v,lo'=some v->∀code,(Instr.sliceBound v h code).run P w=.ok l w) (hlo0:lo'=none->l=0):(Instr.sliceBounds b n c lo' hi' none).run P w=.ok (l,h,c) w:=by
 cases lo' with
 |none =>
  cases hi' with
  |none=>simp[Instr.sliceBounds,hhi0 rfl,hlo0 rfl]
  |some v=>simp[Instr.sliceBounds,hhi v rfl,hlo0 rfl]
 |some u =>
  cases hi' with
  |none=>have:=hhi0 rfl;subst this;simp[Instr.sliceBounds,hlo u rfl]
  |some v=>simp[Instr.sliceBounds,hhi v rfl,hlo u rfl]
theorem E18 {P:Program}{w:World}{lo':Option Value}{v x:Value}{b:Bool}{n c l h m:Nat}(hmx:∀code,(Instr.sliceBound x c code).run P w=.ok m w)(hhi:∀code,(Instr.sliceBound v m code).run P w=.ok h w)
  (hlo:∀v,lo'=some v->∀code,(Instr.sliceBound v h code).run P w=.ok l w) (hlo0:lo'=none->l=0):(Instr.sliceBounds b n c lo' (some v) (some x)).run P w=.ok (l,h,m) w:=by
 cases lo' with
 |none=>simp[Instr.sliceBounds,hmx,hhi,hlo0 rfl]
 |some u=>simp[Instr.sliceBounds,hmx,hhi,hlo u rfl]
section
variable {en:K6} {NG:Nat} {W:World->Prop} {st:St} {o:Oper}
theorem fP {X:Cx}{a:Act}{M:C4}{β κ:Nat->Option Nat}(hI:I0 NG X st a M β κ)(hG:gO en X.M0){y:Option Operand}{d m k c:Nat}(hmc:m<=c)
  (h:X4 (y.map fun y=>(ev en st 0 y).1) d m some=some k):(∀v,(y.map a.eval)=some v->∀code,(Instr.sliceBound v c code).run en.P M.w=.ok k M.w)/\((y.map a.eval)=none->k=d)/\(k<=m\/k=d):=by
 cases y with
 |none =>
  simp only[Fl,X4,Ah]at h;exact⟨by simp,fun _=>h.symm,.inr h.symm⟩
 |some y =>
  simp only[Aq,X4]at h;have:=fun code=>A6p (P:=en.P) (w:=M.w) h (hI.ev hG 0 y).1 c hmc code;refine⟨fun v hv code=>?_,by simp,.inl (this .index).2⟩;simp only[Aq,Ah]at hv;rw[<-hv];exact(this code).1
theorem B68 (s:List UInt8)(l h:Nat):(⟨s.toArray⟩:ByteArray).extract l h=⟨((s.take h).drop l).toArray⟩:=by
 rw[ByteArray.extract_mk,List.drop_take]
theorem V9 (b o k:Nat):(⟨b,o,none⟩:Addr).add k=⟨b,o+k,none⟩:=by
 unfold Addr.add;split
 ·rename_i h;subst h;rfl
 ·rfl
theorem A6s {M:C4}{nl:Option Bool}{sz n:Nat}{cells:List PV}{A:Option Addr}{c l h m:Nat}(hr:B7 M (.sl nl sz n cells) (.slice A n c))(hlh:l<=h)(hhn:h<=n)(hhm:h<=m)(hmc:m<=c) :
  B7 M (.sl nl sz (h-l) ((cells.take (h * sz)).drop (l * sz))) (.slice (if m=l then A else A.map (·.add (l * sz))) (h-l) (m-l)):=by
 simp only[B7]at hr ⊢;obtain⟨A',c',vs,he,h1,h2,h3,h4,h5,h6,h7⟩:=hr;injection he with e1 e2 e3;subst e1;subst e3
 have hle:h * sz<=cells.length:=by rw[h5];exact Es _ hhn
 have hll:l * sz<=h * sz:=Es _ hlh;refine⟨_,_,(vs.take (h * sz)).drop (l * sz),rfl,by omega,by omega,?_,?_,?_,(h6.take _).drop _,?_⟩
 ·intro b hb;rw[<-h3 b hb];split
  ·rfl
  ·cases A<;>rfl
 ·intro hn;split at hn
  ·omega
  ·have:A=none:=by cases A<;>simp_all
   have:=h4 this;omega
 ·rw[List.length_drop,Cf,Nat.min_eq_left hle,<-Nat.sub_mul]
 ·rcases h7 with h7|⟨b,o,e,h7⟩
  ·exact .inl (by rw[h7];simp)
  ·by_cases hml:m=l
   ·left
    have hl:h=l:=by omega
    rw[hl];simp
   ·right;refine⟨b,o+l * sz,?_,(h7.take _).drop _⟩;rw[if_neg hml,e];simp only[Aq,V9]
theorem C65 {t:TypeId}{x:Operand}{lo hi mx:Option Operand}(ho:o.op=.slice t x lo hi mx)(hinf:∀e,en.P.underlying t=some (.slice e)->(en.P.info? e).isSome=true){act:C7}(h:A9 en st o some=some act):rZ en NG W st o act:=by
 simp only[A9,ho]at h;rw[tK]at h;obtain⟨v,hv,h⟩:=A6 h;injection h with h;subst h;refine C9 fun X a M β κ hI hG _=>?_;have hx:=(hI.ev hG t x).1;unfold A3l at hv;split at hv
 ·rename_i s ht hs;rw[hs]at hx;have hx:=dF hx
  cases mx with
  |some m=>simp at hv
  |none =>
   simp only[Fl]at hv;rw[E7]at hv;obtain⟨hh,k1,hv⟩:=A6 hv;rw[E7]at hv;obtain⟨ll,k2,hv⟩:=A6 hv;injection hv with hv;subst hv;obtain⟨a1,a2,a3⟩:=fP hI hG (Ak _) k1;obtain⟨b1,b2,_⟩:=fP hI hG (Ak _) k2;have hb:=B01 (b:=false) (n:=s.length) a1 a2 b1 b2;refine⟨.string ((⟨s.toArray⟩:ByteArray).extract ll hh),?_,?_,.inl rfl⟩
   ·have e:(⟨s.toArray⟩:ByteArray).size=s.length:=by simp[ByteArray.size]
    simp[execOp,ho,hx,Instr.sliceAt,Instr.slice,C8 ht,e,hb]
   ·show B7 M (.str _) _;simp only[B7,B68]
 ·rename_i e nl sz n cells ht hs;rw[hs]at hx
  obtain⟨A,c,hAc⟩:∃A c,a.eval x=.slice A n c:=by
   have hx':B7 M (.sl nl sz n cells) (a.eval x):=hx;simp only[B7]at hx';obtain⟨A,c,_,e,_⟩:=hx';exact⟨A,c,e⟩
  have hx':B7 M (.sl nl sz n cells) (.slice A n c):=by rw[<-hAc];exact hx
  have hnc:n<=c:=by
   simp only[B7]at hx';obtain⟨A',c',vs,he,h1,_⟩:=hx';injection he with _ _ e3;omega
  obtain⟨hsz,hv⟩:=A5 hv;obtain⟨i,hi'⟩:=Cn.1 (hinf e ht);have hsize:=fun w=>(uB (w:=w) hi').trans (by rw[hsz])
  cases mx with
  |none =>
   simp only[Fl]at hv;rw[E7]at hv;obtain⟨hh,k1,hv⟩:=A6 hv;rw[E7]at hv;obtain⟨ll,k2,hv⟩:=A6 hv;injection hv with hv;subst hv;obtain⟨a1,a2,a3⟩:=fP hI hG hnc k1;obtain⟨b1,b2,b3⟩:=fP hI hG (Ak _) k2;have hb:=B01 (b:=true) (n:=n) a1 a2 b1 b2
   have hhn:hh<=n:=by omega
   refine⟨.slice (if c=ll then A else A.map (·.add (ll * sz))) (hh-ll) (c-ll),?_,C1.of_data (A6s hx' (by omega) hhn (by omega) (Ak _)),.inl rfl⟩;simp[execOp,ho,hAc,Instr.sliceAt,Instr.slice,C8 ht,hb,hsize]
  |some m =>
   simp only[Aq]at hv;rw[nA]at hv;obtain⟨mm,k0,hv⟩:=A6 hv;rw[E7]at hv;obtain⟨hh,k1,hv⟩:=A6 hv;rw[E7]at hv;obtain⟨ll,k2,hv⟩:=A6 hv;injection hv with hv;subst hv;have c1:=fun code=>A6p (P:=en.P) (w:=M.w) k0 (hI.ev hG 0 m).1 c hnc code
   cases hi with
   |none=>simp[X4,oZ]at k1
   |some hi =>
    obtain⟨a1,a2,a3⟩:=fP (y:=some hi) hI hG (Ak _) k1;obtain⟨b1,b2,b3⟩:=fP hI hG (Ak _) k2;have hmn:=(c1 .index).2;have hb:=E18 (b:=true) (n:=n) (fun cd=>(c1 cd).1) (a1 (a.eval hi) rfl) b1 b2
    have hhm:hh<=mm:=by omega
    refine⟨.slice (if mm=ll then A else A.map (·.add (ll * sz))) (hh-ll) (mm-ll),?_,C1.of_data (A6s hx' (by omega) (by omega) hhm (by omega)),?_⟩
    ·simp[execOp,ho,hAc,Instr.sliceAt,Instr.slice,C8 ht,hb,hsize]
    ·by_cases e:hh=mm
     ·subst e;exact .inr ⟨_,_,_,_,rfl,.inl ⟨(if hh=ll then A else A.map (·.add (ll * sz))),hh-ll,rfl⟩⟩
     ·left;simp[e]
 ·rename_i e id off sz n ht hs;rw[hs]at hx;simp only[C1]at hx;obtain⟨b,c,hβ,hAc,hnc,hcm,hsize0⟩:=hx;obtain⟨hsz,hv⟩:=A5 hv;obtain⟨i,hi'⟩:=Cn.1 (hinf e ht);have hsize:=fun w=>(uB (w:=w) hi').trans (by rw[hsz])
  cases mx with
  |some m=>simp at hv
  |none =>
   simp only[Fl]at hv;rw[E7]at hv;obtain⟨hh,k1,hv⟩:=A6 hv;rw[E7]at hv;obtain⟨ll,k2,hv⟩:=A6 hv;obtain⟨hl,hv⟩:=B8 hv;injection hv with hv;subst hv;simp only[Bool.or_eq_true,decide_eq_true_eq]at hl;obtain⟨a1,a2,a3⟩:=fP hI hG hnc k1;obtain⟨b1,b2,b3⟩:=fP hI hG (Ak _) k2;have hb:=B01 (b:=true) (n:=n) a1 a2 b1 b2
   have hhn:hh<=n:=by omega
   refine⟨.slice (if c=ll then some ⟨b,off,none⟩else(some (⟨b,off,none⟩:Addr)).map (·.add (ll * sz))) (hh-ll) (c-ll),?_,?_,.inl rfl⟩
   ·simp[execOp,ho,hAc,Instr.sliceAt,Instr.slice,C8 ht,hb,hsize]
   ·have e1:(if c=ll then some (⟨b,off,none⟩:Addr)else(some (⟨b,off,none⟩:Addr)).map (·.add (ll * sz)))=some ⟨b,off+ll * sz,none⟩:=by
     split
     ·have:ll=0:=by omega
      rw[this];simp
     ·simp[V9]
    rw[e1];simp only[C1]
    have hle:ll<=c:=by omega
    have e2:off+ll * sz+(c-ll) * sz=off+c * sz:=by rw[Nat.add_assoc,<-Nat.add_mul];congr 2;omega
    exact⟨b,c-ll,hβ,rfl,by omega,by omega,by rw[e2];exact hsize0⟩
 ·cases hv
end
end Go.Proofs.YtkpfigikffphdaaGreatDoor
namespace Go.Proofs.YtkpfigikffphdaaGreatDoor
open Go.RowKit
structure G5 (P:Program)(t:TypeId):Prop where
 ok:W4 P t=true
theorem G5.sl {P:Program}{t:TypeId}(h:G5 P t)(e:TypeId)(he:P.underlying t=some (.slice e)):(P.info? e).isSome=true:=by
 have:=h.ok;simp only[W4,he]at this;obtain⟨d,hd⟩:=Cn.1 this;exact aR hd
theorem G5.ar {P:Program}{t:TypeId}(h:G5 P t)(n:Nat)(e:TypeId)(he:P.underlying t=some (.array n e)):(P.info? e).isSome=true:=by
 have:=h.ok;simp only[W4,he]at this;obtain⟨d,hd⟩:=Cn.1 this;exact aR hd
theorem G5.ar_un {P:Program}{t:TypeId}(h:G5 P t)(n:Nat)(e:TypeId)(he:P.underlying t=some (.array n e)):∃d,P.underlying e=some d:=by
 have:=h.ok;simp only[W4,he]at this;exact Cn.1 this
theorem G5.st_un {P:Program}{t:TypeId}(h:G5 P t)(fs:Array Field)(he:P.underlying t=some (.struct fs))(f:Field)(hf:f∈fs):∃d,P.underlying f.type=some d:=by
 have:=h.ok;simp only[W4,he]at this;rw[Array.all_eq_true_iff_forall_mem]at this;exact Cn.1 (this f hf)
theorem G5.st {P:Program}{t:TypeId}(h:G5 P t)(fs:Array Field)(he:P.underlying t=some (.struct fs))(f:Field)(hf:f∈fs):(P.info? f.type).isSome=true:=by
 obtain⟨d,hd⟩:=h.st_un fs he f hf;exact aR hd
theorem G5.un {P:Program}{t:TypeId}(h:G5 P t):∃d,P.underlying t=some d:=by
 have:=h.ok;unfold W4 at this
 cases hd:P.underlying t with
 |none=>rw[hd]at this;cases this
 |some d=>exact⟨d,rfl⟩
section
variable {en:K6} {NG:Nat} {W:World->Prop} {st:St} {o:Oper}
theorem A5m {M:C4}:∀{cells:List PV} {vs:List Value} {l:List UInt8},eF cells=some l->D7 M cells vs->∃ns:List Int,vs=ns.map (Value.int .u8)/\l=ns.map fun n=>UInt8.ofNat n.toNat
 |[],vs,l,h,hr=>by
  simp only[eF,Ah]at h;simp only[D7]at hr;subst h;subst hr;exact⟨[],rfl,rfl⟩
 |x::xs,vs,l,h,hr=>by
  simp only[eF]at h;obtain⟨n,h1,h⟩:=A6 h;obtain⟨l',h2,h⟩:=A6 h;injection h with h;subst h;simp only[D7]at hr;obtain⟨u,us,rfl,_,h3,h4⟩:=hr;obtain⟨ns,rfl,rfl⟩:=A5m h2 h4
  cases x<;>simp only[PV.asInt,reduceCtorEq]at h1;obtain⟨rfl,h1⟩:=A5 h1;injection h1 with h1;subst h1;exact⟨_::ns,by rw[show u=.int .u8 _ from h3];rfl,rfl⟩
theorem yK {P:Program}{M:C4}{nl:Option Bool}{n:Nat}{cells:List PV}{l:List UInt8}{A:Option Addr}{c:Nat}(h:eF cells=some l)(hr:B7 M (.sl nl 1 n cells) (.slice A n c)) :
  (Conv.bytesToString (.slice A n c)).run P M.w=.ok (.string ⟨l.toArray⟩) M.w:=by
 simp only[B7]at hr;obtain⟨A',c',vs,he,h1,h2,h3,h4,h5,h6,h7⟩:=hr;injection he with e1 e2 e3;subst e1;subst e3;obtain⟨ns,rfl,rfl⟩:=A5m h h6
 have hlen:ns.length=n:=by have:=h6.length;simp at this;omega
 cases A with
 |none =>
  have:c=0:=h4 rfl
  have:n=0:=by omega
  subst this;have:ns=[]:=Dw hlen;subst this;rfl
 |some ad =>
  have hl:(loadCells ad n).run P M.w=.ok (ns.map (Value.int .u8)).toArray M.w:=by
   rcases h7 with h7|⟨b,o,e,h7⟩
   ·have:ns=[]:=by simpa using h7
    subst this;simp at hlen;subst hlen;rfl
   ·injection e with e;subst e;have:=run_loadCells_list (P:=P) M.w ⟨b,o,none⟩ (ns.map (Value.int .u8)) (fun j v hj=>by rw[V9];exact(h7 j v hj).1);simpa [hlen]using this
  rw[run_bytesToString M.w ad n c ns hl,foldl_push_bytes];congr 2;apply ByteArray.ext;simp
theorem B0b (M:C4):∀s:List UInt8,D7 M (s.map aA) (s.map fun b=>.int .u8 b.toNat)
 |[]=>rfl
 |b::s=>⟨_,_,rfl,rfl,rfl,B0b M s⟩
def C4.lay (M:C4)(w':World)(g n:Nat):C4:=⟨w',fun b=>if b=g then n else M.U b,M.y⟩
theorem L4.lay {M:C4}{w':World}(hb:Below M.w.heap.size M.w w'){g:Nat}(hg:M.w.heap.size<=g)(n:Nat):L4 M (M.lay w' g n) none :=
 L4.mk0 hb fun b hlt=>by simp only[C4.lay];rw[if_neg (by omega)]
theorem aO {M:C4}{w1:World}(hb:Below M.w.heap.size M.w w1)(x:Obj):Below M.w.heap.size M.w (w1.alloc x):=hb.alloc hb.size x
theorem C5h {M:C4}{w1:World}{arr:Array Value}{e:TypeId}{fr:Nat×Nat}{vs:List Value}(harr:∀(j:Nat) (u:Value),vs[j]? =some u->arr[j]? =some u):T6 (M.lay (w1.alloc (.cells arr e fr)) w1.heap.size vs.length) w1.heap.size 0 vs:=by
 intro j u hu;have hlt:j<vs.length:=(Aj.1 hu).1;refine⟨?_,by simp[C4.lay];exact hlt⟩;show(w1.alloc _).cell? _=_;rw[cell_of_row _ _ _ arr e fr (heap_alloc_new w1 _),Nat.zero_add];exact harr j u hu
theorem A0x {M:C4}{w1:World}(hb:Below M.w.heap.size M.w w1){arr:Array Value}{e:TypeId}{fr:Nat×Nat}{sz n cap:Nat}{cells:List PV}{vs:List Value}(hr:D7 M cells vs)(hlen:cells.length=n * sz)(hnc:n<=cap)(hcm:cap<=maxLen)
  (harr:∀(j:Nat) (u:Value),vs[j]? =some u->arr[j]? =some u):B7 (M.lay (w1.alloc (.cells arr e fr)) w1.heap.size vs.length) (.sl (some false) sz n cells) (.slice (some ⟨w1.heap.size,0,none⟩) n cap):=by
 have hm:M.le (M.lay (w1.alloc (.cells arr e fr)) w1.heap.size vs.length):=(L4.lay (aO hb _) hb.size _).le;simp only[B7];exact⟨_,_,vs,rfl,hnc,hcm,by simp,by simp,hlen,hr.mono' hm,.inr ⟨_,0,rfl,C5h harr⟩⟩
theorem xB {P:Program}{M:C4}{s d e:TypeId}(l:List UInt8)(hs:P.underlying s=some .string)(hd:P.underlying d=some (.slice e))(he:P.underlying e=some (.int .u8))(hl:l.length<=maxLen) :
  ∃v M',(convert s d (.string ⟨l.toArray⟩)).run P M.w=.ok v M'.w/\L4 M M' none/\B7 M' (.sl (some false) 1 l.length (l.map aA)) v:=by
 have hr:=run_bytes_of_string (P:=P) M.w s d e ⟨l.toArray⟩ hs hd he
 have hz:(⟨l.toArray⟩:ByteArray).size=l.length:=by simp[ByteArray.size]
 rw[hz]at hr;have hb:Below M.w.heap.size M.w M.w.drew:=(Below.refl _ _).drew
 exact⟨_,M.lay _ M.w.drew.heap.size (l.map fun b=>Value.int .u8 b.toNat).length,hr,L4.lay (aO hb _) (Ak _) _,
  A0x hb (B0b M l) (by simp) (grownCap_ge _ _ _ _) (grownCap_le_maxLen _ _ _ _ hl) (fun j u hu=>by
   have hlt:j<l.length:=by have:=(Aj.1 hu).1;simpa using this
   simp only[bytesRow];rw[Array.getElem?_append_left (by simpa using hlt)]
   simpa using hu)⟩
theorem B21 {s d:TypeId}{x:Operand}(ho:o.op=.convert s d x){act:C7}(h:A9 en st o some=some act):rZ en NG W st o act:=by
 simp only[A9,ho]at h;rw[xG]at h;obtain⟨v,hv,h⟩:=A6 h;injection h with h;subst h;unfold B52 at hv;split at hv
 ·rename_i k0 k k' n h1 h2 hx;injection hv with hv;subst hv;refine C9 fun X a M β κ hI hG _=>?_;have hx':=(hI.ev hG s x).1;rw[hx]at hx';have hx':=M5 hx';exact⟨.int k (k.wrap n),by simp[execOp,ho,hx',convert,C8 h1,C8 h2,Conv.intToInt],rfl,.inl rfl⟩
 ·rename_i s' h1 h2 hx;injection hv with hv;subst hv;refine C9 fun X a M β κ hI hG _=>?_;have hx':=(hI.ev hG s x).1;rw[hx]at hx';have hx'':=dF hx';exact⟨_,by simp[execOp,ho,hx'',convert,C8 h1,C8 h2],rfl,.inl rfl⟩
 ·rename_i e s' h1 h2 hx;split at hv
  ·rename_i he;obtain⟨hsz,hv⟩:=A5 hv;obtain⟨hl,hv⟩:=B8 hv;injection hv with hv;subst hv;refine B0j fun X a M β κ hI hG _=>?_;have hx':=(hI.ev hG s x).1;rw[hx]at hx';have hx'':=dF hx';obtain⟨v,M',k1,k2,k3⟩:=xB (P:=en.P) (M:=M) s' h1 h2 he (by have:=of_decide_eq_true hl;exact this);exact⟨v,M',by simp[execOp,ho,hx'',k1],k2,C1.of_data k3,.inl rfl⟩
  ·cases hv
 ·rename_i e nl sz n cells h1 h2 hx;split at hv
  ·rename_i he;obtain⟨hsz,hv⟩:=A5 hv;subst hsz;obtain⟨l,hl,hv⟩:=A6 hv;injection hv with hv;subst hv;refine C9 fun X a M β κ hI hG _=>?_;have hx':=(hI.ev hG s x).1;rw[hx]at hx';have hx2:B7 M (.sl nl 1 n cells) (a.eval x):=hx';have hx3:=hx2;simp only[B7]at hx3;obtain⟨A,c,_,hAc,_⟩:=hx3;rw[hAc]at hx2;have:=yK (P:=en.P) hl hx2;exact⟨_,by simp[execOp,ho,hAc,convert,C8 h1,C8 h2,C8 he,this],rfl,.inl rfl⟩
  ·cases hv
 ·cases hv
end
end Go.Proofs.YtkpfigikffphdaaGreatDoor
namespace Go.Proofs.YtkpfigikffphdaaGreatDoor
open Go.RowKit
section
variable {en:K6} {NG:Nat} {W:World->Prop} {st:St} {o:Oper}
theorem A9z {M:C4}{β:Nat->Option Nat}{cs:List PV}{v:Value}(h:C1 M β (.agg cs) v):∃vs,v=.agg vs.toArray/\D7 M cs vs:=by
 have h:B7 M (.agg cs) v:=h;simpa only[B7]using h
theorem C2a {M:C4}{β:Nat->Option Nat}{cs:List PV}{v:Value}(h:C1 M β (.agp cs) v):∃vs,v=.agg vs.toArray/\(∀u∈vs,u.oneCell'=true)/\B9 M β cs vs:=by
 simpa only[C1]using h
theorem B9.drop {M:C4}{β:Nat->Option Nat}:∀{xs:List PV} {vs:List Value} (k:Nat),B9 M β xs vs->B9 M β (xs.drop k) (vs.drop k)
 |xs,vs,0,h=>h
 |[],vs,k+1,h=>by simp only[B9]at h;subst h;simp only[List.drop_nil,B9]
 |x::xs,vs,k+1,h=>by
  simp only[B9]at h;obtain⟨u,us,rfl,_,h⟩:=h;exact h.drop k
theorem B9.take {M:C4}{β:Nat->Option Nat}:∀{xs:List PV} {vs:List Value} (k:Nat),B9 M β xs vs->B9 M β (xs.take k) (vs.take k)
 |xs,vs,0,h=>by simp only[List.take_zero,B9]
 |[],vs,k+1,h=>by simp only[B9]at h;subst h;simp only[List.take_nil,B9]
 |x::xs,vs,k+1,h=>by
  simp only[B9]at h;obtain⟨u,us,rfl,h1,h⟩:=h;simp only[List.take_succ_cons,B9];exact⟨u,us.take k,rfl,h1,h.take k⟩
theorem C0j {M:C4}{β:Nat->Option Nat}:∀{xs:List PV} {vs:List Value},B9 M β xs vs->xs.all PV.data=true->(∀u∈vs,u.oneCell'=true)->D7 M xs vs
 |[],vs,h,_,_=>by simp only[B9]at h;subst h;simp only[D7]
 |x::xs,vs,h,hd,h1=>by
  simp only[B9]at h;obtain⟨u,us,rfl,h2,h⟩:=h;simp only[Ci,Ae]at hd;simp only[D7];exact⟨u,us,rfl,h1 u (by simp),h2.data hd.1,C0j h hd.2 fun w hw=>h1 w (by simp[hw])⟩
theorem B02 {M:C4}{β:Nat->Option Nat}{cs:List PV}{vs:List Value}(h0:∀u∈vs,u.oneCell'=true)(h:B9 M β cs vs):C1 M β (D1v cs) (.agg vs.toArray):=by
 unfold D1v;split
 ·rename_i hd;refine C1.of_data ?_;simp only[B7];exact⟨vs,rfl,C0j h hd h0⟩
 ·simp only[C1];exact⟨vs,rfl,h0,h⟩
theorem D84 {P:Program}{M:C4}{β:Nat->Option Nat}{t:TypeId}{cells:List PV}{vs:List Value}{off:Nat}{v:PV}(ht:(P.info? t).isSome=true)(hu:∃d,P.underlying t=some d)(h:xQ P t cells off some=some v)(h0:∀u∈vs,u.oneCell'=true)(hr:B9 M β cells vs) :
  ∃u,(∀w,(part t vs.toArray off).run P w=.ok u w)/\C1 M β v u:=by
 unfold xQ at h;unfold part;split at h
 ·rename_i hag;obtain⟨hle,h⟩:=A5 h;injection h with h;subst h;refine⟨.agg ((vs.take (off+F9 P t)).drop off).toArray,fun w=>?_,?_⟩
  ·simp only[Sem.run_bind,mE ht hu,Result.andThen_ok,if_pos hag,L3 ht,Sem.run_pure];congr 2;simp[List.extract_toArray,List.drop_take]
  ·exact B02 (fun u hu=>h0 u (List.mem_of_mem_take (List.mem_of_mem_drop hu))) ((hr.take _).drop _)
 ·rename_i hag;obtain⟨x,hx,h⟩:=A6 h;injection h with h;subst h;obtain⟨u,h1,h3⟩:=hr.get hx;refine⟨u,fun w=>?_,h3⟩;simp only[Sem.run_bind,mE ht hu,Result.andThen_ok];rw[if_neg hag]
  have:vs.toArray[off]? =some u:=by simpa using h1
  rw[this];rfl
theorem bU {P:Program}{t:TypeId}{f:Nat}{fd:Field}(h:(fieldsOf P t).bind (·[f]?)=some fd):∃fs,P.underlying t=some (.struct fs)/\fs[f]? =some fd:=by
 unfold fieldsOf at h;split at h
 ·rename_i fs hfs;exact⟨fs,hfs,by simpa using h⟩
 ·simp at h
theorem C4z {t:TypeId}(hT:G5 en.P t){x:Operand}{f:Nat}(ho:o.op=.field t x f){act:C7}(h:A9 en st o some=some act):rZ en NG W st o act:=by
 simp only[A9,ho]at h;split at h
 ·rename_i fd cs hf hx;rw[gS]at h;obtain⟨v,hv,h⟩:=A6 h;injection h with h;subst h;refine C9 fun X a M β κ hI hG _=>?_;obtain⟨fs,hfs,hfd⟩:=bU hf;have hi:=hT.st fs hfs fd (Dc hfd);have hx':=(hI.ev hG t x).1;rw[hx]at hx';obtain⟨vs,he,hr⟩:=A9z hx';obtain⟨u,h1,h2⟩:=A1e hi (hT.st_un fs hfs fd (Dc hfd)) hv hr;exact⟨u,by simp[execOp,ho,Instr.field,C8 hfs,hfd,he,asAgg,h1],C1.of_data h2,.inl rfl⟩
 ·rename_i fd cs hf hx;rw[tV]at h;obtain⟨v,hv,h⟩:=A6 h;injection h with h;subst h;refine C9 fun X a M β κ hI hG _=>?_;obtain⟨fs,hfs,hfd⟩:=bU hf;have hi:=hT.st fs hfs fd (Dc hfd);have hx':=(hI.ev hG t x).1;rw[hx]at hx';obtain⟨vs,he,h0,hr⟩:=C2a hx';obtain⟨u,h1,h2⟩:=D84 hi (hT.st_un fs hfs fd (Dc hfd)) hv h0 hr;exact⟨u,by simp[execOp,ho,Instr.field,C8 hfs,hfd,he,asAgg,h1],h2,.inl rfl⟩
 ·cases h
theorem lU {i:Int}{n:Nat}(h:(decide (0<=i)&&decide (i<(n:Int)))=true):0<=i/\i<(n:Int):=by simpa using h
theorem C6e {t:TypeId}(hT:G5 en.P t){x y:Operand}(ho:o.op=.index t x y){act:C7}(h:A9 en st o some=some act):rZ en NG W st o act:=by
 simp only[A9,ho]at h;split at h
 ·rename_i s k i ht hx hy;obtain⟨hb,h⟩:=B8 h;obtain⟨c,hc,h⟩:=A6 h;injection h with h;subst h;have hb:=lU hb;refine C9 fun X a M β κ hI hG _=>?_;have hx':=(hI.ev hG t x).1;have hy':=(hI.ev hG 0 y).1;rw[hx]at hx';rw[hy]at hy';have hx':=dF hx';have hy':=M5 hy'
  have hg:(⟨s.toArray⟩:ByteArray)[i.toNat]? =some c:=by
   have hlt:i.toNat<s.length:=(Aj.1 hc).1;rw[getElem?_pos (⟨s.toArray⟩:ByteArray) i.toNat (show i.toNat<(⟨s.toArray⟩:ByteArray).size by simpa [ByteArray.size]using hlt)];rw[Ag hlt]at hc;injection hc with hc;rw[<-hc];rfl
  exact⟨_,by simp[execOp,ho,hx',hy',Instr.index,asIntOf,C8 ht,hb.1,hg],rfl,.inl rfl⟩
 ·rename_i n e cs k i ht hx hy;obtain⟨hb,h⟩:=B8 h;rw[gS]at h;obtain⟨v,hv,h⟩:=A6 h;injection h with h;subst h;have hb:=lU hb;refine C9 fun X a M β κ hI hG _=>?_;have hx':=(hI.ev hG t x).1;have hy':=(hI.ev hG 0 y).1;rw[hx]at hx';rw[hy]at hy';obtain⟨vs,he,hr⟩:=A9z hx';have hy':=M5 hy';have hi:=hT.ar n e ht;obtain⟨u,h1,h2⟩:=A1e hi (hT.ar_un n e ht) hv hr;exact⟨u,by simp[execOp,ho,he,hy',Instr.index,asIntOf,C8 ht,hb,L3 hi,h1],C1.of_data h2,.inl rfl⟩
 ·cases h
theorem qD {M:C4}{β:Nat->Option Nat}{cs:List PV}{v:Value}(h:C1 M β (.eptr cs) v):∃b o vs,v=.pointer (some ⟨b,o,none⟩)/\D7 M cs vs/\T6 M b o vs:=(show B7 M (.eptr cs) v from h)
theorem qU {M:C4}{β:Nat->Option Nat}{id off:Nat}{v:Value}(h:C1 M β (.ptr id off) v):∃b,β id=some b/\v=.pointer (some ⟨b,off,none⟩):=h
theorem A3w {M:C4}{β:Nat->Option Nat}{d i off:Nat}{v:Value}(h:C1 M β (.optr d i off) v):∃b,M.y.γ d i=some b/\v=.pointer (some ⟨b,off,none⟩):=h
theorem A4z {t:TypeId}(hT:G5 en.P t){x:Operand}{f:Nat}(ho:o.op=.fieldAddr t x f){act:C7}(h:A9 en st o some=some act):rZ en NG W st o act:=by
 simp only[A9,ho]at h;split at h
 ·rename_i fd id off hf hx;obtain⟨hz,h⟩:=vM h;injection h with h;subst h;refine C9 fun X a M β κ hI hG _=>?_;obtain⟨fs,hfs,hfd⟩:=bU hf;have hi:=hT.st fs hfs fd (Dc hfd);have hx':=(hI.ev hG t x).1;rw[hx]at hx';obtain⟨b,hb,he⟩:=qU hx';exact⟨_,by simp[execOp,ho,Instr.fieldAt,C8 hfs,hfd,he,Instr.sureAddr,fieldPlace,L3 hi,hz,V9],⟨b,hb,rfl⟩,.inl rfl⟩
 ·rename_i fd cs hf hx;obtain⟨hz,h⟩:=vM h;injection h with h;subst h;refine C9 fun X a M β κ hI hG _=>?_;obtain⟨fs,hfs,hfd⟩:=bU hf;have hi:=hT.st fs hfs fd (Dc hfd);have hx':=(hI.ev hG t x).1;rw[hx]at hx';obtain⟨b,off,vs,he,hr,hc⟩:=qD hx';exact⟨_,by simp[execOp,ho,Instr.fieldAt,C8 hfs,hfd,he,Instr.sureAddr,fieldPlace,L3 hi,hz,V9],⟨b,off+fd.offset,_,rfl,hr.drop _,hc.drop _⟩,.inl rfl⟩
 ·rename_i fd dd id off hf hx;obtain⟨hz,h⟩:=vM h;injection h with h;subst h;refine C9 fun X a M β κ hI hG _=>?_;obtain⟨fs,hfs,hfd⟩:=bU hf;have hi:=hT.st fs hfs fd (Dc hfd);have hx':=(hI.ev hG t x).1;rw[hx]at hx';obtain⟨b,hb,he⟩:=A3w hx';exact⟨_,by simp[execOp,ho,Instr.fieldAt,C8 hfs,hfd,he,Instr.sureAddr,fieldPlace,L3 hi,hz,V9],⟨b,hb,rfl⟩,.inl rfl⟩
 ·cases h
theorem A52 {t:TypeId}(hT:G5 en.P t){x y:Operand}(ho:o.op=.indexAddr t x y){act:C7}(h:A9 en st o some=some act):rZ en NG W st o act:=by
 simp only[A9,ho]at h;split at h
 ·rename_i e nl sz n cells k i ht hx hy;obtain⟨hs,h⟩:=A5 h;obtain⟨hb,h⟩:=B8 h;injection h with h;subst h;have hb:=lU hb;simp only[Ae,beq_iff_eq,decide_eq_true_eq]at hs;refine C9 fun X a M β κ hI hG _=>?_;have hx':=(hI.ev hG t x).1;have hy':=(hI.ev hG 0 y).1;rw[hx]at hx';rw[hy]at hy';have hy':=M5 hy';have hx':B7 M _ _:=hx';simp only[B7]at hx';obtain⟨A,c,vs,he,h1,h2,h3,h4,h5,h6,h7⟩:=hx';have hi:=hT.sl e ht
  have hlt:i.toNat<n:=by omega
  have hpos:0<vs.length:=by rw[<-h6.length,h5];exact Nat.mul_pos (by omega) hs.2
  rcases h7 with h7|⟨b,off,hA,h7⟩
  ·rw[h7]at hpos;simp at hpos
  subst hA;exact⟨_,by simp[execOp,ho,he,hy',Instr.indexAt,asIntOf,C8 ht,hb,L3 hi,V9,hs.1],⟨b,off+i.toNat * sz,_,rfl,(h6.drop _).take _,(h7.drop _).take _⟩,.inl rfl⟩
 ·rename_i e id off sz n k i ht hx hy;obtain⟨hs,h⟩:=A5 h;obtain⟨hb,h⟩:=B8 h;injection h with h;subst h;have hb:=lU hb;simp only[Ae,beq_iff_eq,decide_eq_true_eq]at hs;refine C9 fun X a M β κ hI hG _=>?_;have hx':=(hI.ev hG t x).1;have hy':=(hI.ev hG 0 y).1;rw[hx]at hx';rw[hy]at hy';have hy':=M5 hy';simp only[C1]at hx';obtain⟨b,c,hβ,he,_⟩:=hx';have hi:=hT.sl e ht;exact⟨_,by simp[execOp,ho,he,hy',Instr.indexAt,asIntOf,C8 ht,hb,L3 hi,V9,hs.1],⟨b,hβ,rfl⟩,.inl rfl⟩
 ·rename_i n e id off k i ht hx hy;obtain⟨hb,h⟩:=B8 h;injection h with h;subst h;have hb:=lU hb;refine C9 fun X a M β κ hI hG _=>?_;have hx':=(hI.ev hG t x).1;have hy':=(hI.ev hG 0 y).1;rw[hx]at hx';rw[hy]at hy';have hy':=M5 hy';obtain⟨b,hbb,he⟩:=qU hx';have hi:=hT.ar n e ht;exact⟨_,by simp[execOp,ho,he,hy',Instr.indexAt,Instr.sureAddr,asIntOf,C8 ht,hb,L3 hi,V9],⟨b,hbb,rfl⟩,.inl rfl⟩
 ·rename_i n e cs k i ht hx hy;obtain⟨hb,h⟩:=B8 h;injection h with h;subst h;have hb:=lU hb;refine C9 fun X a M β κ hI hG _=>?_;have hx':=(hI.ev hG t x).1;have hy':=(hI.ev hG 0 y).1;rw[hx]at hx';rw[hy]at hy';have hy':=M5 hy';obtain⟨b,off,vs,he,hr,hc⟩:=qD hx';have hi:=hT.ar n e ht;exact⟨_,by simp[execOp,ho,he,hy',Instr.indexAt,Instr.sureAddr,asIntOf,C8 ht,hb,L3 hi,V9],⟨b,off+i.toNat * F9 en.P e,_,rfl,hr.drop _,hc.drop _⟩,.inl rfl⟩
 ·cases h
theorem B7n {t:CT}{x y:PV}(h:rI t x some=some y):y=x:=by
 cases t<;>simp only[rI]at h
 case int k=>obtain⟨n,h1,h⟩:=A6 h;injection h with h;subst h;cases x<;>simp only[PV.asInt,reduceCtorEq]at h1;obtain⟨e,h2⟩:=A5 h1;injection h2 with h2;rw[h2,e]
 case bool=>obtain⟨n,h1,h⟩:=A6 h;injection h with h;subst h;cases x<;>simp only[PV.asBool,reduceCtorEq,Ah]at h1;rw[h1]
 case str=>obtain⟨n,h1,h⟩:=A6 h;injection h with h;subst h;cases x<;>simp only[PV.asStr,reduceCtorEq,Ah]at h1;rw[h1]
 case sl sz=>obtain⟨n,h1,h⟩:=A6 h;injection h with h;subst h;cases x<;>simp only[PV.asSl,reduceCtorEq]at h1;obtain⟨e,h2⟩:=A5 h1;injection h2 with h2;rw[<-h2,e]
 all_goals(obtain⟨_,h⟩:=A5 h;injection h with h;exact h.symm)
theorem tF:∀{ts:List CT} {xs ys:List PV},cG ts xs some=some ys->ys=xs.take ts.length
 |[],xs,ys,h=>by simp only[cG,Ah]at h;subst h;rfl
 |t::ts,xs,ys,h=>by
  simp only[cG]at h;obtain⟨x,hx,h⟩:=A6 h;rw[jN]at h;obtain⟨y,hy,h⟩:=A6 h;rw[fM]at h;obtain⟨zs,hz,h⟩:=A6 h;injection h with h;subst h;rw[B7n hy,tF hz]
  cases xs with
  |nil=>simp at hx
  |cons a l=>simp at hx;subst hx;rfl
theorem A3z {b:Bool}{ts:List CT}{xs r:List PV}(h:A3n b ts xs some=some r):cG ts xs some=some r:=by
 unfold A3n at h
 cases b with
 |false=>exact h
 |true =>
  simp only[if_true]at h;split at h
  ·obtain⟨x,h1,h⟩:=A6 h;obtain⟨es,h2,h⟩:=A6 h
   have hx:x=.eptr es:=by
    unfold PV.asE at h2;split at h2
    ·injection h2 with h2;rw[h2]
    ·cases h2
   subst hx;simp only[cG,h1,Aa];exact h
  ·cases h
theorem oP:∀{ts:List CT} {xs ys:List PV},cG ts xs some=some ys->ts.length<=xs.length
 |[],xs,ys,h=>Nat.zero_le _
 |t::ts,xs,ys,h=>by
  simp only[cG]at h;obtain⟨x,hx,h⟩:=A6 h;rw[jN]at h;obtain⟨y,hy,h⟩:=A6 h;rw[fM]at h;obtain⟨zs,hz,h⟩:=A6 h;have:=oP hz
  cases xs with
  |nil=>simp at hx
  |cons a l=>simp at this ⊢;exact this
theorem W8 {P:Program}{w:World}{t:TypeId}{b off:Nat}{vs:List Value}(hi:(P.info? t).isSome=true)(hu:∃d,P.underlying t=some d)(hlen:F9 P t=vs.length)(h:∀j u,vs[j]? =some u->w.cell? ⟨b,off+j,none⟩=some u)(h1:S9 P t=false->vs.length=1) :
  (loadVar t ⟨b,off,none⟩).run P w=.ok (if S9 P t then .agg vs.toArray else vs.headD undef) w:=by
 unfold loadVar;simp only[Sem.run_bind,mE hi hu,Result.andThen_ok]
 cases hag:S9 P t
 ·simp only[Bp,if_false];have:=h1 hag
  match vs,this with
  |[u],_ =>
   have:=h 0 u rfl;simp only[Nat.add_zero]at this;simp[run_load,this]
 ·simp only[if_true,Sem.run_bind,L3 hi,Result.andThen_ok,hlen];rw[run_loadCells_list (P:=P) w ⟨b,off,none⟩ vs (fun j v hj=>by rw[V9];exact h j v hj)];rfl
theorem B9u {t:TypeId}(hT:G5 en.P t){x:Operand}(ho:o.op=.load t x)(hti:(en.P.info? t).isSome=true){cs:List PV}(hx:(ev en st t x).1=.eptr cs){act:C7}(h:A9 en st o some=some act):rZ en NG W st o act:=by
 simp only[A9,ho,hx]at h;obtain⟨hsz,h⟩:=A5 h;rw[gX]at h;obtain⟨r,hr,h⟩:=A6 h;have hr:=A3z hr;have e1:=tF hr;have e2:=oP hr
 have key:∀{X:Cx} {a:Act} {M:C4} {β κ:Nat->Option Nat},I0 NG X st a M β κ->gO en X.M0->∃b off vs,a.eval x=.pointer (some ⟨b,off,none⟩)/\D7 M r vs/\vs.length=F9 en.P t/\∀j u,vs[j]? =some u->M.w.cell? ⟨b,off+j,none⟩=some u:=by
  intro X a M β κ hI hG;have hx':=(hI.ev hG t x).1;rw[hx]at hx';obtain⟨b,off,vs,he,hrl,hc⟩:=qD hx';refine⟨b,off,vs.take (A42 en.P t).length,he,by rw[e1];exact hrl.take _,?_,fun j u hj=>((hc.take _) j u hj).1⟩;rw[Cf,<-hrl.length,<-hsz];exact Nat.min_eq_left e2
 split at h
 ·rename_i hag;injection h with h;subst h;refine C9 fun X a M β κ hI hG _=>?_;obtain⟨b,off,vs,he,h1,h2,h3⟩:=key hI hG;have hl:=W8 (P:=en.P) (w:=M.w) hti (hT.un) h2.symm h3 (by simp[hag]);refine⟨.agg vs.toArray,by simp[execOp,ho,Instr.loadAt,he,Instr.sureAddr,hl,hag],?_,.inl rfl⟩;show B7 M (.agg r) _;simp only[B7];exact⟨vs,rfl,h1⟩
 ·rename_i hag;split at h
  ·injection h with h;subst h;refine C9 fun X a M β κ hI hG _=>?_;obtain⟨b,off,vs,he,h1,h2,h3⟩:=key hI hG;simp only[D7]at h1;obtain⟨u,us,rfl,k1,k2,rfl⟩:=h1;have hl:=W8 (P:=en.P) (w:=M.w) hti (hT.un) h2.symm h3 (by simp);exact⟨u,by simp[execOp,ho,Instr.loadAt,he,Instr.sureAddr,hl,hag],C1.of_data k2,.inl rfl⟩
  ·cases h
theorem B37 {x:Operand}{i:Nat}(ho:o.op=.extract x i){act:C7}(h:A9 en st o some=some act):rZ en NG W st o act:=by
 simp only[A9,ho]at h;split at h
 ·rename_i vs hx;obtain⟨v,hv,h⟩:=A6 h;obtain⟨hd,h⟩:=A5 h;injection h with h;subst h;refine C9 fun X a M β κ hI hG _=>?_;have hx':=(hI.ev hG 0 x).1;rw[hx]at hx';have hx':B7 M _ _:=hx';simp only[B7]at hx';obtain⟨us,he,hr⟩:=hx';obtain⟨u,h1,h2⟩:=hr.get hv
  have:us.toArray[i]? =some u:=by simpa using h1
  exact⟨u,by simp[execOp,ho,Instr.extract,he,h1],C1.of_data h2,.inl rfl⟩
 ·rename_i vs hx;obtain⟨v,hv,h⟩:=A6 h;injection h with h;subst h;refine C9 fun X a M β κ hI hG _=>?_;have hx':=(hI.ev hG 0 x).1;rw[hx]at hx';simp only[C1]at hx';obtain⟨us,he,hr⟩:=hx';obtain⟨u,h1,h2⟩:=hr.get hv;exact⟨u,by simp[execOp,ho,Instr.extract,he,h1],h2,.inl rfl⟩
 ·cases h
theorem A43 {P:Program}{t:TypeId}(h:¬lB P t=true){d:TypeDesc}(hd:P.underlying t=some d):∀m,d≠.interface m:=by
 intro m e;subst e;exact h (by unfold lB;rw[hd])
theorem vP {t:TypeId}(hT:G5 en.P t){x:Operand}(ho:o.op=.makeInterface t x)(hti:(en.P.info? t).isSome=true){act:C7}(h:A9 en st o some=some act):rZ en NG W st o act:=by
 simp only[A9,ho]at h;obtain⟨hni,h⟩:=vM h;obtain⟨hd,h⟩:=A5 h;injection h with h;subst h;refine C9 fun X a M β κ hI hG _=>?_;have hx':=(hI.ev hG t x).1.data hd;obtain⟨d,hdd⟩:=hT.un;have hne:=A43 hni hdd;refine⟨.iface t (a.eval x),?_,?_,.inl rfl⟩
 ·simp only[execOp,ho,Instr.makeInterface,Sem.run_bind,C8 hdd,Result.andThen_ok]
  cases d<;>first|rfl|exact(hne _ rfl).elim
 ·show B7 M (.iface _ _) _;simp only[B7];exact⟨_,rfl,hx'⟩
theorem A8w {x:Operand}(ho:o.op=.nilCheck x){act:C7}(h:A9 en st o some=some act):rZ en NG W st o act:=by
 simp only[A9,ho]at h;split at h
 ·rename_i id off c hx;injection h with h;subst h;refine C9 fun X a M β κ hI hG _=>?_;have hx':=(hI.ev hG 0 x).1;rw[hx]at hx';obtain⟨b,hb,he⟩:=qU hx';exact⟨_,by simp[execOp,ho,he],⟨b,hb,rfl⟩,.inl rfl⟩
 ·rename_i cs c hx;injection h with h;subst h;refine C9 fun X a M β κ hI hG _=>?_;have hx':=(hI.ev hG 0 x).1;rw[hx]at hx';obtain⟨b,off,vs,he,h1,h2⟩:=qD hx';exact⟨_,by simp[execOp,ho,he],⟨b,off,vs,rfl,h1,h2⟩,.inl rfl⟩
 ·rename_i f cs c hx;injection h with h;subst h;refine C9 fun X a M β κ hI hG _=>?_;have hx':=(hI.ev hG 0 x).1;rw[hx]at hx';obtain⟨vs,he,h1⟩:=hx';refine⟨pD f vs,?_,⟨vs,rfl,h1⟩,.inl rfl⟩;unfold pD at he ⊢;split at he
  ·rename_i hlt;simp[execOp,ho,he,hlt]
  ·rename_i hlt;simp[execOp,ho,he,hlt]
 ·rename_i c hx;injection h with h;subst h;refine C9 fun X a M β κ hI hG _=>?_;have hx':=(hI.ev hG 0 x).1;rw[hx]at hx';have he:a.eval x=.func (.yield M.y.l) #[] #[]:=hx';exact⟨_,by simp[execOp,ho,he],rfl,.inl rfl⟩
 ·rename_i d i off c hx;injection h with h;subst h;refine C9 fun X a M β κ hI hG _=>?_;have hx':=(hI.ev hG 0 x).1;rw[hx]at hx';obtain⟨b,hb,he⟩:=A3w hx';exact⟨_,by simp[execOp,ho,he],⟨b,hb,rfl⟩,.inl rfl⟩
 ·cases h
theorem A86 {fn:Fn}{first caps:Array Operand}(ho:o.op=.makeFunc fn first caps){act:C7}(h:A9 en st o some=some act):rZ en NG W st o act:=by
 simp only[A9,ho]at h;split at h
 ·rename_i f;obtain⟨hlt,h⟩:=A5 h
  have key:∀{X:Cx} {a:Act} {M:C4} {β κ:Nat->Option Nat},I0 NG X st a M β κ->gO en X.M0->∀l:List Operand,B9 M β (l.map fun x=>(ev en st 0 x).1) (l.map a.eval):=fun hI hG l=>by
   refine B9.of_get (by simp) fun j x u hx hu=>?_;rw[Az]at hx hu;obtain⟨y,hy,rfl⟩:=Am.1 hx;rw[hy]at hu;simp only[Aq,Ah]at hu;rw[<-hu];exact(hI.ev hG 0 y).1
  have arr:∀(l:Array Operand) (a:Act),l.map a.eval=(l.toList.map a.eval).toArray:=fun l a=>by apply Array.ext';simp
  split at h
  ·rename_i hf;injection h with h;subst h;refine C9 fun X a M β κ hI hG _=>?_
   have e0:first=#[]:=by simpa using hf
   refine⟨.func (.func f) #[] (caps.map a.eval),by simp[execOp,ho,Instr.makeFunc,e0],?_,.inl rfl⟩;simp only[C1];exact⟨caps.toList.map a.eval,by rw[arr,pD,if_pos hlt],key hI hG _⟩
  ·obtain⟨hf,h⟩:=A5 h;injection h with h;subst h;refine C9 fun X a M β κ hI hG _=>?_
   have e0:caps=#[]:=by simpa using hf
   refine⟨.func (.func f) (first.map a.eval) #[],by simp[execOp,ho,Instr.makeFunc,e0],?_,.inl rfl⟩;simp only[C1];exact⟨first.toList.map a.eval,by rw[arr,pD,if_neg (Nat.not_lt.mpr (Nat.le_add_left 1000000 f)),Nat.add_sub_cancel],key hI hG _⟩
 ·cases h
end
end Go.Proofs.YtkpfigikffphdaaGreatDoor
end
