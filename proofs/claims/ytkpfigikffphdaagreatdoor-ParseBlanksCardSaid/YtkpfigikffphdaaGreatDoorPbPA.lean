/-
  Lemmas, part P1: what the claim needs of the texts of wip/tpl.
-/
import Derived.WalkKit
import Derived.WalkLawsBesides
import Derived.WalkSpells
import Derived.Still
import Derived.Laws.OwnMore
import Derived.Laws.MakeOwn
import Derived.LoopN
import Derived.CallsIn
import Derived.Laws.StructEq
set_option linter.unusedVariables false
set_option linter.unusedSimpArgs false
section
namespace Go.Proofs.YtkpfigikffphdaaGreatDoor
open Go.RowKit
inductive PV where
 |undef
 |bool (b:Bool)
 |int (k:IntKind) (n:Int)
 |str (s:List UInt8)
 |sl (nl:Option Bool) (sz n:Nat) (cells:List PV)
 |agg (cells:List PV)
 |tuple (vs:List PV)
 |nilptr
 |nptr
 |nilIface
 |iface (t:TypeId) (v:PV)
 |nilFunc
 |ptr (b off:Nat)
 |eptr (cells:List PV)
 |clo (f:FuncId) (caps:List PV)
 |agp (cells:List PV)
 |tupp (vs:List PV)
 |yld
 |optr (d i off:Nat)
 |bsl (id off sz n:Nat)
 deriving Inhabited
structure Handed where
 l:Nat
 γ:Nat→Nat→Option Nat
structure Mem where
 w:World
 U:Nat→Nat
 y:Handed
def cloV (f:FuncId)(vs:List Value):Value:=if f<1000000 then .func (.func f) #[] vs.toArray else .func (.func (f-1000000)) vs.toArray #[]
def CellsAt (M:Mem)(b o:Nat)(vs:List Value):Prop:=∀ j u,vs[j]? = some u→M.w.cell? ⟨b,o+j,none⟩=some u∧o+j<M.U b
mutual
def RelD (M:Mem):PV→Value→Prop
 | .undef,_=>True
 | .bool b,v=>v=.bool b
 | .int k n,v=>v=.int k n
 | .str s,v=>v=.string ⟨s.toArray⟩
 | .sl nl sz n cells,v=>∃ A c vs,v=.slice A n c∧n≤c∧c≤maxLen∧(∀ b,nl=some b→A.isNone=b)∧(A=none→c=0)∧cells.length=n * sz∧RelL M cells vs ∧
   (vs=[]∨∃ b o,A=some ⟨b,o,none⟩∧CellsAt M b o vs)
 | .agg cells,v=>∃ vs,v=.agg vs.toArray∧RelL M cells vs
 | .tuple xs,v=>∃ vs,v=.tuple vs.toArray∧RelT M xs vs
 | .nilptr,v=>v=.pointer none
 | .nptr,v=>∃ a,v=.pointer (some a)
 | .nilIface,v=>v=.nilIface
 | .iface t x,v=>∃ u,v=.iface t u∧RelD M x u
 | .nilFunc,v=>v=.nilFunc
 | .ptr _ _,_=>False
 | .eptr cs,v=>∃ b o vs,v=.pointer (some ⟨b,o,none⟩)∧RelL M cs vs∧CellsAt M b o vs
 | .clo f caps,v=>caps=[]∧v=cloV f []
 | .agp _,_=>False
 | .tupp _,_=>False
 | .yld,_=>False
 | .optr _ _ _,_=>False
 | .bsl _ _ _ _,_=>False
def RelL (M:Mem):List PV→List Value→Prop
 |[],vs=>vs=[]
 |x::xs,vs=>∃ u us,vs=u::us∧u.oneCell'=true∧RelD M x u∧RelL M xs us
def RelT (M:Mem):List PV→List Value→Prop
 |[],vs=>vs=[]
 |x::xs,vs=>∃ u us,vs=u::us∧RelD M x u∧RelT M xs us
end
def Sized (w:World)(b k:Nat):Prop:=∃ arr e,w.heap[b]? = some (.cells arr e (0,0))∧k≤arr.size
structure Mem.le (M M':Mem):Prop where
 cell:∀ b o u,M.w.cell? ⟨b,o,none⟩=some u→o<M.U b→M'.w.cell? ⟨b,o,none⟩=some u∧o<M'.U b
 y:M'.y=M.y
 size:∀ b k,Sized M.w b k→Sized M'.w b k
theorem Mem.le_refl (M:Mem):M.le M:=⟨fun _ _ _ h k=>⟨h,k⟩,rfl,fun _ _ h=>h⟩
theorem Mem.le_trans {A B C:Mem}(h:A.le B)(k:B.le C):A.le C:=⟨fun b o u h1 h2=>let ⟨h3,h4⟩:=h.cell b o u h1 h2;k.cell b o u h3 h4,k.y.trans h.y,fun b n q=>k.size b n (h.size b n q)⟩
theorem CellsAt.mono {M M':Mem}(hm:M.le M'){b o:Nat}{vs:List Value}(h:CellsAt M b o vs):CellsAt M' b o vs :=
 fun j u hu=>hm.cell _ _ _ (h j u hu).1 (h j u hu).2
mutual
theorem RelD.mono {M M':Mem}(hm:M.le M'):∀ (x:PV) (v:Value),RelD M x v→RelD M' x v
 | .undef,_,_=>trivial
 | .bool _,_,h=>h
 | .int _ _,_,h=>h
 | .str _,_,h=>h
 | .sl nl sz n cells,v,h=>by
  simp only[RelD] at h ⊢
  obtain⟨A,c,vs,h1,h2,h3,h4,h5,h6,h7,h8⟩:=h
  exact⟨A,c,vs,h1,h2,h3,h4,h5,h6,RelL.mono hm cells vs h7,h8.imp id fun ⟨b,o,e,k⟩=>⟨b,o,e,k.mono hm⟩⟩
 | .agg cells,v,h=>by
  simp only[RelD] at h ⊢
  obtain⟨vs,h1,h2⟩:=h
  exact⟨vs,h1,RelL.mono hm cells vs h2⟩
 | .tuple cells,v,h=>by
  simp only[RelD] at h ⊢
  obtain⟨vs,h1,h2⟩:=h
  exact⟨vs,h1,RelT.mono hm cells vs h2⟩
 | .nilptr,_,h=>h
 | .nptr,_,h=>h
 | .nilIface,_,h=>h
 | .iface t x,v,h=>by
  simp only[RelD] at h ⊢
  obtain⟨u,h1,h2⟩:=h
  exact⟨u,h1,RelD.mono hm x u h2⟩
 | .nilFunc,_,h=>h
 | .ptr _ _,_,h=>h.elim
 | .eptr cells,v,h=>by
  simp only[RelD] at h ⊢
  obtain⟨b,o,vs,h1,h2,h3⟩:=h
  exact⟨b,o,vs,h1,RelL.mono hm cells vs h2,h3.mono hm⟩
 | .clo _ _,_,h=>h
 | .agp _,_,h=>h.elim
 | .tupp _,_,h=>h.elim
 | .yld,_,h=>h.elim
 | .optr _ _ _,_,h=>h.elim
 | .bsl _ _ _ _,_,h=>h.elim
theorem RelL.mono {M M':Mem}(hm:M.le M'):∀ (xs:List PV) (vs:List Value),RelL M xs vs→RelL M' xs vs
 |[],_,h=>h
 |x::xs,vs,h=>by
  simp only[RelL] at h ⊢
  obtain⟨u,us,h1,h2,h3,h4⟩:=h
  exact⟨u,us,h1,h2,RelD.mono hm x u h3,RelL.mono hm xs us h4⟩
theorem RelT.mono {M M':Mem}(hm:M.le M'):∀ (xs:List PV) (vs:List Value),RelT M xs vs→RelT M' xs vs
 |[],_,h=>h
 |x::xs,vs,h=>by
  simp only[RelT] at h ⊢
  obtain⟨u,us,h1,h3,h4⟩:=h
  exact⟨u,us,h1,RelD.mono hm x u h3,RelT.mono hm xs us h4⟩
end
theorem RelL.length {M:Mem}:∀ {xs:List PV} {vs:List Value},RelL M xs vs→xs.length=vs.length
 |[],vs,h=>by simp only[RelL] at h;subst h;rfl
 |x::xs,vs,h=>by
  simp only[RelL] at h
  obtain⟨u,us,rfl,_,_,h⟩:=h
  simp[RelL.length h]
theorem RelL.get {M:Mem}:∀ {xs:List PV} {vs:List Value},RelL M xs vs→∀ {j:Nat} {x:PV},xs[j]? = some x→∃ u,vs[j]? = some u∧u.oneCell'=true∧RelD M x u
 |[],vs,h,j,x,hx=>by simp at hx
 |y::xs,vs,h,j,x,hx=>by
  simp only[RelL] at h
  obtain⟨u,us,rfl,h1,h2,h⟩:=h
  cases j with
  |zero=>simp at hx;subst hx;exact⟨u,rfl,h1,h2⟩
  |succ j=>obtain⟨v,g⟩:=h.get (j:=j) (by simpa using hx);exact⟨v,by simpa using g⟩
theorem RelL.append {M:Mem}:∀ {xs ys:List PV} {vs us:List Value},RelL M xs vs→RelL M ys us→RelL M (xs++ys) (vs++us)
 |[],ys,vs,us,h,k=>by simp only[RelL] at h;subst h;exact k
 |x::xs,ys,vs,us,h,k=>by
  simp only[RelL] at h
  obtain⟨u,ws,rfl,h1,h2,h⟩:=h
  exact⟨u,ws++us,rfl,h1,h2,h.append k⟩
theorem RelL.drop {M:Mem}:∀ {xs:List PV} {vs:List Value} (k:Nat),RelL M xs vs→RelL M (xs.drop k) (vs.drop k)
 |xs,vs,0,h=>h
 |[],vs,k+1,h=>by simp only[RelL] at h;subst h;rfl
 |x::xs,vs,k+1,h=>by
  simp only[RelL] at h
  obtain⟨u,us,rfl,_,_,h⟩:=h
  exact h.drop k
theorem RelL.take {M:Mem}:∀ {xs:List PV} {vs:List Value} (k:Nat),RelL M xs vs→RelL M (xs.take k) (vs.take k)
 |xs,vs,0,h=>rfl
 |[],vs,k+1,h=>by simp only[RelL] at h;subst h;rfl
 |x::xs,vs,k+1,h=>by
  simp only[RelL] at h
  obtain⟨u,us,rfl,h1,h2,h⟩:=h
  exact⟨u,us.take k,rfl,h1,h2,h.take k⟩
theorem RelL.one {M:Mem}:∀ {xs:List PV} {vs:List Value},RelL M xs vs→∀ u∈vs,u.oneCell'=true
 |[],vs,h=>by simp only[RelL] at h;subst h;simp
 |x::xs,vs,h=>by
  simp only[RelL] at h
  obtain⟨u,us,rfl,h1,_,h⟩:=h
  intro v hv
  cases hv with
  |head=>exact h1
  |tail _ hv=>exact h.one v hv
theorem RelT.get {M:Mem}:∀ {xs:List PV} {vs:List Value},RelT M xs vs→∀ {j:Nat} {x:PV},xs[j]? = some x→∃ u,vs[j]? = some u∧RelD M x u
 |[],vs,h,j,x,hx=>by simp at hx
 |y::xs,vs,h,j,x,hx=>by
  simp only[RelT] at h
  obtain⟨u,us,rfl,h2,h⟩:=h
  cases j with
  |zero=>simp at hx;subst hx;exact⟨u,rfl,h2⟩
  |succ j=>obtain⟨v,g⟩:=h.get (j:=j) (by simpa using hx);exact⟨v,by simpa using g⟩
theorem RelT.length {M:Mem}:∀ {xs:List PV} {vs:List Value},RelT M xs vs→xs.length=vs.length
 |[],vs,h=>by simp only[RelT] at h;subst h;rfl
 |x::xs,vs,h=>by
  simp only[RelT] at h
  obtain⟨u,us,rfl,_,h⟩:=h
  simp[RelT.length h]
theorem CellsAt.drop {M:Mem}{b o:Nat}{vs:List Value}(h:CellsAt M b o vs)(k:Nat):CellsAt M b (o+k) (vs.drop k):=by
 intro j u hu
 rw[List.getElem?_drop] at hu
 have:=h _ _ hu
 rwa [← Nat.add_assoc] at this
theorem CellsAt.take {M:Mem}{b o:Nat}{vs:List Value}(h:CellsAt M b o vs)(k:Nat):CellsAt M b o (vs.take k):=by
  intro j u hu
  rw[List.getElem?_take] at hu
  split at hu
  · exact h _ _ hu
  · cases hu
/-! ## what slots hold: also pointers to boxes of the call's own,closures,the loop body that was handed in -/
mutual
def RelS (M:Mem)(β:Nat→Option Nat):PV→Value→Prop
 | .ptr id off,v=>∃ b,β id=some b∧v=.pointer (some ⟨b,off,none⟩)
 | .clo f caps,v=>∃ vs,v=cloV f vs∧RelCs M β caps vs
 | .agp cells,v=>∃ vs,v=.agg vs.toArray∧(∀ u∈vs,u.oneCell'=true)∧RelCs M β cells vs
 | .tupp xs,v=>∃ vs,v=.tuple vs.toArray∧RelCs M β xs vs
 | .yld,v=>v=.func (.yield M.y.l) #[] #[]
 | .optr d i off,v=>∃ b,M.y.γ d i=some b∧v=.pointer (some ⟨b,off,none⟩)
 | .bsl id off sz n,v=>∃ b c,β id=some b∧v=.slice (some ⟨b,off,none⟩) n c∧n≤c∧c≤maxLen∧Sized M.w b (off+c * sz)
 |x,v=>RelD M x v
def RelCs (M:Mem)(β:Nat→Option Nat):List PV→List Value→Prop
 |[],vs=>vs=[]
 |x::xs,vs=>∃ u us,vs=u::us∧RelS M β x u∧RelCs M β xs us
end
def PV.data:PV→Bool
 | .ptr _ _=>false
 | .clo _ []=>true
 | .clo _ (_::_)=>false
 | .agp _=>false
 | .tupp _=>false
 | .yld=>false
 | .optr _ _ _=>false
 | .bsl _ _ _ _=>false
 |_=>true
theorem RelS.data {M:Mem}{β:Nat→Option Nat}{x:PV}{v:Value}(h:RelS M β x v)(hd:x.data=true):RelD M x v:=by
 cases x with
 |clo f caps =>
  cases caps with
  |nil =>
   simp only[RelS,RelCs] at h
   obtain⟨vs,rfl,rfl⟩:=h
   exact⟨rfl,rfl⟩
  |cons c cs=>simp[PV.data] at hd
 |_=>first|(simp only[PV.data] at hd;cases hd;done)|(simpa only[RelS] using h)
theorem RelS.of_data {M:Mem}{β:Nat→Option Nat}{x:PV}{v:Value}(h:RelD M x v):RelS M β x v:=by
 cases x with
 |clo f caps =>
  simp only[RelD] at h
  obtain⟨rfl,rfl⟩:=h
  simp only[RelS]
  exact⟨[],rfl,by simp only[RelCs]⟩
 |ptr b o=>simp[RelD] at h
 |agp cs=>simp[RelD] at h
 |tupp cs=>simp[RelD] at h
 |yld=>simp[RelD] at h
 |optr d i o=>simp[RelD] at h
 |bsl _ _ _ _=>simp[RelD] at h
 |_=>simpa only[RelS] using h
mutual
theorem RelS.mono {M M':Mem}{β β':Nat→Option Nat}(hm:M.le M')(hb:∀ id b,β id=some b→β' id=some b):∀ {x:PV} {v:Value},RelS M β x v→RelS M' β' x v
 | .ptr id off,v,h=>by simp only[RelS] at h ⊢;obtain⟨b,h1,h2⟩:=h;exact⟨b,hb _ _ h1,h2⟩
 | .clo f caps,v,h=>by simp only[RelS] at h ⊢;obtain⟨vs,h1,h2⟩:=h;exact⟨vs,h1,RelCs.mono hm hb h2⟩
 | .agp cells,v,h=>by simp only[RelS] at h ⊢;obtain⟨vs,h1,h0,h2⟩:=h;exact⟨vs,h1,h0,RelCs.mono hm hb h2⟩
 | .tupp cells,v,h=>by simp only[RelS] at h ⊢;obtain⟨vs,h1,h2⟩:=h;exact⟨vs,h1,RelCs.mono hm hb h2⟩
 | .yld,v,h=>by simp only[RelS] at h ⊢;rw[hm.y];exact h
 | .optr d i o,v,h=>by simp only[RelS] at h ⊢;rw[hm.y];exact h
 | .bsl id off sz n,v,h=>by simp only[RelS] at h ⊢;obtain⟨b,c,h1,h2,h3,h4,h5⟩:=h;exact⟨b,c,hb _ _ h1,h2,h3,h4,hm.size _ _ h5⟩
 | .undef,v,h=>RelS.of_data (RelD.mono hm _ _ (h.data rfl))
 | .bool _,v,h=>RelS.of_data (RelD.mono hm _ _ (h.data rfl))
 | .int _ _,v,h=>RelS.of_data (RelD.mono hm _ _ (h.data rfl))
 | .str _,v,h=>RelS.of_data (RelD.mono hm _ _ (h.data rfl))
 | .sl _ _ _ _,v,h=>RelS.of_data (RelD.mono hm _ _ (h.data rfl))
 | .agg _,v,h=>RelS.of_data (RelD.mono hm _ _ (h.data rfl))
 | .tuple _,v,h=>RelS.of_data (RelD.mono hm _ _ (h.data rfl))
 | .nilptr,v,h=>RelS.of_data (RelD.mono hm _ _ (h.data rfl))
 | .nptr,v,h=>RelS.of_data (RelD.mono hm _ _ (h.data rfl))
 | .nilIface,v,h=>RelS.of_data (RelD.mono hm _ _ (h.data rfl))
 | .iface _ _,v,h=>RelS.of_data (RelD.mono hm _ _ (h.data rfl))
 | .nilFunc,v,h=>RelS.of_data (RelD.mono hm _ _ (h.data rfl))
 | .eptr _,v,h=>RelS.of_data (RelD.mono hm _ _ (h.data rfl))
theorem RelCs.mono {M M':Mem}{β β':Nat→Option Nat}(hm:M.le M')(hb:∀ id b,β id=some b→β' id=some b):∀ {xs:List PV} {vs:List Value},RelCs M β xs vs→RelCs M' β' xs vs
 |[],_,h=>by simp only[RelCs] at h ⊢;exact h
 |x::xs,vs,h=>by
  simp only[RelCs] at h ⊢
  obtain⟨u,us,h1,h2,h3⟩:=h
  exact⟨u,us,h1,RelS.mono hm hb h2,RelCs.mono hm hb h3⟩
end
theorem RelCs.length {M:Mem}{β:Nat→Option Nat}:∀ {xs:List PV} {vs:List Value},RelCs M β xs vs→xs.length=vs.length
 |[],vs,h=>by simp only[RelCs] at h;subst h;rfl
 |x::xs,vs,h=>by
  simp only[RelCs] at h
  obtain⟨u,us,rfl,_,h⟩:=h
  simp[RelCs.length h]
theorem RelCs.get {M:Mem}{β:Nat→Option Nat}:∀ {xs:List PV} {vs:List Value},RelCs M β xs vs→∀ {j:Nat} {x:PV},xs[j]? = some x→∃ u,vs[j]? = some u∧RelS M β x u
 |[],vs,h,j,x,hx=>by simp at hx
 |y::xs,vs,h,j,x,hx=>by
  simp only[RelCs] at h
  obtain⟨u,us,rfl,h2,h⟩:=h
  cases j with
  |zero=>simp at hx;subst hx;exact⟨u,rfl,h2⟩
  |succ j=>obtain⟨v,g⟩:=h.get (j:=j) (by simpa using hx);exact⟨v,by simpa using g⟩
theorem RelCs.append {M:Mem}{β:Nat→Option Nat}:∀ {xs ys:List PV} {vs us:List Value},RelCs M β xs vs→RelCs M β ys us→RelCs M β (xs++ys) (vs++us)
 |[],ys,vs,us,h,k=>by simp only[RelCs] at h;subst h;exact k
 |x::xs,ys,vs,us,h,k=>by
  simp only[RelCs,List.cons_append] at h ⊢
  obtain⟨u,ws,rfl,h1,h⟩:=h
  exact⟨u,ws++us,rfl,h1,h.append k⟩
theorem RelCs.of_get {M:Mem}{β:Nat→Option Nat}:∀ {xs:List PV} {vs:List Value},xs.length=vs.length→(∀ (j:Nat) (x:PV) (u:Value),xs[j]? = some x→vs[j]? = some u→RelS M β x u)→RelCs M β xs vs
 |[],vs,hl,_=>by simp at hl;simp only[RelCs];exact List.eq_nil_of_length_eq_zero hl.symm
 |x::xs,[],hl,_=>by simp at hl
 |x::xs,u::vs,hl,h=>by
  simp only[RelCs]
  exact⟨u,vs,rfl,h 0 x u rfl rfl,RelCs.of_get (by simpa using hl) fun j y v h1 h2=>h (j+1) y v (by simpa using h1) (by simpa using h2)⟩
theorem RelCs.of_relT {M:Mem}{β:Nat→Option Nat}:∀ {xs:List PV} {vs:List Value},RelT M xs vs→RelCs M β xs vs
 |[],vs,h=>by simp only[RelT] at h;subst h;simp only[RelCs]
 |x::xs,vs,h=>by
  simp only[RelT] at h
  obtain⟨u,us,rfl,h1,h2⟩:=h
  simp only[RelCs]
  exact⟨u,us,rfl,RelS.of_data h1,RelCs.of_relT h2⟩
theorem RelCs.data {M:Mem}{β:Nat→Option Nat}:∀ {xs:List PV} {vs:List Value},RelCs M β xs vs→xs.all PV.data=true→RelT M xs vs
 |[],vs,h,_=>by simp only[RelCs] at h;subst h;simp only[RelT]
 |x::xs,vs,h,hd=>by
  simp only[RelCs] at h
  obtain⟨u,us,rfl,h1,h2⟩:=h
  simp only[List.all_cons,Bool.and_eq_true] at hd
  simp only[RelT]
  exact⟨u,us,rfl,h1.data hd.1,RelCs.data h2 hd.2⟩
end Go.Proofs.YtkpfigikffphdaaGreatDoor
namespace Go.Proofs.YtkpfigikffphdaaGreatDoor
open Go.RowKit
abbrev TV:=PV×Nat
inductive Jump where
 |ret
 |exit (id:Nat)
inductive Out where
 |nil
 |fr (bx:List (Option (List TV))) (fin:Option Jump) (o:Out)
structure St where
 ρ:List TV
 bx:List (Option (List TV))
 out:Out
structure PFn where
 F:{R:Type}→List PV→(PV→Option R)→Option R
 own:Bool
structure HFn where
 F:{R:Type}→List (List PV)→List PV→(List (List PV)→PV→Option R)→Option R
structure YFn where
 F:{R:Type}→List (List PV)→Out→List PV→(List (List PV)→Out→Bool→Option R)→Option R
structure IFn where
 F:{R:Type}→List (List PV)→Out→List PV→YFn→(List (List PV)→Out→PV→Option R)→Option R
structure NFn where
 F:{R:Type}→List PV→(Nat→Nat→List PV→Option R)→Option R
structure CFn where
 F:{R:Type}→Nat→Nat→List PV→List PV→(Nat→List PV→Option R)→Option R
structure Env where
 P:Program
 E:FuncId→Option PFn
 G:Nat→Option (List PV)
 H:FuncId→Option HFn
 I:FuncId→Option IFn
 N:FuncId→Option NFn
 C:FuncId→Option CFn
 Y:Option (Nat×YFn)
 R:TypeId→Bool
inductive PAct where
 |skip
 |val (v:PV) (tag:Nat)
 |load (id off n:Nat) (agg:Bool)
 |store (id off:Nat) (cells:List TV)
 |mk (cells:List TV)
 |own (c:Nat) (v:PV)
 |hcall (ws:List (Nat×List PV)) (n0:Option (List PV)) (more:List (List PV)) (v:PV) (o:Option Out)
 |cons (id:Nat) (cells:List PV) (v:PV)
inductive CT where
 |int (k:IntKind)|bool|str|sl (sz:Nat)|ptr|iface|func|other
def szOf (P:Program)(t:TypeId):Nat:=((P.info? t).map (·.size)).getD 0
def bytesOf (P:Program)(t:TypeId):Nat:=((P.info? t).map (·.bytes)).getD 0
def isAggT (P:Program)(t:TypeId):Bool :=
 match P.underlying t with
 |some (.struct _)=>true
 |some (.array _ _)=>true
 |_=>false
def elemT (P:Program)(t:TypeId):Option TypeId :=
 match P.underlying t with
 |some (.slice e)=>some e
 |_=>none
def cellTys (P:Program):Nat→TypeId→List CT
 |0,_=>[.other]
 |n+1,t =>
  match P.underlying t with
  |some .bool=>[.bool]
  |some (.int k)=>[.int k]
  |some .string=>[.str]
  |some (.slice e)=>[.sl (szOf P e)]
  |some (.pointer _)=>[.ptr]
  |some (.interface _)=>[.iface]
  |some (.func _ _ _)=>[.func]
  |some (.struct fs)=>fs.toList.flatMap fun f=>cellTys P n f.type
  |some (.array len e)=>(List.replicate len (cellTys P n e)).flatten
  |_=>[.other]
def tysOf (P:Program)(t:TypeId):List CT:=cellTys P 12 t
def CT.zero:CT→PV
 | .int k=>.int k 0
 | .bool=>.bool false
 | .str=>.str []
 | .sl sz=>.sl (some true) sz 0 []
 | .ptr=>.nilptr
 | .iface=>.nilIface
 | .func=>.nilFunc
 | .other=>.undef
def CT.fits:CT→Value→Bool
 | .int k,.int k' n=>decide (k=k')&&n==0
 | .bool,.bool b=>!b
 | .str,.string s=>s.data.toList.isEmpty
 | .sl _,.slice none n c=>n==0&&c==0
 | .ptr,.pointer none=>true
 | .iface,.nilIface=>true
 | .func,.nilFunc=>true
 | .other,v=>v.oneCell'
 |_,_=>false
def fitsAll:List CT→List Value→Bool
 |[],[]=>true
 |t::ts,v::vs=>t.fits v&&fitsAll ts vs
 |_,_=>false
def zeroPV (P:Program)(t:TypeId):Option (List PV) :=
 match (P.info? t).bind (·.zero) with
 |some z=>if fitsAll (tysOf P t) z.cells.toList&&szOf P t==z.cells.size then some ((tysOf P t).map CT.zero) else none
 |none=>none
def PV.asInt (k:IntKind):PV→Option Int
 | .int k' n=>if k'=k then some n else none
 |_=>none
def PV.asBool:PV→Option Bool
 | .bool b=>some b
 |_=>none
def PV.asStr:PV→Option (List UInt8)
 | .str s=>some s
 |_=>none
def PV.asSl (sz:Nat):PV→Option (Option Bool×Nat×List PV)
 | .sl nl sz' n cells=>if sz'=sz then some (nl,n,cells) else none
 |_=>none
def refine1 {R:Type}(t:CT)(x:PV)(k:PV→Option R):Option R :=
 match t with
 | .int i=>(x.asInt i).bind fun n=>k (.int i n)
 | .bool=>x.asBool.bind fun b=>k (.bool b)
 | .str=>x.asStr.bind fun s=>k (.str s)
 | .sl sz=>(x.asSl sz).bind fun p=>k (.sl p.1 sz p.2.1 p.2.2)
 |_=>if x.data then k x else none
def refineL {R:Type}:List CT→List PV→(List PV→Option R)→Option R
 |[],_,k=>k []
 |t::ts,xs,k=>xs.head?.bind fun x=>refine1 t x fun y=>refineL ts xs.tail fun ys=>k (y::ys)
def PV.asE:PV→Option (List PV)
 | .eptr cs=>some cs
 |_=>none
def eload {R:Type}(b:Bool)(ts:List CT)(cs:List PV)(k:List PV→Option R):Option R :=
 if b then
  match ts with
  |[.ptr]=>cs.head?.bind fun x=>x.asE.bind fun es=>k [.eptr es]
  |_=>none
 else refineL ts cs k
def constPV (P:Program)(t:TypeId):Value→TV
 | .bool b=>(.bool b,0)
 | .int k n=>(.int k n,0)
 | .string s=>(.str s.data.toList,0)
 | .slice none n c=>if n=0∧c=0 then (.sl (some true) ((elemT P t).elim 0 (szOf P)) 0 [],1) else (.undef,0)
 | .pointer none=>(.nilptr,0)
 | .nilIface=>(.nilIface,0)
 | .nilFunc=>(.nilFunc,0)
 |_=>(.undef,0)
def ev (en:Env)(st:St)(t:TypeId):Operand→TV
 | .tmp u=>st.ρ.getD u (.undef,0)
 | .const v=>constPV en.P t v
 | .global g=>match en.G g with
  |some cs=>(.eptr cs,0)
  |none=>(.undef,0)
 | .func f=>if f<1000000 then (.clo f [],0) else (.undef,0)
def pint {R:Type}(op:BinOp)(k:IntKind)(a b:Int)(kk:PV→Option R):Option R :=
 match op with
 | .add=>kk (.int k (k.wrap (a+b)))
 | .sub=>kk (.int k (k.wrap (a-b)))
 | .mul=>kk (.int k (k.wrap (a * b)))
 | .quo=>bif b==0 then none else kk (.int k (k.wrap (a.tdiv b)))
 | .rem=>bif b==0 then none else kk (.int k (a.tmod b))
 | .eql=>kk (.bool (a==b))
 | .neq=>kk (.bool (a != b))
 | .lss=>kk (.bool (decide (a<b)))
 | .leq=>kk (.bool (decide (a≤b)))
 | .gtr=>kk (.bool (decide (b<a)))
 | .geq=>kk (.bool (decide (b≤a)))
 | .shl=>none
 | .shr=>none
 | .and=>kk (.int k (k.wrap (BitVec.ofInt k.bits a &&& BitVec.ofInt k.bits b).toNat))
 | .or=>kk (.int k (k.wrap (BitVec.ofInt k.bits a ||| BitVec.ofInt k.bits b).toNat))
 | .xor=>kk (.int k (k.wrap (BitVec.ofInt k.bits a ^^^ BitVec.ofInt k.bits b).toNat))
 | .andNot=>kk (.int k (k.wrap (BitVec.ofInt k.bits a &&& ~~~BitVec.ofInt k.bits b).toNat))
def pstr {R:Type}(op:BinOp)(a b:List UInt8)(kk:PV→Option R):Option R :=
 match op with
 | .add=>bif decide (a.length+b.length≤9223372036854775807) then kk (.str (a++b)) else none
 | .eql=>kk (.bool (a==b))
 | .neq=>kk (.bool (a != b))
 | .lss=>kk (.bool (Op.bytesLess a b))
 | .leq=>kk (.bool (Op.bytesLess a b||a==b))
 | .gtr=>kk (.bool (!(Op.bytesLess a b||a==b)))
 | .geq=>kk (.bool (!Op.bytesLess a b))
 |_=>none
def isBoolT (P:Program)(t:TypeId):Bool:=match P.underlying t with|some .bool=>true|_=>false
def isSliceT (P:Program)(t:TypeId):Bool:=match P.underlying t with|some (.slice _)=>true|_=>false
def isPtrT (P:Program)(t:TypeId):Bool:=match P.underlying t with|some (.pointer _)=>true|_=>false
def isIfaceT (P:Program)(t:TypeId):Bool:=match P.underlying t with|some (.interface _)=>true|_=>false
def isFuncT (P:Program)(t:TypeId):Bool:=match P.underlying t with|some (.func _ _ _)=>true|_=>false
def nilCmp (P:Program)(t:TypeId)(x:PV)(c:Value):Option Bool :=
 match c with
 | .slice none _ _=>if isSliceT P t then match x with
  | .sl nl _ _ _=>nl
  | .bsl _ _ _ _=>some false
  |_=>none
  else none
 | .pointer none=>if isPtrT P t then match x with
  | .nilptr=>some true
  | .nptr=>some false
  | .ptr _ _=>some false
  | .eptr _=>some false
  | .optr _ _ _=>some false
  |_=>none
  else none
 | .nilIface=>if isIfaceT P t then match x with
  | .nilIface=>some true
  | .iface _ _=>some false
  |_=>none
  else none
 | .nilFunc=>if isFuncT P t then match x with
  | .nilFunc=>some true
  | .clo _ _=>some false
  | .yld=>some false
  |_=>none
  else none
 |_=>none
def ppart {R:Type}(P:Program)(t:TypeId)(cells:List PV)(off:Nat)(kk:PV→Option R):Option R :=
 if isAggT P t then
  if off+szOf P t≤cells.length then kk (.agg ((cells.take (off+szOf P t)).drop off)) else none
 else cells[off]?.bind kk
def aggP (cs:List PV):PV:=if cs.all PV.data then .agg cs else .agp cs
def ppartP {R:Type}(P:Program)(t:TypeId)(cells:List PV)(off:Nat)(kk:PV→Option R):Option R :=
 if isAggT P t then
  if off+szOf P t≤cells.length then kk (aggP ((cells.take (off+szOf P t)).drop off)) else none
 else cells[off]?.bind kk
def eqFs (P : Program) (g:TypeId→PV→PV→Option Bool) (xs ys:List PV):List Field→Option Bool
  | []=>some true
  | f :: fs =>
    if f.name ≠ "_" then
      if (P.info? f.type).isSome && (P.underlying f.type).isSome then
        match ppart P f.type xs f.offset some,ppart P f.type ys f.offset some with
        | some x,some y=>match g f.type x y with
          | some b=>match eqFs P g xs ys fs with
            | some r=>some (bif b then r else false)
            | none=>none
          | none=>none
        | _,_=>none
      else none
    else eqFs P g xs ys fs
def eqP (P:Program):Nat→TypeId→PV→PV→Option Bool
 |0,_,_,_=>none
 |d+1,t,x,y =>
  match P.underlying t,x,y with
  |some (.int _),.int k a,.int k' b=>if k=k' then some (a==b) else none
  |some .bool,.bool a,.bool b=>some (a==b)
  |some .string,.str a,.str b=>some (a==b)
  |some (.struct fs),.agg xs,.agg ys=>if P.stoodInHeld t then none else eqFs P (eqP P d) xs ys fs.toList
  |_,_,_=>none
def pbin {R:Type}(P:Program)(op:BinOp)(t:TypeId)(ox oy:Operand)(x y:PV)(kk:PV→Option R):Option R :=
 match x,y with
 | .int kx a,.int ky b =>
  match op with
  | .shl=>bif decide (b<0) then none else kk (.int kx (kx.wrap (a * 2^(min b.toNat kx.bits))))
  | .shr=>bif decide (b<0) then none else kk (.int kx (a.fdiv (2^(min b.toNat kx.bits))))
  |op=>if kx=ky then pint op kx a b kk else none
 | .str a,.str b=>pstr op a b kk
 | .bool a,.bool b =>
  if isBoolT P t then
   match op with
   | .eql=>kk (.bool (a==b))
   | .neq=>kk (.bool (!(a==b)))
   |_=>none
  else none
 | .agg xs,.agg ys =>
  if P.eqGuardType P.depth t then none else
   match op with
   | .eql=>(eqP P 20 t (.agg xs) (.agg ys)).bind fun b=>kk (.bool b)
   | .neq=>(eqP P 20 t (.agg xs) (.agg ys)).bind fun b=>kk (.bool (!b))
   |_=>none
 |x,y =>
  match oy with
  | .const c =>
   match op with
   | .eql=>(nilCmp P t x c).bind fun b=>kk (.bool b)
   | .neq=>(nilCmp P t x c).bind fun b=>kk (.bool (!b))
   |_=>none
  |_=>none
def pun {R:Type}(op:UnOp)(x:PV)(kk:PV→Option R):Option R :=
 match op,x with
 | .neg,.int k n=>kk (.int k (k.wrap (0-n)))
 | .xor,.int k n=>kk (.int k (k.wrap (BitVec.ofInt k.bits (if k.signed then -1 else k.max) ^^^ BitVec.ofInt k.bits n).toNat))
 | .not,.bool b=>kk (.bool (!b))
 |_,_=>none
def pbytes:List PV→Option (List UInt8)
 |[]=>some []
 |x::xs=>(x.asInt .u8).bind fun n=>(pbytes xs).bind fun l=>some (UInt8.ofNat n.toNat::l)
def bytePV (c:UInt8):PV:=.int .u8 c.toNat
def pconv {R:Type}(P:Program)(src dst:TypeId)(x:PV)(kk:PV→Option R):Option R :=
 match P.underlying src,P.underlying dst,x with
 |some (.int _),some (.int k),.int _ n=>kk (.int k (k.wrap n))
 |some .string,some .string,.str s=>kk (.str s)
 |some .string,some (.slice e),.str s =>
  match P.underlying e with
  |some (.int .u8)=>if szOf P e=1 then bif decide (s.length≤9223372036854775807) then kk (.sl (some false) 1 s.length (s.map bytePV)) else none else none
  |_=>none
 |some (.slice e),some .string,.sl _ sz n cells =>
  match P.underlying e with
  |some (.int .u8)=>if sz=1 then (pbytes cells).bind fun l=>kk (.str l) else none
  |_=>none
 |_,_,_=>none
def pbound {R:Type}(x:PV)(m:Nat)(kk:Nat→Option R):Option R :=
 match x with
 | .int _ i=>bif decide (0≤i)&&decide (i≤m) then kk i.toNat else none
 |_=>none
def pboundO {R:Type}(x:Option PV)(dflt m:Nat)(kk:Nat→Option R):Option R :=
 match x with
 |some x=>pbound x m kk
 |none=>kk dflt
def pslice {R:Type}(P:Program)(t:TypeId)(x:PV)(lo hi mx:Option PV)(kk:TV→Option R):Option R :=
 match P.underlying t,x with
 |some .string,.str s =>
  match mx with
  |some _=>none
  |none=>pboundO hi s.length s.length fun h=>pboundO lo 0 h fun l=>kk (.str ((s.take h).drop l),0)
 |some (.slice e),.sl nl sz n cells =>
  if szOf P e=sz then
   match mx with
   |some m=>pbound m n fun m=>pboundO (hi.or (some .undef)) m m fun h=>pboundO lo 0 h fun l=>kk (.sl nl sz (h-l) ((cells.take (h * sz)).drop (l * sz)),if h=m then 1 else 0)
   |none=>pboundO hi n n fun h=>pboundO lo 0 h fun l=>kk (.sl nl sz (h-l) ((cells.take (h * sz)).drop (l * sz)),0)
  else none
 |some (.slice e),.bsl id off sz n =>
  if szOf P e=sz then
   match mx with
   |some _=>none
   |none=>pboundO hi n n fun h=>pboundO lo 0 h fun l=>bif decide (l=0)||decide (l<h) then kk (.bsl id (off+l * sz) sz (h-l),0) else none
  else none
 |_,_=>none
def fieldsOf (P:Program)(t:TypeId):Option (Array Field) :=
 match P.underlying t with
 |some (.struct fs)=>some fs
 |_=>none
def pcells (x:TV):Option (List TV) :=
 match x with
 |(.agg cs,_)=>some (cs.map fun y=>(y,0))
 |(.bool b,_)=>some [(.bool b,0)]
 |(.int k n,_)=>some [(.int k n,0)]
 |(.str s,_)=>some [(.str s,0)]
 |(.sl nl sz n cs,c)=>some [(.sl nl sz n cs,c)]
 |(.nilptr,_)=>some [(.nilptr,0)]
 |(.nptr,_)=>some [(.nptr,0)]
 |(.nilIface,_)=>some [(.nilIface,0)]
 |(.iface t v,_)=>some [(.iface t v,0)]
 |(.nilFunc,_)=>some [(.nilFunc,0)]
 |(.eptr cs,_)=>some [(.eptr cs,0)]
 |(.ptr id off,_)=>some [(.ptr id off,0)]
 |(.clo f caps,_)=>some [(.clo f caps,0)]
 |(.agp cs,_)=>some (cs.map fun y=>(y,0))
 |(.yld,_)=>some [(.yld,0)]
 |(.optr d i off,_)=>some [(.optr d i off,0)]
 |(.bsl id off sz n,_)=>some [(.bsl id off sz n,0)]
 |_=>none
def pfill (cells:List PV):List (Nat×List PV)→Option (List PV)
 |[]=>some cells
 |(off,cs)::rest=>if off+cs.length≤cells.length then pfill (cells.take off++cs++cells.drop (off+cs.length)) rest else none
def allData (cs:List TV):Bool:=cs.all fun x=>x.1.data
def pbuildPartsP (en:Env)(st:St)(place:Nat→Option (Nat×Nat×TypeId)):List (Nat×Operand)→Option (List (Nat×List PV))
 |[]=>some []
 |(i,x)::rest =>
  match place i with
  |some (off,sz,t) =>
   match pcells (ev en st t x) with
   |some cs=>if cs.length=sz then (pbuildPartsP en st place rest).map fun r=>(off,cs.map (·.1))::r else none
   |none=>none
  |none=>none
def pbuildParts (en:Env)(st:St)(place:Nat→Option (Nat×Nat×TypeId)):List (Nat×Operand)→Option (List (Nat×List PV))
 |[]=>some []
 |(i,x)::rest =>
  match place i with
  |some (off,sz,t) =>
   match pcells (ev en st t x) with
   |some cs=>if cs.length=sz&&allData cs then (pbuildParts en st place rest).map fun r=>(off,cs.map (·.1))::r else none
   |none=>none
  |none=>none
def roomB:Nat:=140737488355328
def pmaxV (a:Int):List PV→Option Int
 |[]=>some a
 | .int _ b::xs=>pmaxV (if b>a then b else a) xs
 |_::_=>none
def pbuiltin {R:Type}(P:Program)(b:Builtin)(ts:Array TypeId)(xs:List TV)(kk:PAct→Option R):Option R :=
 match b,xs with
 | .len,[x] =>
  match ts[0]?.bind P.underlying,x.1 with
  |some .string,.str s=>kk (.val (.int .i64 s.length) 0)
  |some (.slice _),.sl _ _ n _=>kk (.val (.int .i64 n) 0)
  |some (.slice _),.bsl _ _ _ n=>kk (.val (.int .i64 n) 0)
  |some (.array n _),_=>kk (.val (.int .i64 n) 0)
  |_,_=>none
 | .max,[x,y] =>
  match x.1,y.1 with
  | .int k a,.int _ b=>kk (.val (.int k (if b>a then b else a)) 0)
  | .str a,.str b=>kk (.val (.str (bif Op.bytesLess a b then b else a)) 0)
  |_,_=>none
 | .min,[x,y] =>
  match x.1,y.1 with
  | .int k a,.int _ b=>kk (.val (.int k (if b<a then b else a)) 0)
  |_,_=>none
 | .max,[x,y,z] =>
  match x.1,y.1,z.1 with
  | .int k a,.int _ b,.int _ c=>kk (.val (.int k (if c>(if b>a then b else a) then c else if b>a then b else a)) 0)
  |_,_,_=>none
 | .max,x::y::z::w::rest =>
  match x.1 with
  | .int k a=>(pmaxV a ((y::z::w::rest).map (·.1))).bind fun m=>kk (.val (.int k m) 0)
  |_=>none
 | .append,[s,x] =>
  match ts[0]?.bind (elemT P),s.1 with
  |some e,.sl nl sz n cells =>
   if szOf P e=sz&&decide (0<sz)&&decide (s.2≠0)&&(zeroPV P e).isSome then
    match (ts[1]?).bind P.underlying,x.1 with
    |some (.slice e'),.sl _ sz' m cells' =>
     if sz'=sz then
      bif decide (n+m≤9223372036854775807)&&decide ((n+m) * bytesOf P e≤roomB) then kk (.own s.2 (.sl (nl.map (· && (m==0))) sz (n+m) (cells++cells'))) else none
     else none
    |some .string,.str q =>
     if sz=1 then
      bif decide (n+q.length≤9223372036854775807)&&decide ((n+q.length) * bytesOf P e≤roomB) then kk (.own s.2 (.sl (nl.map (· && (q.length==0))) 1 (n+q.length) (cells++q.map bytePV))) else none
     else none
    |_,_=>none
   else none
  |_,_=>none
 |_,_=>none
def argTVs (en:Env)(st:St):List Operand→List TypeId→List TV
 |[],_=>[]
 |x::xs,ts=>ev en st (ts.headD 0) x::argTVs en st xs ts.tail
def distinct:List Nat→Bool
 |[]=>true
 |x::xs=>!xs.contains x&&distinct xs
def ptrsOf:Nat→PV→List Nat
 |0,_=>[]
 |n+1,x =>
  match x with
  | .ptr id _=>[id]
  | .bsl id _ _ _=>[id]
  | .clo _ caps=>caps.flatMap (ptrsOf n)
  | .agp cs=>cs.flatMap (ptrsOf n)
  | .tupp cs=>cs.flatMap (ptrsOf n)
  |_=>[]
def mapO {α β:Type}(f:α→Option β):List α→Option (List β)
 |[]=>some []
 |x::xs=>match f x with
  |some y=>match mapO f xs with
   |some ys=>some (y::ys)
   |none=>none
  |none=>none
def renP (σ:Nat→Option Nat)(o:Bool):Nat→PV→Option PV
 |0,x=>if x.data then some x else none
 |n+1,x =>
  match x with
  | .ptr id off=>match σ id with
   |some j=>some (.ptr j off)
   |none=>none
  | .bsl id off sz m=>match σ id with
   |some j=>some (.bsl j off sz m)
   |none=>none
  | .clo f caps=>match mapO (renP σ o n) caps with
   |some cs=>some (.clo f cs)
   |none=>none
  | .agp cs=>match mapO (renP σ o n) cs with
   |some cs=>some (.agp cs)
   |none=>none
  | .tupp cs=>match mapO (renP σ o n) cs with
   |some cs=>some (.tupp cs)
   |none=>none
  | .yld=>if o then some .yld else none
  | .optr d i off=>if o then some (.optr d i off) else none
  |x=>some x
def cellsAt (bx:List (Option (List TV)))(id:Nat):Option (List PV) :=
 match bx[id]? with
 |some (some cs)=>some (cs.map (·.1))
 |_=>none
def reachB (bx:List (Option (List TV))):Nat→List Nat→List Nat→Option (List Nat)
 |0,todo,seen=>if todo.isEmpty then some seen else none
 |n+1,todo,seen =>
  match todo with
  |[]=>some seen
  |id::todo=>if seen.contains id then reachB bx n todo seen else
   match cellsAt bx id with
   |some cs=>reachB bx n (todo++cs.flatMap (ptrsOf 4)) (seen++[id])
   |none=>none
def posOf:List Nat→Nat→Nat→Option Nat
 |[],_,_=>none
 |i::is,k,id=>if i==id then some k else posOf is (k+1) id
def backId (ids:List Nat)(d n:Nat)(j:Nat):Option Nat :=
 match ids[j]? with
 |some id=>some id
 |none=>if j=ids.length then some d else some (n+(j-ids.length-1))
def zipN:List Nat→List (List PV)→List (Nat×List PV)
 |i::is,c::cs=>(i,c)::zipN is cs
 |_,_=>[]
def phback {R:Type}(bx:List (Option (List TV)))(ids:List Nat)(dst:Option Tmp)(bs:List (List PV))(v:PV)(kk:PAct→Option R):Option R :=
 match dst with
 |none =>
  if bs.length=ids.length then
   match mapO (mapO (renP (fun j=>ids[j]?) false 4)) bs,renP (fun j=>ids[j]?) false 4 v with
   |some bs,some v=>kk (.hcall (zipN ids bs) none [] v none)
   |_,_=>none
  else none
 |some d =>
  if ids.length≤bs.length then
   match mapO (mapO (renP (backId ids d bx.length) false 4)) bs,renP (backId ids d bx.length) false 4 v with
   |some bs,some v =>
    match bs.drop ids.length with
    |[]=>kk (.hcall (zipN ids bs) none [] v none)
    |b::more=>kk (.hcall (zipN ids bs) (some b) more v none)
   |_,_=>none
  else none
def phcall {R:Type}(bx:List (Option (List TV)))(dst:Option Tmp)(p:HFn)(xs:List PV)(kk:PAct→Option R):Option R :=
 match reachB bx 40 (xs.flatMap (ptrsOf 4)) [] with
 |some ids =>
  if distinct ids then
   match mapO (cellsAt bx) ids,mapO (renP (posOf ids 0) false 4) xs with
   |some bs,some xs =>
    match mapO (mapO (renP (posOf ids 0) false 4)) bs with
    |some bs=>p.F bs xs fun bs' v=>phback bx ids dst bs' v kk
    |none=>none
   |_,_=>none
  else none
 |none=>none
def lentIds (n k:Nat):List Nat:=(List.range k).map (n + ·)
def lentBs (bx:List (Option (List TV)))(ids:List Nat):Option (List (List PV)) :=
 match mapO (cellsAt bx) ids with
 |some bs=>mapO (mapO (renP (posOf ids 0) false 4)) bs
 |none=>none
def piback {R:Type}(ids:List Nat)(bs:List (List PV))(o:Out)(v:PV)(kk:PAct→Option R):Option R :=
 if bs.length=ids.length then
  match mapO (mapO (renP (fun j=>ids[j]?) false 4)) bs,renP (fun j=>ids[j]?) false 4 v with
  |some bs,some v=>kk (.hcall (zipN ids bs) none [] v (some o))
  |_,_=>none
 else none
def pycall {R:Type}(st:St)(k:Nat)(y:YFn)(xs:List PV)(kk:PAct→Option R):Option R :=
 match lentBs st.bx (lentIds st.ρ.length k),mapO (renP (posOf (lentIds st.ρ.length k) 0) false 4) xs with
 |some bs,some xs=>y.F bs st.out xs fun bs o b=>piback (lentIds st.ρ.length k) bs o (.bool b) kk
 |_,_=>none
def picall {R:Type}(st:St)(k:Nat)(y:YFn)(p:IFn)(xs:List PV)(kk:PAct→Option R):Option R :=
 match lentBs st.bx (lentIds st.ρ.length k),mapO (renP (posOf (lentIds st.ρ.length k) 0) true 4) xs with
 |some bs,some xs=>p.F bs st.out xs y fun bs o v=>piback (lentIds st.ρ.length k) bs o v kk
 |_,_=>none
def tupOf:PV→Option (List PV)
 | .tuple xs=>some xs
 |_=>none
def arrB:List TV→Option (List PV)
 |[x]=>tupOf x.1
 |_=>none
def arrAt (bx:List (Option (List TV)))(id:Nat):Option (List PV) :=
 match bx[id]? with
 |some (some cs)=>arrB cs
 |_=>none
def pncall {R:Type}(dst:Option Tmp)(p:NFn)(xs:List PV)(kk:PAct→Option R):Option R :=
 match dst with
 |some d=>p.F xs fun sz n cells=>kk (.hcall [] (some [.tuple cells]) [] (.bsl d 0 sz n) none)
 |none=>none
def pccall {R:Type}(st:St)(dst:Option Tmp)(p:CFn)(xs:List PV)(kk:PAct→Option R):Option R :=
 match xs,dst with
 | .bsl id off sz n::ys,some d =>
  match arrAt st.bx id with
  |some cells=>if off=0&&decide (id<st.ρ.length)&&ys.all PV.data then p.F sz n cells ys fun n' cells'=>bif decide (n' * sz≤cells'.length) then kk (.cons id [] (.sl (some false) sz n' (cells'.take (n' * sz)))) else none else none
  |none=>none
 |_,_=>none
def presolve {R : Type} (en:Env) (st:St) (o:Oper) (kk:PAct→Option R):Option R :=
  match o.op with
  | .move x=>kk (.val (ev en st o.type x).1 (if isSliceT en.P o.type then (ev en st o.type x).2 else 0))
  | .assign x=>kk (.val (ev en st o.type x).1 (if isSliceT en.P o.type then (ev en st o.type x).2 else 0))
  | .pick c a b =>
    match (ev en st o.type c).1 with
    | .bool cb =>
      match (ev en st o.type a).1,(ev en st o.type b).1 with
      | .bool x,.bool y=>kk (.val (.bool (bif cb then x else y)) 0)
      | x,y=>bif cb then kk (.val x 0) else kk (.val y 0)
    | _=>none
  | .binOp op t x y yt=>pbin en.P op t x y (ev en st t x).1 (ev en st t y).1 fun v=>kk (.val v 0)
  | .unOp op t x=>pun op (ev en st t x).1 fun v=>kk (.val v 0)
  | .convert s d x=>pconv en.P s d (ev en st s x).1 fun v=>kk (.val v 0)
  | .slice t x lo hi mx=>pslice en.P t (ev en st t x).1 (lo.map fun y=>(ev en st 0 y).1) (hi.map fun y=>(ev en st 0 y).1) (mx.map fun y=>(ev en st 0 y).1) fun v=>kk (.val v.1 v.2)
  | .field t x f =>
    match (fieldsOf en.P t).bind (·[f]?),(ev en st t x).1 with
    | some fd,.agg cs=>ppart en.P fd.type cs fd.offset fun v=>kk (.val v 0)
    | some fd,.agp cs=>ppartP en.P fd.type cs fd.offset fun v=>kk (.val v 0)
    | _,_=>none
  | .index t x i =>
    match en.P.underlying t,(ev en st t x).1,(ev en st 0 i).1 with
    | some .string,.str s,.int _ i=>bif decide (0≤i) && decide (i < s.length) then s[i.toNat]?.bind fun c=>kk (.val (bytePV c) 0) else none
    | some (.array n e),.agg cs,.int _ i=>bif decide (0≤i) && decide (i < n) then ppart en.P e cs (i.toNat * szOf en.P e) fun v=>kk (.val v 0) else none
    | _,_,_=>none
  | .fieldAddr t x f =>
    match (fieldsOf en.P t).bind (·[f]?),(ev en st t x).1 with
    | some fd,.ptr id off=>if szOf en.P fd.type=0 then none else kk (.val (.ptr id (off + fd.offset)) 0)
    | some fd,.eptr cs=>if szOf en.P fd.type=0 then none else kk (.val (.eptr (cs.drop fd.offset)) 0)
    | some fd,.optr d i off=>if szOf en.P fd.type=0 then none else kk (.val (.optr d i (off + fd.offset)) 0)
    | _,_=>none
  | .indexAddr t x i =>
    match en.P.underlying t,(ev en st t x).1,(ev en st 0 i).1 with
    | some (.slice e),.sl nl sz n cells,.int _ i =>
      if szOf en.P e=sz && decide (0 < sz) then bif decide (0≤i) && decide (i < n) then kk (.val (.eptr ((cells.drop (i.toNat * sz)).take sz)) 0) else none else none
    | some (.slice e),.bsl id off sz n,.int _ i=>if szOf en.P e=sz && decide (0 < sz) then bif decide (0≤i) && decide (i < n) then kk (.val (.ptr id (off + i.toNat * sz)) 0) else none else none
    | some (.array n e),.ptr id off,.int _ i=>bif decide (0≤i) && decide (i < n) then kk (.val (.ptr id (off + i.toNat * szOf en.P e)) 0) else none
    | some (.array n e),.eptr cs,.int _ i=>bif decide (0≤i) && decide (i < n) then kk (.val (.eptr (cs.drop (i.toNat * szOf en.P e))) 0) else none
    | _,_,_=>none
  | .load t a =>
    match (ev en st t a).1 with
    | .ptr id off=>kk (.load id off (szOf en.P t) (isAggT en.P t))
    | .eptr cs=>if (tysOf en.P t).length=szOf en.P t then
        eload (en.R t) (tysOf en.P t) cs fun r=>if isAggT en.P t then kk (.val (.agg r) 0) else match r with
          | [x]=>kk (.val x 0)
          | _=>none
      else none
    | _=>none
  | .store t a x =>
    match (ev en st t a).1,pcells (ev en st t x) with
    | .ptr id off,some cs=>if cs.length=szOf en.P t then kk (.store id off cs) else none
    | _,_=>none
  | .alloc t =>
    match zeroPV en.P t with
    | some cs=>kk (.mk (cs.map fun x=>(x,0)))
    | none=>none
  | .box t x =>
    match pcells (ev en st t x) with
    | some cs=>kk (.mk cs)
    | none=>none
  | .nilCheck x =>
    match ev en st 0 x with
    | (.ptr id off,c)=>kk (.val (.ptr id off) 0)
    | (.eptr cs,c)=>kk (.val (.eptr cs) 0)
    | (.clo f cs,c)=>kk (.val (.clo f cs) 0)
    | (.yld,c)=>kk (.val .yld 0)
    | (.optr d i off,c)=>kk (.val (.optr d i off) 0)
    | _=>none
  | .build t parts =>
    match zeroPV en.P t with
    | some z =>
      match en.P.underlying t with
      | some (.struct fs) =>
        match pbuildParts en st (fun i=>fs[i]?.map fun f=>(f.offset,szOf en.P f.type,f.type)) parts.toList with
        | some ps=>match pfill z ps with
          | some cs=>kk (.val (.agg cs) 0)
          | none=>none
        | none =>
          match pbuildPartsP en st (fun i=>fs[i]?.map fun f=>(f.offset,szOf en.P f.type,f.type)) parts.toList with
          | some ps=>match pfill z ps with
            | some cs=>kk (.val (.agp cs) 0)
            | none=>none
          | none=>none
      | some (.array n e) =>
        match pbuildParts en st (fun i=>some (i * szOf en.P e,szOf en.P e,e)) parts.toList with
        | some ps=>match pfill z ps with
          | some cs=>kk (.val (.agg cs) 0)
          | none=>none
        | none=>none
      | _=>none
    | none=>none
  | .buildSlice t len parts =>
    match elemT en.P t with
    | some e =>
      if len * szOf en.P e≤1000 then
        match zeroPV en.P e with
        | some z=>if z.length=szOf en.P e && decide (0 < szOf en.P e) then
            match pbuildParts en st (fun i=>some (i * szOf en.P e,szOf en.P e,e)) parts.toList with
            | some ps=>match pfill ((List.replicate len z).flatten) ps with
              | some cs=>kk (.val (.sl (some false) (szOf en.P e) len cs) 1)
              | none=>none
            | none=>none
          else none
        | none=>none
      else none
    | none=>none
  | .makeSlice t l c =>
    match elemT en.P t,(ev en st 0 l).1,(ev en st 0 c).1 with
    | some e,.int _ n,.int _ m =>
      match zeroPV en.P e with
      | some z =>
        if z.length=szOf en.P e && decide (0 < szOf en.P e) then
          bif decide (0≤n) && decide (n≤m) && decide (m * bytesOf en.P e≤roomB) && decide (m≤9223372036854775807) then kk (.own 0 (.sl (some false) (szOf en.P e) n.toNat ((List.replicate n.toNat z).flatten))) else none
        else none
      | none=>none
    | _,_,_=>none
  | .extract x i =>
    match (ev en st 0 x).1 with
    | .tuple vs=>vs[i]?.bind fun v=>if v.data then kk (.val v 0) else none
    | .tupp vs=>vs[i]?.bind fun v=>kk (.val v 0)
    | _=>none
  | .makeInterface t x =>
    if isIfaceT en.P t then none else
    match (ev en st t x).1 with
    | v=>if v.data then kk (.val (.iface t v) 0) else none
  | .call c =>
    match c.callee with
    | .builtin b=>pbuiltin en.P b c.argTypes (argTVs en st c.args.toList c.argTypes.toList) kk
    | .value f =>
      match (ev en st 0 f).1 with
      | .clo fid caps =>
        if 1000000≤fid then
          match en.H (fid - 1000000) with
          | some p=>phcall st.bx o.dst p (caps ++ (argTVs en st c.args.toList c.argTypes.toList).map (·.1)) kk
          | none=>none
        else
        match en.E fid with
        | some fn =>
          if allData (argTVs en st c.args.toList c.argTypes.toList) && caps.all PV.data then fn.F ((argTVs en st c.args.toList c.argTypes.toList).map (·.1) ++ caps) fun v=>if fn.own then kk (.own 0 v) else kk (.val v 0) else none
        | none =>
          match en.H fid with
          | some p=>phcall st.bx o.dst p ((argTVs en st c.args.toList c.argTypes.toList).map (·.1) ++ caps) kk
          | none =>
            match en.N fid with
            | some p=>if allData (argTVs en st c.args.toList c.argTypes.toList) && caps.all PV.data then pncall o.dst p ((argTVs en st c.args.toList c.argTypes.toList).map (·.1) ++ caps) kk else none
            | none =>
              match en.C fid with
              | some p=>pccall st o.dst p ((argTVs en st c.args.toList c.argTypes.toList).map (·.1) ++ caps) kk
              | none =>
                match en.I fid,en.Y with
                | some p,some (k,y)=>picall st k y p ((argTVs en st c.args.toList c.argTypes.toList).map (·.1) ++ caps) kk
                | _,_=>none
      | .yld =>
        match en.Y with
        | some (k,y)=>pycall st k y ((argTVs en st c.args.toList c.argTypes.toList).map (·.1)) kk
        | none=>none
      | _=>none
    | .invoke _ _=>none
  | .makeFunc fn first caps =>
    match fn with
    | .func f=>if f < 1000000 then (if first.isEmpty then kk (.val (.clo f (caps.toList.map fun x=>(ev en st 0 x).1)) 0) else if caps.isEmpty then kk (.val (.clo (f + 1000000) (first.toList.map fun x=>(ev en st 0 x).1)) 0) else none) else none
    | _=>none
  | _=>none
def typeOK (P:Program)(t:TypeId):Bool :=
 match P.underlying t with
 |some (.slice e)=>(P.underlying e).isSome
 |some (.array _ e)=>(P.underlying e).isSome
 |some (.struct fs)=>fs.all fun f=>(P.underlying f.type).isSome
 |some _=>true
 |none=>false
def opOK (P:Program)(o:Oper):Bool :=
 match o.op with
 | .load t _=>typeOK P t&&(isAggT P t||szOf P t==1)
 | .store t _ _=>typeOK P t
 | .build t _=>typeOK P t
 | .buildSlice t _ _=>typeOK P t
 | .makeSlice t _ _=>typeOK P t
 | .slice t _ _ _ _=>typeOK P t
 | .fieldAddr t _ _=>typeOK P t
 | .field t _ _=>typeOK P t
 | .indexAddr t _ _=>typeOK P t
 | .index t _ _=>typeOK P t
 | .makeInterface t _=>typeOK P t
 | .call c=>match c.argTypes[0]? with
  |some t=>typeOK P t
  |none=>true
 |_=>true
def putS (d:Option Tmp)(v:TV)(st:St):St :=
 match d with
 |some d=>{ st with ρ:=st.ρ.set d v }
 |none=>st
def clr (c:Nat)(x:TV):TV:=if c=x.2&&decide (2≤c) then (x.1,0) else x
def St.clr (c:Nat)(st:St):St:=⟨st.ρ.map (Go.Proofs.YtkpfigikffphdaaGreatDoor.clr c),st.bx.map (Option.map (List.map (Go.Proofs.YtkpfigikffphdaaGreatDoor.clr c))),st.out⟩
def killV (id:Nat)(x:PV):PV:=(renP (fun j=>if j=id then none else some j) true 4 x).getD .undef
def killT (id:Nat)(x:TV):TV:=(killV id x.1,x.2)
def St.kill (id:Nat)(st:St):St:=⟨st.ρ.map (killT id),(st.bx.map (Option.map (List.map (killT id)))).set id none,st.out⟩
def bxStore (cs:List TV)(off:Nat)(cells:List TV):Option (List TV) :=
 match arrB cs with
 |some xs=>bif allData cells&&decide (off+cells.length≤xs.length) then some [(.tuple (xs.take off++cells.map (·.1)++xs.drop (off+cells.length)),0)] else none
 |none=>if off+cells.length≤cs.length then some (cs.take off++cells++cs.drop (off+cells.length)) else none
def actVal (act:PAct)(bx:List (Option (List TV))):Option TV :=
 match act with
 | .skip=>some (.tuple [],0)
 | .val v c=>some (v,c)
 | .load id off n agg =>
  match bx[id]? with
  |some (some cs)=>match arrB cs with
   |some xs=>if agg then if off+n≤xs.length then some (.agg ((xs.take (off+n)).drop off),0) else none else (xs[off]?).map fun x=>(x,0)
   |none=>if agg then if off+n≤cs.length then some (aggP (((cs.take (off+n)).drop off).map (·.1)),0) else none else cs[off]?
  |_=>none
 |_=>none
def setBoxes:List (Nat×List PV)→List (Option (List TV))→List (Option (List TV))
 |[],bx=>bx
 |(i,cs)::ws,bx=>setBoxes ws (bx.set i (some (cs.map fun x=>(x,0))))
def papply (act:PAct)(d:Option Tmp)(st:St):Option St :=
 match act with
 | .store id off cells =>
  match st.bx[id]?,d with
  |some (some cs),none=>(bxStore cs off cells).map fun cs'=>{ st with bx:=st.bx.set id (some cs') }
  |_,_=>none
 | .mk cells =>
  match d with
  |some d=>match st.bx[d]? with
   |some none=>if d<st.ρ.length then some ⟨st.ρ.set d (.ptr d 0,0),st.bx.set d (some cells),st.out⟩ else none
   |_=>none
  |none=>none
 | .own c v =>
  match d with
  |some d=>some ⟨((st.clr c).clr (d+2)).ρ.set d (v,d+2),((st.clr c).clr (d+2)).bx,st.out⟩
  |none=>none
 | .hcall ws n0 more v o =>
  match n0,d with
  |none,d=>if more.isEmpty then some (putS d (v,0) ⟨st.ρ,setBoxes ws st.bx,o.getD st.out⟩) else none
  |some cs,some d =>
   match st.bx[d]? with
   |some none=>if d<st.ρ.length then some (putS (some d) (v,0) ⟨st.ρ,setBoxes ((d,cs)::ws) st.bx++more.map fun cs=>some (cs.map fun x=>(x,0)),o.getD st.out⟩) else none
   |_=>none
  |some _,none=>none
 | .cons id cells v =>
  match d with
  |some d=>some (putS (some d) (v,0) (st.kill id))
  |none=>none
 | .skip=>(actVal .skip st.bx).map fun x=>putS d x st
 | .val v c=>(actVal (.val v c) st.bx).map fun x=>putS d x st
 | .load id off n agg=>(actVal (.load id off n agg) st.bx).map fun x=>putS d x st
def papplyK {R:Type} (en:Env) (o:Oper) (act:PAct) (st:St) (k:St→Option R):Option R :=
  match act with
  | .load id off n agg =>
    match arrAt st.bx id with
    | some xs =>
      match o.op with
      | .load t _ =>
        if (tysOf en.P t).length=n∧0 < n then
          eload (en.R t) (tysOf en.P t) (xs.drop off) fun r=>if agg then k (putS o.dst (.agg r,0) st) else match r with
            | [x]=>k (putS o.dst (x,0) st)
            | _=>none
        else none
      | _=>none
    | none=>match papply act o.dst st with
      | some st'=>k st'
      | none=>none
  | .store id off cells =>
    match arrAt st.bx id,o.dst with
    | some xs,none=>bif allData cells && decide (off + cells.length≤xs.length) then k { st with bx:=st.bx.set id (some [(.tuple (xs.take off ++ cells.map (·.1) ++ xs.drop (off + cells.length)),0)]) } else none
    | _,_=>match papply act o.dst st with
      | some st'=>k st'
      | none=>none
  | act=>match papply act o.dst st with
    | some st'=>k st'
    | none=>none
def frzSt (t id off sz m:Nat)(xs:List PV)(st:St):St:=⟨(st.kill id).ρ.set t (.sl (some false) sz m ((xs.drop off).take (m * sz)),0),(st.kill id).bx,st.out⟩
def pfrzL {R:Type}:List (Nat×Bool)→St→(St→Option R)→Option R
 |[],st,k=>k st
 |(t,_)::ts,st,k =>
  match st.ρ[t]? with
  |some (.bsl id off sz m,_) =>
   match arrAt st.bx id with
   |some xs=>if id<st.ρ.length then bif decide (off+m * sz≤xs.length) then pfrzL ts (frzSt t id off sz m xs st) k else none else none
   |none=>none
  |_=>pfrzL ts st k
def pfrz {R:Type}(l:Option (List (Nat×Bool)))(st:St)(k:St→Option R):Option R :=
 match l with
 |none=>k st
 |some l=>pfrzL l st k
def isVal:PAct→Bool
 | .skip=>true
 | .val _ _=>true
 | .load _ _ _ _=>true
 |_=>false
def ownOK (_:List (Nat×Bool))(_:PAct):Bool:=true
abbrev OS:=List (Nat×Bool)
def optOf (os:OS):Operand→Option Bool
 | .tmp t=>os.lookup t
 |_=>none
def resT (os:OS)(t:Nat)(x:TV):TV :=
 match os.lookup t with
 |none=>x
 |some b=>bif b then x else (.tuple [],0)
def mapIdx {α β:Type}(f:Nat→α→β):Nat→List α→List β
 |_,[]=>[]
 |i,x::xs=>f i x::mapIdx f (i+1) xs
def resS (os:OS)(st:St):St :=
 match os with
 |[]=>st
 |os=>⟨mapIdx (resT os) 0 st.ρ,st.bx,st.out⟩
def conjB:List Bool→Bool
 |[]=>true
 |[b]=>b
 |b::bs=>bif b then conjB bs else false
abbrev LS:=List (Nat×List (Nat×Bool))
def subL (l L:List (Nat×Bool)):Bool:=l.all fun p=>L.any fun q=>p.1==q.1&&p.2==q.2
def trimO (os:OS)(ls:LS)(L:List (Nat×Bool)):Operand→Option Bool
 | .tmp t=>match ls.lookup t with
  |some l=>if subL l L then none else os.lookup t
  |none=>os.lookup t
 |_=>none
def litC (c:Operand)(b:Bool)(L:List (Nat×Bool)):List (Nat×Bool) :=
 match c with
 | .tmp t=>(t,b)::L
 |_=>L
def needOf (en:Env)(st:St)(os:OS)(ls:LS)(L:List (Nat×Bool))(o:Oper):List Bool :=
 match o.op with
 | .pick c a b =>
  match (ev en st o.type c).1 with
  | .bool cb=>(trimO os ls L c).toList++(match trimO os ls (litC c true L) a,trimO os ls (litC c false L) b with
   |none,none=>[]
   |x,y=>[bif cb then x.getD true else y.getD true])
  |_=>[]
 |op=>op.operands.toList.filterMap (trimO os ls L)
def delL (d:Option Tmp)(ls:LS):LS :=
 match d with
 |some d=>ls.filter fun q=>q.1 != d&&!q.2.any (fun p=>p.1==d)
 |none=>ls
def setL (d:Option Tmp)(l:Option (List (Nat×Bool)))(ls:LS):LS :=
 match d,l with
 |some d,some l=>if l.any (fun p=>p.1==d) then ls else (d,l)::ls
 |_,_=>ls
def litOf (os:OS)(ls:LS)(t:Nat)(want:Bool):Option (List (Nat×Bool)) :=
 match os.lookup t with
 |none=>some [(t,want)]
 |some _=>(ls.lookup t).map fun l=>(t,want)::l
def ifNeed {R:Type}(l:List Bool)(x:Option R):Option R :=
 match l with
 |[]=>x
 |l=>bif conjB l then x else none
def ifNeedG {R:Type}(g:Bool)(l:List Bool)(x:Option R):Option R :=
 match l with
 |[]=>x
 |l=>bif (bif g then conjB l else true) then x else none
def delO (d:Option Tmp)(os:OS):OS :=
 match d with
 |some d=>os.filter fun p=>p.1 != d
 |none=>os
def setO (d:Option Tmp)(g:Bool)(os:OS):OS :=
 match d with
 |some d=>(d,g)::os
 |none=>os
def lazyOp (P:Program)(o:Oper):Bool :=
 match o.op with
 | .move _=>!isSliceT P o.type
 | .assign _=>!isSliceT P o.type
 | .pick _ _ _=>true
 | .binOp op t _ _ _ =>
  match op with
  | .quo=>false
  | .rem=>false
  | .shl=>false
  | .shr=>false
  | .add=>!(match P.underlying t with|some .string=>true|_=>false)
  |_=>true
 | .unOp _ _ _=>true
 | .convert s d _=>match P.underlying s,P.underlying d with
  |some (.int _),some (.int _)=>true
  |_,_=>false
 | .field _ _ _=>true
 | .extract _ _=>true
 | .load _ _=>true
 | .fieldAddr _ _ _=>true
 | .call c=>match c.callee with
  | .builtin .len=>true
  | .builtin .min=>true
  | .builtin .max=>true
  |_=>false
 |_=>false
def guardB (ob:Option Bool)(want x:Bool):Bool :=
 match ob with
 |none=>if want then x else !x
 |some b=>bif b then (if want then x else !x) else false
def junkV (P:Program)(t:TypeId):TV :=
 match P.underlying t with
 |some .bool=>(.bool false,0)
 |some (.int k)=>(.int k 0,0)
 |some .string=>(.str [],0)
 |_=>(.tuple [],0)
def know1 (p:Nat×Bool)(so:St×OS):St×OS :=
 match so.1.ρ[p.1]? with
 |some (.bool _,c)=>({ so.1 with ρ:=so.1.ρ.set p.1 (.bool p.2,c) },delO (some p.1) so.2)
 |_=>so
def knowL:List (Nat×Bool)→St×OS→St×OS
 |[],so=>so
 |p::l,so=>know1 p (knowL l so)
def dropL (L:List (Nat×Bool))(ls:LS):LS:=ls.filter fun q=>!L.any fun p=>p.1==q.1
def popsQ {R:Type} (en:Env) (ops:Array Oper):List Oper→List PAct→St→OS→LS→OS→(St→List PAct→Option R)→Option R
  | [],acc,st,os,_,_,k=>k (resS os st) acc
  | o :: rest, acc, st,os,ls,kn,k =>
    match o.guard with
    | none=>ifNeed (needOf en st os ls [] o) (presolve en st o fun act =>
        if ownOK os act then papplyK en o act st fun st'=>popsQ en ops rest (act :: acc) st' (delO o.dst os) (if isVal act then delL o.dst ls else []) kn k
        else none)
    | some (j,want) =>
      match (ops[j]?).bind (·.dst) with
      | none=>popsQ en ops rest (.skip :: acc) (putS o.dst (.tuple [],0) st) (delO o.dst os) (delL o.dst ls) kn k
      | some t =>
        match st.ρ[t]? with
        | some (.tuple [],_)=>match os.lookup t with
          | none=>popsQ en ops rest (.skip :: acc) (putS o.dst (.tuple [],0) st) (delO o.dst os) (delL o.dst ls) kn k
          | some _=>none
        | some (.bool x,c) =>
          match kn.lookup t,os.lookup t with
          | some b,none=>bif x == b then
              (if b == want then ifNeed (needOf en st os ls [(t,want)] o) (presolve en st o fun act =>
                if ownOK os act then papplyK en o act st fun st'=>popsQ en ops rest (act :: acc) st' (delO o.dst os) (if isVal act then delL o.dst ls else []) kn k
                else none)
              else popsQ en ops rest (.skip :: acc) (putS o.dst (.tuple [],0) st) (delO o.dst os) (delL o.dst ls) kn k) else none
          | some w,some b =>
            if w == want then
              bif guardB (some b) want x then none
              else popsQ en ops rest (.skip :: acc) (putS o.dst (junkV en.P o.type) st) (setO o.dst false os) (setL o.dst (litOf os ls t want) (delL o.dst ls)) kn k
            else none
          | none, ob =>
            if lazyOp en.P o then
              ifNeedG (guardB ob want x) (needOf en st os ls ((litOf os ls t want).getD []) o) (presolve en st o fun act =>
                if isVal act then match actVal act st.bx with
                  | some v=>popsQ en ops rest (act :: acc) (putS o.dst v st) (setO o.dst (guardB ob want x) os) (setL o.dst (litOf os ls t want) (delL o.dst ls)) kn k
                  | none=>none
                else none)
            else match ob with
              | some b =>
                bif guardB (some b) want x then
                  ifNeed (needOf en (knowL ((litOf os ls t want).getD []) (st,os)).1 (knowL ((litOf os ls t want).getD []) (st,os)).2 (dropL ((litOf os ls t want).getD []) ls) ((litOf os ls t want).getD []) o) (presolve en (knowL ((litOf os ls t want).getD []) (st,os)).1 o fun act =>
                    if ownOK (knowL ((litOf os ls t want).getD []) (st,os)).2 act then papplyK en o act (knowL ((litOf os ls t want).getD []) (st,os)).1 fun st'=>popsQ en ops rest (act :: acc) st' (delO o.dst (knowL ((litOf os ls t want).getD []) (st,os)).2) (if isVal act then delL o.dst (dropL ((litOf os ls t want).getD []) ls) else []) (((litOf os ls t want).getD []) ++ kn) k
                    else none)
                else popsQ en ops rest (.skip :: acc) (putS o.dst (junkV en.P o.type) st) (setO o.dst false os) (setL o.dst (litOf os ls t want) (delL o.dst ls)) ((t,want) :: kn) k
              | none =>
                bif (if want then x else !x) then ifNeed (needOf en { st with ρ:=st.ρ.set t (.bool want,c) } os ls [(t,want)] o) (presolve en { st with ρ:=st.ρ.set t (.bool want,c) } o fun act =>
                  if ownOK os act then papplyK en o act { st with ρ:=st.ρ.set t (.bool want,c) } fun st'=>popsQ en ops rest (act :: acc) st' (delO o.dst os) (if isVal act then delL o.dst ls else []) ((t,want) :: kn) k
                  else none)
                else popsQ en ops rest (.skip :: acc) (putS o.dst (.tuple [],0) { st with ρ:=st.ρ.set t (.bool (!want),c) }) (delO o.dst os) (delL o.dst ls) ((t,!want) :: kn) k
        | _=>none
def tagFree (P:Program)(o:Oper):Bool :=
 match o.op with
 | .move _=>!isSliceT P o.type
 | .assign _=>!isSliceT P o.type
 | .store _ _ _=>false
 | .box _ _=>false
 | .call c=>match c.callee with
  | .builtin .append=>false
  |_=>true
 |_=>true
def indep (di dj:Option Tmp)(fi fj:Bool):PAct→PAct→Bool
 | .cons _ _ _,_=>false
 |_,.cons _ _ _=>false
 | .skip,_=>true
 |_,.skip=>true
 | .val _ _,.val _ _=>true
 | .val _ _,.load _ _ _ _=>true
 | .val _ _,.store _ _ _=>true
 | .val _ _,.mk _=>true
 | .val _ t,.own _ _=>fi&&decide (t≤1)
 | .val _ _,.hcall _ _ _ _ _=>true
 | .hcall _ _ _ _ _,.val _ _=>true
 | .load i _ _ _,.hcall ws _ more _ _=>ws.all (fun p=>p.1 != i)&&dj != some i&&more.isEmpty
 | .hcall ws _ more _ _,.load i _ _ _=>ws.all (fun p=>p.1 != i)&&di != some i&&more.isEmpty
 | .hcall ws n0 more _ _,.mk _=>ws.all (fun p=>dj != some p.1)&&n0.isNone&&more.isEmpty
 | .hcall _ _ _ _ _,_=>false
 |_,.hcall _ _ _ _ _=>false
 | .load _ _ _ _,.val _ _=>true
 | .load _ _ _ _,.load _ _ _ _=>true
 | .load i _ _ _,.store j _ _=>i != j
 | .load i _ _ _,.mk _=>dj != some i
 | .load _ _ _ _,.own _ _=>fi
 | .store _ _ _,.val _ _=>true
 | .store i _ _,.load j _ _ _=>i != j
 | .store i _ _,.store j _ _=>i != j
 | .store i _ _,.mk _=>dj != some i
 | .store _ _ _,.own _ _=>false
 | .mk _,.val _ _=>true
 | .mk _,.load i _ _ _=>di != some i
 | .mk _,.store i _ _=>di != some i
 | .mk _,.mk _=>true
 | .mk _,.own _ _=>false
 | .own _ _,.val _ t=>fj&&decide (t≤1)
 | .own _ _,.load _ _ _ _=>fj
 | .own _ _,.store _ _ _=>false
 | .own _ _,.mk _=>false
 | .own _ _,.own _ _=>false
def actAt (acts:List PAct)(i:Nat):PAct:=acts.getD i .skip
def waitsT (ops:Array Oper):Nat→Nat→Nat→Bool
 |0,_,_=>false
 |n+1,j,i =>
  match ops[j]? with
  |some oj=>oj.after.any fun e=>Region.binds .any e&&(e.on==i||waitsT ops n e.on i)
  |none=>false
def forceN {α:Type}(n:Nat)(f:Nat→α):α :=
 match n with
 |0=>f 0
 |k+1=>f (k+1)
def maskOf (ms:List Nat)(j:Nat)(o:Oper):Nat:=o.after.toList.foldr (fun e acc=>if Region.binds .any e then ((if e.on<j then ms.getD (j-1-e.on) 0 else 0) ||| (1 <<< e.on)) ||| acc else acc) 0
def bitsOf:List Nat→Nat
 |[]=>0
 |t::l=>(1 <<< t) ||| bitsOf l
def apartE (x y:Oper)(Lx Ly:Nat):Bool :=
  (match x.dst with
   |some d=>!Ly.testBit d&&y.dst != some d
   |none=>true) &&
  (match y.dst with
   |some d=>!Lx.testBit d
   |none=>true)
def drawCol (P:Program)(o:Oper)(a:PAct)(m L:Nat):Nat→List (Oper×PAct×Nat)→Bool
 |_,[]=>true
 |i,(oi,ai,Li)::ds=>(m.testBit i||(apartE oi o Li L&&indep oi.dst o.dst (tagFree P oi) (tagFree P o) ai a))&&drawCol P o a m L (i-1) ds
def drawK (P:Program)(ops:Array Oper):List Oper→List PAct→Nat→List Nat→List (Oper×PAct×Nat)→Bool
 |[],[],_,_,_=>true
 |o::os,a::as',j,ms,ds=>o.after.toList.all (fun e=>!Region.binds .any e||decide (e.on<j)) &&
   forceN (maskOf ms j o) fun m=>forceN (bitsOf (o.looksAt ops)) fun L=>drawCol P o a m L (j-1) ds&&drawK P ops os as' (j+1) (m::ms) ((o,a,L)::ds)
 |_,_,_,_,_=>false
def pregion {R:Type}(en:Env)(ops:Array Oper)(draw:Bool)(st:St)(k:St→Option R):Option R :=
 if ops.toList.all (opOK en.P) then
  if draw then
   popsQ en ops ops.toList [] st [] [] [] fun st' acts=>if drawK en.P ops ops.toList acts.reverse 0 [] [] then k st' else none
  else popsQ en ops ops.toList [] st [] [] [] fun st' _=>k st'
 else none
structure Keep where
 slots:List (Nat×Bool)
 boxes:List Nat
def keptPV (bs:List Nat):PV→PV
 | .ptr id off=>if bs.contains id then .ptr id off else .undef
 | .bsl id off sz n=>if bs.contains id then .bsl id off sz n else .undef
 | .clo f []=>.clo f []
 | .clo f (c::cs)=>(renP (fun id=>if bs.contains id then some id else none) true 4 (.clo f (c::cs))).getD .undef
 | .agp cs=>(renP (fun id=>if bs.contains id then some id else none) true 4 (.agp cs)).getD .undef
 | .tupp cs=>(renP (fun id=>if bs.contains id then some id else none) true 4 (.tupp cs)).getD .undef
 |x=>x
def Keep.claims (kp:Keep):List Nat:=kp.boxes.filterMap fun i=>if 1048576≤i then some (i-1048576) else none
def keptTags (slots:List (Nat×Bool))(st:St):List Nat:=slots.filterMap fun p=>if p.2 then (match st.ρ[p.1]? with|some x=>if 2≤x.2 then some x.2 else none|none=>none) else none
def headTV:Option (Option (List TV))→Option TV
 |some (some (x::_))=>some x
 |_=>none
def keptTagsB (claims:List Nat)(st:St):List Nat:=claims.filterMap fun i=>match headTV st.bx[i]? with
 |some x=>if 2≤x.2 then some x.2 else none
 |none=>none
def normSlot (slots:List (Nat×Bool))(boxes:List Nat)(n t:Nat)(x:TV):TV :=
 match slots.lookup t with
 |none=>(.undef,0)
 |some want=>(keptPV boxes x.1,if want then (if x.2=0 then 0 else n+2+t) else 0)
def PV.nilSl:PV→Bool
 | .sl (some true) _ _ _=>true
 |_=>false
def normCells (boxes claims:List Nat)(n id:Nat):List TV→List TV
 |[]=>[]
 |x::cs=>(keptPV boxes x.1,if claims.contains id then (if x.2=0 then (if x.1.nilSl then n+n+2+id else 0) else n+n+2+id) else 0)::cs.map fun x=>(keptPV boxes x.1,0)
def normBox (boxes claims:List Nat)(n id:Nat)(b:Option (List TV)):Option (List TV):=if boxes.contains id then b.map (normCells boxes claims n id) else none
def normOK (slots:List (Nat×Bool))(claims:List Nat)(st:St):Bool :=
 distinct (keptTags slots st++keptTagsB claims st)&&slots.all (fun p=>(!p.2||(match st.ρ[p.1]? with|some x=>x.2 != 0|none=>false))&&decide (p.1<st.ρ.length))
def normG (slots:List (Nat×Bool))(boxes claims:List Nat)(st:St):St:=⟨mapIdx (normSlot slots boxes st.ρ.length) 0 st.ρ,mapIdx (normBox boxes claims st.ρ.length) 0 st.bx,st.out⟩
def allBx:Nat:=2097152
def normSlotA (slots:List (Nat×Bool))(t:Nat)(x:TV):TV :=
 match slots.lookup t with
 |none=>(.undef,0)
 |some _=>(x.1,0)
def normA (slots:List (Nat×Bool))(st:St):St:=⟨mapIdx (normSlotA slots) 0 st.ρ,st.bx,st.out⟩
def pinσ (n:Nat)(al:List Nat)(id:Nat):Option Nat :=
 match posOf al 0 id with
 |some i=>some (n+i)
 |none=>none
def pinV (n:Nat)(al:List Nat)(x:PV):PV:=(renP (pinσ n al) true 4 x).getD .undef
def bxOf (n:Nat)(bx:List (Option (List TV))):List (Option (List TV)):=List.replicate n none++bx
def pinMark:Nat:=4194304
def slotPtrs (slots:List (Nat×Bool))(st:St):List Nat:=slots.flatMap fun p=>match st.ρ[p.1]? with
 |some x=>ptrsOf 4 x.1
 |none=>[]
def renTV (n:Nat)(al:List Nat)(x:TV):TV:=(pinV n al x.1,x.2)
def renBx (n:Nat)(al:List Nat)(bx:List (Option (List TV)))(id:Nat):Option (Option (List TV)) :=
 match bx[id]? with
 |some (some cs)=>some (some (cs.map (renTV n al)))
 |_=>none
def renSt (al:List Nat)(st:St):Option St :=
 match mapO (renBx st.ρ.length al st.bx) al with
 |some bx=>some ⟨st.ρ.map (renTV st.ρ.length al),bxOf st.ρ.length bx,st.out⟩
 |none=>none
def pinSt (kp:Keep)(st:St):Option St :=
 match reachB st.bx 40 (slotPtrs kp.slots st) [] with
 |some al =>
  if distinct al then
   match renSt al st with
   |some st=>if normOK kp.slots kp.claims st then some (normG kp.slots (lentIds st.ρ.length al.length) kp.claims st) else none
   |none=>none
  else none
 |none=>none
def pnorm {R:Type}(kp:Option Keep)(st:St)(k:St→Option R):Option R :=
 match kp with
 |none=>k st
 |some kp=>if kp.boxes.contains allBx then k (normA kp.slots st) else if kp.boxes.contains pinMark then (match pinSt kp st with
  |some st=>k st
  |none=>none) else if normOK kp.slots kp.claims st then k (normG kp.slots kp.boxes kp.claims st) else none
def ploop {R:Type}(kp:Option Keep)(step:St→(St→Option R)→Option R):Nat→St→Option R
 |0,_=>none
 |n+1,st=>step st fun st'=>pnorm kp st' fun st''=>ploop kp step n st''
structure Hints where
 block:List (Nat×Keep)
 loop:List (Nat×Keep)
def putAll:List Tmp→List PV→List TV→List TV
 |p::ps,x::xs,ρ=>putAll ps xs (ρ.set p (x,0))
 |_,_,ρ=>ρ
def aliveB:Nat→List (Option (List TV))→List Nat
 |_,[]=>[]
 |i,some _::bx=>i::aliveB (i+1) bx
 |i,none::bx=>aliveB (i+1) bx
def allB (n:Nat)(bx:List (Option (List TV))):List Nat:=lentIds n (bx.length-n)++aliveB 0 (bx.take n)
def snap (n:Nat)(al:List Nat)(ρ:List TV):List TV:=ρ.map fun x=>(pinV n al x.1,if x.2=1 then 1 else 0)
def renCells (n:Nat)(al:List Nat)(i:Nat):List TV→List TV
 |[]=>[]
 |x::cs=>(pinV n al x.1,if x.2=0 then (if x.1.nilSl then n+n+2+i else 0) else n+n+2+i)::cs.map fun x=>(pinV n al x.1,0)
def renBoxes (n:Nat)(al:List Nat)(bx:List (Option (List TV))):Nat→List Nat→Option (List (Option (List TV)))
 |_,[]=>some []
 |i,id::ids =>
  match bx[id]? with
  |some (some cs)=>match renBoxes n al bx (i+1) ids with
   |some r=>some (some (renCells n al i cs)::r)
   |none=>none
  |_=>none
def rpin {R:Type}(al:List Nat)(st:St)(k:List (Option (List TV))→Option R):Option R :=
 if distinct al&&distinct (keptTagsB al st) then
  match renBoxes st.ρ.length al st.bx 0 al with
  |some bx=>k bx
  |none=>none
 else none
def rangeY (ids : List Nat) (np:Array Tmp) (ρ:List TV) (run:{S:Type}→St→(Option Jump→St→Option S)→Option S):YFn:=⟨fun {R} bs o xs k =>
  match o with
  | .fr bx none o' =>
    if bs.length=ids.length && xs.length=np.size then
      match mapO (mapO (renP (fun j=>ids[j]?) false 4)) bs,mapO (renP (fun j=>ids[j]?) false 4) xs with
      | some bs,some xs=>run (S:=R) ⟨putAll np.toList xs ρ,setBoxes (zipN ids bs) (bxOf ρ.length bx),o'⟩ fun j st' =>
          if st'.ρ.length=ρ.length then
            rpin (lentIds ρ.length bx.length) st' fun bx' =>
              match lentBs (bxOf ρ.length bx') ids with
              | some bs'=>match j with
                | none=>k bs' (.fr bx' none st'.out) true
                | some j=>k bs' (.fr bx' (some j) st'.out) false
              | none=>none
          else none
      | _,_=>none
    else none
  | _=>none⟩
def prange {R : Type} (en:Env) (st:St) (f:Operand) (np:Array Tmp) (run:{S:Type}→St→(Option Jump→St→Option S)→Option S) (kj:Option Jump→St→Option R):Option R :=
  match (ev en st 0 f).1 with
  | .clo fid caps =>
    match (if fid < 1000000 then en.I fid else none) with
    | some p =>
      rpin (allB st.ρ.length st.bx) st fun bx =>
        match mapO (renP (pinσ st.ρ.length (allB st.ρ.length st.bx)) false 4) caps with
        | some caps =>
          match reachB (bxOf st.ρ.length bx) 40 (caps.flatMap (ptrsOf 4)) [] with
          | some ids =>
            if distinct ids then
              match lentBs (bxOf st.ρ.length bx) ids,mapO (renP (posOf ids 0) false 4) caps with
              | some bs,some caps=>p.F bs (.fr bx none st.out) (.yld :: caps) (rangeY ids np (snap st.ρ.length (allB st.ρ.length st.bx) st.ρ) run) fun bs o v =>
                  match o with
                  | .fr bx j o' =>
                    if bs.length=ids.length then
                      match mapO (mapO (renP (fun j=>ids[j]?) false 4)) bs with
                      | some bs=>kj j ⟨snap st.ρ.length (allB st.ρ.length st.bx) st.ρ,setBoxes (zipN ids bs) (bxOf st.ρ.length bx),o'⟩
                      | none=>none
                    else none
                  | .nil=>none
              | _,_=>none
            else none
          | none=>none
        | none=>none
    | none=>none
  | _=>none
def kpin:Option Keep→Bool
 |some kp=>kp.boxes.contains pinMark
 |none=>false
def codePins (h:Hints):Code→Nat→Bool
 | .seq a b,cur=>codePins h a cur||codePins h b cur
 | .cond _ a b,cur=>codePins h a cur||codePins h b cur
 | .block id a,_=>kpin (h.block.lookup id)||codePins h a id
 | .loop a,cur=>kpin (h.loop.lookup cur)||codePins h a cur
 | .ret,_=>kpin (h.block.lookup 4000000)
 |_,_=>false
def pcode (en:Env)(h:Hints)(fuel:Nat):Code→{R:Type}→(St→Option R)→Nat→St→(St→Option R)→List (Nat×(St→Option R))→Option R
 | .skip,_,_,_,st,kn,_=>kn st
 | .region id ops draw,_,_,_,st,kn,_=>pfrz ((h.block.lookup (1000000+id)).map (·.slots)) st fun st=>pregion en ops draw st kn
 | .seq a b,_,kr,cur,st,kn,kx=>pcode en h fuel a kr cur st (fun st'=>pcode en h fuel b kr cur st' kn kx) kx
 | .cond c a b,_,kr,cur,st,kn,kx =>
  match (ev en st 0 c).1 with
  | .bool t=>bif t then pcode en h fuel a kr cur st kn kx else pcode en h fuel b kr cur st kn kx
  |_=>none
 | .block id a,_,kr,_,st,kn,kx=>pcode en h fuel a kr id st (fun st'=>pnorm (h.block.lookup id) st' kn) ((id,fun st'=>pnorm (h.block.lookup id) st' kn)::kx)
 | .loop a,_,kr,cur,st,kn,kx=>pnorm (h.loop.lookup cur) st fun st'=>ploop (h.loop.lookup cur) (fun st kn'=>pcode en h fuel a kr cur st kn' kx) fuel st'
 | .exit id,_,_,_,st,_,kx =>
  match kx.lookup id with
  |some k=>k st
  |none=>none
 | .ret,_,kr,_,st,_,_=>pfrz ((h.block.lookup 3000000).map (·.slots)) st fun st=>pnorm (h.block.lookup 4000000) st kr
 | .label _,_,_,_,st,kn,_=>kn st
 | .rangeFunc f np assign body,_,kr,_,st,kn,kx =>
  if codePins h assign 0||codePins h body 0 then none else prange en st f np
   (fun {S} st k=>pcode en h fuel assign (fun _=>none) 0 st (fun st=>pcode en h fuel body (fun st=>k (some .ret) st) 0 st (fun st=>k none st) ((kx.map (·.1)).map fun id=>(id,fun st=>k (some (.exit id)) st))) [])
   (fun j st=>match j with
    |none=>kn st
    |some .ret=>kr st
    |some (.exit id)=>match kx.lookup id with
     |some k=>k st
     |none=>none)
 |_,_,_,_,_,_,_=>none
def stepAt {R:Type}(en:Env)(h:Hints)(fuel:Nat)(kr:St→Option R):List Nat→Code→Nat→(St→Option R)→List (Nat×(St→Option R))→(St→Option R)→St→(St→Option R)→Option R
 |0::p,.seq a b,cur,kn,kx,kl=>stepAt en h fuel kr p a cur (fun st'=>pcode en h fuel b kr cur st' kn kx) kx kl
 |_::p,.seq _ b,cur,kn,kx,kl=>stepAt en h fuel kr p b cur kn kx kl
 |0::p,.cond _ a _,cur,kn,kx,kl=>stepAt en h fuel kr p a cur kn kx kl
 |_::p,.cond _ _ b,cur,kn,kx,kl=>stepAt en h fuel kr p b cur kn kx kl
 |_::p,.block id a,_,kn,kx,kl=>stepAt en h fuel kr p a id (fun st'=>pnorm (h.block.lookup id) st' kn) ((id,fun st'=>pnorm (h.block.lookup id) st' kn)::kx) kl
 |_::p,.loop a,cur,_,kx,kl=>stepAt en h fuel kr p a cur kl kx kl
 |[],.loop a,cur,_,kx,_=>fun st kn'=>pcode en h fuel a kr cur st kn' kx
 |_,_,_,_,_,_=>fun _ _=>none
def frame (n:Nat)(l:List (Nat×TV))(b:List (Nat×List TV)):St:=⟨(List.range n).map fun t=>(l.lookup t).getD (.undef,0),(List.range n).map fun t=>b.lookup t,.nil⟩
def frz (st:St)(x:PV):Option PV :=
 if x.data then some x else
 match x with
 | .ptr id off =>
  match st.bx[id]? with
  |some (some cs)=>if allData cs&&(arrB cs).isNone then some (.eptr ((cs.drop off).map (·.1))) else none
  |_=>none
 |_=>none
def presult (en:Env)(st:St):ResultVar→Option PV
 | .tmp t=>match st.ρ[t]? with
  |some x=>frz st x.1
  |none=>none
 | .cell a t=>match st.ρ[a]? with
  |some (.ptr id off,_) =>
   match st.bx[id]? with
   |some (some cs) =>
    if typeOK en.P t&&(isAggT en.P t||szOf en.P t==1) then
     if isAggT en.P t then if off+szOf en.P t≤cs.length&&allData ((cs.take (off+szOf en.P t)).drop off)&&(arrB cs).isNone then some (.agg (((cs.take (off+szOf en.P t)).drop off).map (·.1))) else none
     else if (arrB cs).isNone then (cs[off]?).bind fun x=>frz st x.1 else none
    else none
   |_=>none
  |_=>none
def presults (en:Env)(st:St):List ResultVar→Option (List PV)
 |[]=>some []
 |r::rs=>match presult en st r with
  |some x=>(presults en st rs).map (x :: ·)
  |none=>none
def pclaim (st:St):List ResultVar→Bool
 |[.tmp t]=>match st.ρ[t]? with
  |some (.sl _ _ _ _,c)=>c != 0
  |_=>false
 |_=>false
def pfin (en:Env)(own:Bool)(fn:Func)(st:St):Option PV :=
 if !own||pclaim st fn.results.toList then
  match presults en st fn.results.toList with
  |some [x]=>some x
  |some xs=>some (.tuple xs)
  |none=>none
 else none
def st0 (n:Nat)(args:List PV):St:=⟨args.map (fun x=>(x,0))++List.replicate (n-args.length) (.tuple [],0),List.replicate n none,.nil⟩
def prun (en:Env)(h:Hints)(fuel:Nat)(own:Bool)(fn:Func)(args:List PV):Option PV :=
 match fn.body with
 |some c=>pcode en h fuel c (pfin en own fn) 0 (st0 fn.ntmps args) (pfin en own fn) []
 |none=>none
def presultP (en:Env)(st:St):ResultVar→Option PV
 | .tmp t=>match st.ρ[t]? with
  |some x=>some x.1
  |none=>none
 | .cell a t=>match st.ρ[a]? with
  |some (.ptr id off,_) =>
   match st.bx[id]? with
   |some (some cs) =>
    if typeOK en.P t&&(isAggT en.P t||szOf en.P t==1) then
     if isAggT en.P t then if off+szOf en.P t≤cs.length&&(arrB cs).isNone then some (aggP (((cs.take (off+szOf en.P t)).drop off).map (·.1))) else none
     else if (arrB cs).isNone then (cs[off]?).map (·.1) else none
    else none
   |_=>none
  |_=>none
def tupleP:List PV→PV
 |[x]=>x
 |xs=>if xs.all PV.data then .tuple xs else .tupp xs
def pfinH {R:Type}(en:Env)(nl:Nat)(fn:Func)(st:St)(kk:List (List PV)→Out→PV→Option R):Option R :=
 match mapO (presultP en st) fn.results.toList with
 |some xs =>
  match reachB st.bx 40 (lentIds st.ρ.length nl++xs.flatMap (ptrsOf 4)) [] with
  |some ids =>
   if distinct ids&&(ids.take nl==lentIds st.ρ.length nl) then
    match lentBs st.bx ids,mapO (renP (posOf ids 0) false 4) xs with
    |some bs,some xs=>kk bs st.out (tupleP xs)
    |_,_=>none
   else none
  |none=>none
 |none=>none
def backσ (n nl j:Nat):Option Nat:=if j<nl then some (n+j) else none
def st0H (n:Nat)(bs:List (List PV))(o:Out)(args:List PV):Option St :=
 match mapO (mapO (renP (backσ (max args.length n) bs.length) false 4)) bs,mapO (renP (backσ (max args.length n) bs.length) true 4) args with
 |some bs,some args=>some ⟨args.map (fun x=>(x,0))++List.replicate (n-args.length) (.tuple [],0),List.replicate (max args.length n) none++bs.map (fun cs=>some (cs.map fun x=>(x,0))),o⟩
 |_,_=>none
def prunH {R:Type}(en:Env)(h:Hints)(fuel:Nat)(fn:Func)(bs:List (List PV))(args:List PV)(kk:List (List PV)→PV→Option R):Option R :=
 match fn.body,st0H fn.ntmps bs .nil args with
 |some c,some st=>if codePins h c 0 then none else pcode en h fuel c (fun st=>pfinH en bs.length fn st fun bs _ v=>kk bs v) 0 st (fun st=>pfinH en bs.length fn st fun bs _ v=>kk bs v) []
 |_,_=>none
end Go.Proofs.YtkpfigikffphdaaGreatDoor
namespace Go.Proofs.YtkpfigikffphdaaGreatDoor
open Go.RowKit
section
variable {R:Type}
theorem bif_bind {α:Type}(b:Bool)(x:Option α)(k:α→Option R):(bif b then x else none).bind k=bif b then x.bind k else none:=by cases b<;>rfl
theorem bif_bind' {α:Type}(b:Bool)(x:Option α)(k:α→Option R):(bif b then none else x).bind k=bif b then none else x.bind k:=by cases b<;>rfl
theorem bif_bind2 {α:Type}(b:Bool)(x y:Option α)(k:α→Option R):(bif b then x else y).bind k=bif b then x.bind k else y.bind k:=by cases b<;>rfl
theorem ite_bind {α:Type}(c:Prop)[Decidable c](x:Option α)(k:α→Option R):(if c then x else none).bind k=if c then x.bind k else none:=by split<;>rfl
theorem ite_bind' {α:Type}(c:Prop)[Decidable c](x:Option α)(k:α→Option R):(if c then none else x).bind k=if c then none else x.bind k:=by split<;>rfl
theorem pint_nat (op:BinOp)(k:IntKind)(a b:Int)(kk:PV→Option R):pint op k a b kk=(pint op k a b some).bind kk:=by
 cases op<;>simp only[pint,Option.bind_some,Option.bind_none,bif_bind']
theorem pstr_nat (op:BinOp)(a b:List UInt8)(kk:PV→Option R):pstr op a b kk=(pstr op a b some).bind kk:=by
 cases op<;>simp only[pstr,Option.bind_some,Option.bind_none,bif_bind]
theorem pbin_nat (P:Program)(op:BinOp)(t:TypeId)(ox oy:Operand)(x y:PV)(kk:PV→Option R):pbin P op t ox oy x y kk=(pbin P op t ox oy x y some).bind kk:=by
 unfold pbin
 split
 ·split
  ·simp only[bif_bind',Option.bind_some]
  ·simp only[bif_bind',Option.bind_some]
  ·rw[ite_bind,← pint_nat]
 ·exact pstr_nat _ _ _ _
 ·rw[ite_bind]
  split
  ·split<;>rfl
  ·rfl
 ·split
  ·rfl
  ·split
   ·cases eqP P 20 t _ _<;>rfl
   ·cases eqP P 20 t _ _<;>rfl
   ·rfl
 ·split
  ·split
   ·cases nilCmp P t x _<;>rfl
   ·cases nilCmp P t x _<;>rfl
   ·rfl
  ·rfl
theorem pun_nat (op:UnOp)(x:PV)(kk:PV→Option R):pun op x kk=(pun op x some).bind kk:=by
 unfold pun
 split<;>rfl
theorem pconv_nat (P:Program)(s d:TypeId)(x:PV)(kk:PV→Option R):pconv P s d x kk=(pconv P s d x some).bind kk:=by
 unfold pconv
 split
 ·rfl
 ·rfl
 ·split
  ·rw[ite_bind,bif_bind];rfl
  ·rfl
 ·split
  ·rw[ite_bind]
   cases pbytes _<;>rfl
  ·rfl
 ·rfl
theorem pbound_nat (x:PV)(m:Nat)(kk:Nat→Option R):pbound x m kk=(pbound x m some).bind kk:=by
 unfold pbound
 split
 ·rw[bif_bind];rfl
 ·rfl
theorem pboundO_nat (x:Option PV)(d m:Nat)(kk:Nat→Option R):pboundO x d m kk=(pboundO x d m some).bind kk:=by
 unfold pboundO
 split
 ·exact pbound_nat _ _ _
 ·rfl
theorem obind_assoc {α β γ:Type}(x:Option α)(f:α→Option β)(g:β→Option γ):(x.bind f).bind g=x.bind fun a=>(f a).bind g:=by cases x<;>rfl
theorem pslice_nat (P:Program)(t:TypeId)(x:PV)(lo hi mx:Option PV)(kk:TV→Option R):pslice P t x lo hi mx kk=(pslice P t x lo hi mx some).bind kk:=by
 unfold pslice
 split
 ·split
  ·rfl
  ·rw[pboundO_nat,pboundO_nat (R:=TV),obind_assoc]
   congr 1;funext h
   rw[pboundO_nat,pboundO_nat (R:=TV),obind_assoc]
   rfl
 ·rw[ite_bind]
  split
  ·split
   ·rw[pbound_nat,pbound_nat (R:=TV),obind_assoc]
    congr 1;funext m
    rw[pboundO_nat,pboundO_nat (R:=TV),obind_assoc]
    congr 1;funext h
    rw[pboundO_nat,pboundO_nat (R:=TV),obind_assoc]
    rfl
   ·rw[pboundO_nat,pboundO_nat (R:=TV),obind_assoc]
    congr 1;funext h
    rw[pboundO_nat,pboundO_nat (R:=TV),obind_assoc]
    rfl
  ·rfl
 ·rw[ite_bind]
  split
  ·split
   ·rfl
   ·rw[pboundO_nat,pboundO_nat (R:=TV),obind_assoc]
    congr 1;funext h
    rw[pboundO_nat,pboundO_nat (R:=TV),obind_assoc]
    congr 1;funext l
    rw[bif_bind];rfl
  ·rfl
 ·rfl
theorem ppart_nat (P:Program)(t:TypeId)(cells:List PV)(off:Nat)(kk:PV→Option R):ppart P t cells off kk=(ppart P t cells off some).bind kk:=by
 unfold ppart
 split
 ·rw[ite_bind];rfl
 ·cases cells[off]? <;> rfl
theorem refine1_nat (t:CT)(x:PV)(kk:PV→Option R):refine1 t x kk=(refine1 t x some).bind kk:=by
 cases t<;>simp only[refine1,obind_assoc,Option.bind_some,ite_bind]
end
theorem refineL_nat:∀ {R:Type} (ts:List CT) (xs:List PV) (kk:List PV→Option R),refineL ts xs kk=(refineL ts xs some).bind kk
 |_,[],_,_=>rfl
 |R,t::ts,xs,kk=>by
  simp only[refineL,obind_assoc]
  congr 1;funext x
  rw[refine1_nat,refine1_nat (R:=List PV),obind_assoc]
  congr 1;funext y
  rw[refineL_nat ts xs.tail (fun ys=>kk (y::ys)),refineL_nat ts xs.tail (fun ys=>some (y::ys)),obind_assoc]
  rfl
section
variable {R:Type}
theorem eload_nat {R:Type}(b:Bool)(ts:List CT)(xs:List PV)(kk:List PV→Option R):eload b ts xs kk=(eload b ts xs some).bind kk:=by
 unfold eload
 cases b with
 |false=>exact refineL_nat ts xs kk
 |true =>
  simp only[if_true]
  split
  ·rw[obind_assoc]
   congr 1;funext x
   rw[obind_assoc]
   rfl
  ·rfl
theorem pbuiltin_nat (P:Program)(b:Builtin)(ts:Array TypeId)(xs:List TV)(kk:PAct→Option R):pbuiltin P b ts xs kk=(pbuiltin P b ts xs some).bind kk:=by
 unfold pbuiltin
 split
 ·split<;>rfl
 ·split<;>rfl
 ·split<;>rfl
 ·split<;>rfl
 ·split
  ·rw[Option.bind_assoc];rfl
  ·rfl
 ·split
  ·rw[ite_bind]
   split
   ·split
    ·rw[ite_bind,bif_bind];rfl
    ·rw[ite_bind,bif_bind];rfl
    ·rfl
   ·rfl
  ·rfl
 ·rfl
theorem ppartP_nat (P:Program)(t:TypeId)(cells:List PV)(off:Nat)(kk:PV→Option R):ppartP P t cells off kk=(ppartP P t cells off some).bind kk:=by
 unfold ppartP
 split
 ·rw[ite_bind];rfl
 ·cases cells[off]? <;> rfl
def PFn.nat (f:PFn):Prop:=∀ (R:Type) (xs:List PV) (k:PV→Option R),f.F xs k=(f.F xs (R:=PV) some).bind k
def HFn.nat (f:HFn):Prop:=∀ (R:Type) (bs:List (List PV)) (xs:List PV) (k:List (List PV)→PV→Option R),f.F bs xs k=(f.F bs xs (R:=List (List PV)×PV) fun b v=>some (b,v)).bind fun r=>k r.1 r.2
def YFn.nat (y:YFn):Prop:=∀ (R:Type) (bs:List (List PV)) (o:Out) (xs:List PV) (k:List (List PV)→Out→Bool→Option R),y.F bs o xs k=(y.F bs o xs (R:=List (List PV)×Out×Bool) fun b o v=>some (b,o,v)).bind fun r=>k r.1 r.2.1 r.2.2
def IFn.nat (f:IFn):Prop:=∀ (R:Type) (bs:List (List PV)) (o:Out) (xs:List PV) (y:YFn) (k:List (List PV)→Out→PV→Option R),f.F bs o xs y k=(f.F bs o xs y (R:=List (List PV)×Out×PV) fun b o v=>some (b,o,v)).bind fun r=>k r.1 r.2.1 r.2.2
def NFn.nat (f:NFn):Prop:=∀ (R:Type) (xs:List PV) (k:Nat→Nat→List PV→Option R),f.F xs k=(f.F xs (R:=Nat×Nat×List PV) fun s n c=>some (s,n,c)).bind fun r=>k r.1 r.2.1 r.2.2
def CFn.nat (f:CFn):Prop:=∀ (R:Type) (s n:Nat) (cs xs:List PV) (k:Nat→List PV→Option R),f.F s n cs xs k=(f.F s n cs xs (R:=Nat×List PV) fun n c=>some (n,c)).bind fun r=>k r.1 r.2
structure Env.nat (en:Env):Prop where
 e:∀ f fn,en.E f=some fn→fn.nat
 h:∀ f p,en.H f=some p→p.nat
 i:∀ f p,en.I f=some p→p.nat
 n:∀ f p,en.N f=some p→p.nat
 c:∀ f p,en.C f=some p→p.nat
 y:∀ k y,en.Y=some (k,y)→y.nat
theorem piback_nat (ids:List Nat)(bs:List (List PV))(o:Out)(v:PV)(kk:PAct→Option R):piback ids bs o v kk=(piback ids bs o v some).bind kk:=by
 unfold piback
 rw[ite_bind]
 split
 ·split<;>rfl
 ·rfl
theorem pycall_nat {y:YFn}(hy:y.nat)(st:St)(k:Nat)(xs:List PV)(kk:PAct→Option R):pycall st k y xs kk=(pycall st k y xs some).bind kk:=by
 unfold pycall
 split
 ·rw[hy R,hy PAct,obind_assoc]
  congr 1;funext r
  rw[piback_nat]
 ·rfl
theorem picall_nat {p:IFn}(hp:p.nat)(st:St)(k:Nat)(y:YFn)(xs:List PV)(kk:PAct→Option R):picall st k y p xs kk=(picall st k y p xs some).bind kk:=by
 unfold picall
 split
 ·rw[hp R,hp PAct,obind_assoc]
  congr 1;funext r
  rw[piback_nat]
 ·rfl
theorem phback_nat (bx:List (Option (List TV)))(ids:List Nat)(dst:Option Tmp)(bs:List (List PV))(v:PV)(kk:PAct→Option R):phback bx ids dst bs v kk=(phback bx ids dst bs v some).bind kk:=by
 unfold phback
 split
 ·rw[ite_bind]
  split
  ·split<;>rfl
  ·rfl
 ·rw[ite_bind]
  split
  ·split
   ·split<;>rfl
   ·rfl
  ·rfl
theorem phcall_nat {p:HFn}(hp:p.nat)(bx:List (Option (List TV)))(dst:Option Tmp)(xs:List PV)(kk:PAct→Option R):phcall bx dst p xs kk=(phcall bx dst p xs some).bind kk:=by
 unfold phcall
 split
 ·rw[ite_bind]
  split
  ·split
   ·split
    ·rw[hp R,hp PAct,obind_assoc]
     congr 1;funext r
     rw[phback_nat]
    ·rfl
   ·rfl
  ·rfl
 ·rfl
theorem pncall_nat {p:NFn}(hp:p.nat)(dst:Option Tmp)(xs:List PV)(kk:PAct→Option R):pncall dst p xs kk=(pncall dst p xs some).bind kk:=by
 unfold pncall
 split
 ·rw[hp R,hp PAct,obind_assoc];rfl
 ·rfl
theorem pccall_nat {p:CFn}(hp:p.nat)(st:St)(dst:Option Tmp)(xs:List PV)(kk:PAct→Option R):pccall st dst p xs kk=(pccall st dst p xs some).bind kk:=by
 unfold pccall
 split
 ·split
  ·rw[ite_bind,hp R,hp PAct,obind_assoc];simp only[bif_bind,Option.bind_some]
  ·rfl
 ·rfl
theorem presolve_nat (en:Env)(hE:en.nat)(st:St)(o:Oper)(kk:PAct→Option R):presolve en st o kk=(presolve en st o some).bind kk:=by
 unfold presolve
 split
 ·rfl
 ·rfl
 ·split
  ·split
   ·rfl
   ·rw[bif_bind2];rfl
  ·rfl
 ·rw[pbin_nat,pbin_nat (R:=PAct),obind_assoc];rfl
 ·rw[pun_nat,pun_nat (R:=PAct),obind_assoc];rfl
 ·rw[pconv_nat,pconv_nat (R:=PAct),obind_assoc];rfl
 ·rw[pslice_nat,pslice_nat (R:=PAct),obind_assoc];rfl
 ·split
  ·rw[ppart_nat,ppart_nat (R:=PAct),obind_assoc];rfl
  ·rw[ppartP_nat,ppartP_nat (R:=PAct),obind_assoc];rfl
  ·rfl
 ·split
  ·rw[bif_bind,obind_assoc];rfl
  ·rw[bif_bind,ppart_nat,ppart_nat (R:=PAct),obind_assoc];rfl
  ·rfl
 ·split
  ·rw[ite_bind'];rfl
  ·rw[ite_bind'];rfl
  ·rw[ite_bind'];rfl
  ·rfl
 ·split
  ·rw[ite_bind,bif_bind];rfl
  ·rw[ite_bind,bif_bind];rfl
  ·rw[bif_bind];rfl
  ·rw[bif_bind];rfl
  ·rfl
 ·split
  ·rfl
  ·rw[ite_bind]
   split
   ·rw[eload_nat,eload_nat (R:=PAct),obind_assoc]
    congr 1;funext r
    split
    ·rfl
    ·split<;>rfl
   ·rfl
  ·rfl
 ·split
  ·rw[ite_bind];rfl
  ·rfl
 ·split<;>rfl
 ·split<;>rfl
 ·split<;>rfl
 ·split
  ·split
   ·split
    ·split<;>rfl
    ·split
     ·split<;>rfl
     ·rfl
   ·split
    ·split<;>rfl
    ·rfl
   ·rfl
  ·rfl
 ·split
  ·rw[ite_bind]
   split
   ·split
    ·rw[ite_bind]
     split
     ·split
      ·split<;>rfl
      ·rfl
     ·rfl
    ·rfl
   ·rfl
  ·rfl
 ·split
  ·split
   ·rw[ite_bind,bif_bind];rfl
   ·rfl
  ·rfl
 ·split
  ·rw[obind_assoc]
   congr 1;funext v
   rw[ite_bind];rfl
  ·rw[obind_assoc]
   rfl
  ·rfl
 ·rw[ite_bind',ite_bind];rfl
 ·split
  ·exact pbuiltin_nat _ _ _ _ _
  ·split
   ·split
    ·split
     ·rename_i p hp
      exact phcall_nat (hE.h _ _ hp) _ _ _ _
     ·rfl
    split
    ·rename_i fn hfn
     rw[ite_bind,hE.e _ _ hfn R,hE.e _ _ hfn PAct,obind_assoc]
     congr 1;congr 1;funext v
     split<;>rfl
    ·split
     ·rename_i p hp
      exact phcall_nat (hE.h _ _ hp) _ _ _ _
     ·split
      ·rename_i p hp
       rw[ite_bind,pncall_nat (hE.n _ _ hp)]
      ·split
       ·rename_i p hp
        exact pccall_nat (hE.c _ _ hp) _ _ _ _
       ·split
        ·rename_i p k y hp hy
         exact picall_nat (hE.i _ _ hp) _ _ _ _ _
        ·rfl
   ·split
    ·rename_i k y hy
     exact pycall_nat (hE.y _ _ hy) _ _ _ _
    ·rfl
   ·rfl
  ·rfl
 ·split
  ·split
   ·split
    ·rfl
    ·split<;>rfl
   ·rfl
  ·rfl
 ·rfl
theorem papplyK_nat {S:Type}{en:Env}{o:Oper}{act:PAct}{st:St}{k0:St→Option R}{k:R→Option S}:papplyK en o act st (fun st=>(k0 st).bind k)=(papplyK en o act st k0).bind k:=by
 have plain:(match papply act o.dst st with|some st'=>(k0 st').bind k|none=>none)=(match papply act o.dst st with|some st'=>k0 st' | none=>none).bind k:=by cases papply act o.dst st<;>rfl
 cases act with
 |load id off n agg =>
  simp only[papplyK]
  split
  ·split
   ·rw[ite_bind]
    split
    ·rw[eload_nat,eload_nat (R:=R),obind_assoc]
     congr 1;funext r
     split
     ·rfl
     ·split<;>rfl
    ·rfl
   ·rfl
  ·exact plain
 |store id off cells =>
  simp only[papplyK]
  split
  ·rw[bif_bind]
  ·exact plain
 |_=>exact plain
theorem pfrzL_nat {S:Type}{k:R→Option S}:∀ (l:List (Nat×Bool)) (st:St) (k0:St→Option R),pfrzL l st (fun st=>(k0 st).bind k)=(pfrzL l st k0).bind k
 |[],st,k0=>rfl
 |(t,b)::ts,st,k0=>by
  simp only[pfrzL]
  split
  ·split
   ·rw[ite_bind,bif_bind,pfrzL_nat ts]
   ·rfl
  ·exact pfrzL_nat ts st k0
theorem pfrz_nat {S:Type}{l:Option (List (Nat×Bool))}{st:St}{k0:St→Option R}{k:R→Option S}:pfrz l st (fun st=>(k0 st).bind k)=(pfrz l st k0).bind k:=by
 cases l with
 |none=>rfl
 |some l=>exact pfrzL_nat l st k0
end
end Go.Proofs.YtkpfigikffphdaaGreatDoor
namespace Go.Proofs.YtkpfigikffphdaaGreatDoor
open Go.RowKit
structure Move (M M':Mem)(ex:Option Nat):Prop where
 os:M'.w.os=M.w.os
 tape:M'.w.tape=M.w.tape
 output:M'.w.output=M.w.output
 size:M.w.heap.size≤M'.w.heap.size
 block:∀ b,b<M.w.heap.size→some b≠ex→M'.w.heap[b]? = M.w.heap[b]? ∧ M'.U b=M.U b
 le:M.le M'
theorem cell_lt {w:World}{b o:Nat}{u:Value}(h:w.cell? ⟨b,o,none⟩=some u):b<w.heap.size:=World.block_lt_of_cell? w _ h
theorem heap_lt {w:World}{b:Nat}{x:Obj}(h:w.heap[b]? = some x):b<w.heap.size:=(Array.getElem?_eq_some_iff.1 h).1
def RowP (w:World)(b:Nat)(e:TypeId)(l:List Value):Prop:=∃ tl:List Value,w.heap[b]? = some (.cells (l++tl).toArray e (0,0))
theorem RowP.lt {w:World}{b:Nat}{e:TypeId}{l:List Value}(h:RowP w b e l):b<w.heap.size:=let ⟨_,k⟩:=h;heap_lt k
theorem RowP.of_eq {w w':World}{b:Nat}{e:TypeId}{l:List Value}(h:RowP w b e l)(k:w'.heap[b]? = w.heap[b]?):RowP w' b e l:=let ⟨tl,q⟩:=h;⟨tl,k.trans q⟩
theorem RowP.cell {w:World}{b:Nat}{e:TypeId}{l:List Value}(h:RowP w b e l){j:Nat}{u:Value}(hu:l[j]? = some u):w.cell? ⟨b,j,none⟩=some u:=by
 obtain⟨tl,k2⟩:=h
 rw[cell_of_row _ _ _ (l++tl).toArray e (0,0) k2]
 have hlt:=(List.getElem?_eq_some_iff.1 hu).1
 simp only[List.getElem?_toArray]
 rw[List.getElem?_append_left hlt]
 exact hu
theorem RowP.full {w:World}{b:Nat}{e:TypeId}{arr:Array Value}(h:w.heap[b]? = some (.cells arr e (0,0))):RowP w b e arr.toList:=⟨[],by simpa using h⟩
theorem Move.mk0 {M M':Mem}(hb:Below M.w.heap.size M.w M'.w)(hU:∀ b,b<M.w.heap.size→M'.U b=M.U b)(hy:M'.y=M.y:=by rfl):Move M M' none :=
 ⟨hb.os,hb.tape,hb.output,hb.size,fun b h _=>⟨hb.block b h,hU b h⟩,⟨fun b o u h1 h2=>by
  have:=cell_lt h1
  exact⟨(hb.cell (p:=⟨b,o,none⟩) this).trans h1,by rw[hU b this];exact h2⟩,hy,fun b k ⟨arr,e,h1,h2⟩=>⟨arr,e,(hb.block b (Array.getElem?_eq_some_iff.1 h1).1).trans h1,h2⟩⟩⟩
theorem Move.refl (M:Mem):Move M M none:=⟨rfl,rfl,rfl,Nat.le_refl _,fun _ _ _=>⟨rfl,rfl⟩,M.le_refl⟩
theorem Move.world {M:Mem}{w':World}(hb:Below M.w.heap.size M.w w'):Move M ⟨w',M.U,M.y⟩ none:=Move.mk0 hb fun _ _=>rfl
structure MoveX (M M':Mem)(ex:Nat→Prop):Prop where
 os:M'.w.os=M.w.os
 tape:M'.w.tape=M.w.tape
 output:M'.w.output=M.w.output
 size:M.w.heap.size≤M'.w.heap.size
 block:∀ b,b<M.w.heap.size→¬ ex b→M'.w.heap[b]? = M.w.heap[b]? ∧ M'.U b=M.U b
 le:M.le M'
theorem Move.x {M M':Mem}{ex:Option Nat}(h:Move M M' ex):MoveX M M' fun b=>some b=ex:=⟨h.os,h.tape,h.output,h.size,fun b hb he=>h.block b hb he,h.le⟩
theorem MoveX.refl (M:Mem)(ex:Nat→Prop):MoveX M M ex:=⟨rfl,rfl,rfl,Nat.le_refl _,fun _ _ _=>⟨rfl,rfl⟩,M.le_refl⟩
theorem MoveX.trans {A B C:Mem}{ex ey:Nat→Prop}(h:MoveX A B ex)(k:MoveX B C ey)(he:∀ b,b<A.w.heap.size→ey b→ex b):MoveX A C ex :=
 ⟨k.os.trans h.os,k.tape.trans h.tape,k.output.trans h.output,Nat.le_trans h.size k.size,fun b hb hn=>by
  obtain⟨h1,h2⟩:=h.block b hb hn
  obtain⟨k1,k2⟩:=k.block b (Nat.lt_of_lt_of_le hb h.size) (fun e=>hn (he b hb e))
  exact⟨k1.trans h1,k2.trans h2⟩,Mem.le_trans h.le k.le⟩
theorem MoveX.weaken {M M':Mem}{ex ex':Nat→Prop}(h:MoveX M M' ex)(he:∀ b,ex b→ex' b):MoveX M M' ex':=⟨h.os,h.tape,h.output,h.size,fun b hb hn=>h.block b hb (fun e=>hn (he b e)),h.le⟩
theorem MoveX.none {M M':Mem}{ex:Nat→Prop}(h:MoveX M M' ex)(he:∀ b,¬ ex b):Move M M' none:=⟨h.os,h.tape,h.output,h.size,fun b hb _=>h.block b hb (he b),h.le⟩
def Free (v:Value):Prop:=∃ A n,v=.slice A n n
structure OwnAt (M:Mem)(g sz:Nat)(v:Value):Prop where
 ex:∃ n cap cur e,v=.slice (some ⟨g,0,none⟩) n cap∧M.w.heap[g]? = some (.cells cur e (0,0))∧n≤cap∧cap≤maxLen∧cur.size=cap * sz∧M.U g=n * sz
def TagOK (M:Mem)(κ:Nat→Option Nat)(x:PV)(c:Nat)(v:Value):Prop :=
 c=0∨∃ nl sz n cells,x=.sl nl sz n cells∧(Free v∨(2≤c∧∃ g,κ c=some g∧OwnAt M g sz v))
theorem TagOK.zero {M:Mem}{κ:Nat→Option Nat}{x:PV}{v:Value}:TagOK M κ x 0 v:=.inl rfl
theorem OwnAt.lt {M:Mem}{g sz:Nat}{v:Value}(h:OwnAt M g sz v):g<M.w.heap.size:=by
 obtain⟨n,cap,cur,e,_,h,_⟩:=h.ex
 exact heap_lt h
theorem OwnAt.move {M M':Mem}{ex:Option Nat}(hm:Move M M' ex){g sz:Nat}{v:Value}(h:OwnAt M g sz v)(hg:some g≠ex):OwnAt M' g sz v:=by
 obtain⟨n,cap,cur,e,h1,h2,h3,h4,h5,h6⟩:=h.ex
 obtain⟨k1,k2⟩:=hm.block g (heap_lt h2) hg
 exact⟨n,cap,cur,e,h1,k1.trans h2,h3,h4,h5,k2.trans h6⟩
theorem TagOK.move {M M':Mem}{ex:Option Nat}(hm:Move M M' ex){κ:Nat→Option Nat}{x:PV}{c:Nat}{v:Value}(h:TagOK M κ x c v)(hg:∀ g,κ c=some g→some g≠ex):TagOK M' κ x c v:=by
 rcases h with h|⟨nl,sz,n,cells,hx,h⟩
 ·exact .inl h
 ·refine .inr ⟨nl,sz,n,cells,hx,?_⟩
  rcases h with h|⟨hc,g,hk,ho⟩
  ·exact .inl h
  ·exact .inr ⟨hc,g,hk,ho.move hm (hg g hk)⟩
def BoxOK (M:Mem)(β κ:Nat→Option Nat)(cs:List TV)(arr:List Value):Prop :=
 cs.length=arr.length∧∀ (j:Nat) (x:TV),cs[j]? = some x→∃ u,arr[j]? = some u∧u.oneCell'=true∧RelS M β x.1 u∧TagOK M κ x.1 x.2 u
theorem BoxOK.move {M M':Mem}{ex:Option Nat}(hm:Move M M' ex){β β' κ:Nat→Option Nat}(hb:∀ id b,β id=some b→β' id=some b){cs:List TV}{arr:List Value}(h:BoxOK M β κ cs arr)(hg:∀ c g,κ c=some g→some g≠ex):BoxOK M' β' κ cs arr :=
 ⟨h.1,fun j x hx=>let ⟨u,h1,h2,h3,h4⟩:=h.2 j x hx;⟨u,h1,h2,h3.mono hm.le hb,h4.move hm (hg _)⟩⟩
theorem BoxOK.beta {M:Mem}{β β' κ:Nat→Option Nat}(hb:∀ id b,β id=some b→β' id=some b){cs:List TV}{arr:List Value}(h:BoxOK M β κ cs arr):BoxOK M β' κ cs arr :=
 ⟨h.1,fun j x hx=>let ⟨u,h1,h2,h3,h4⟩:=h.2 j x hx;⟨u,h1,h2,h3.mono M.le_refl hb,h4⟩⟩
theorem BoxOK.rels {M:Mem}{β κ:Nat→Option Nat}{cs:List TV}{arr:List Value}(h:BoxOK M β κ cs arr):RelCs M β (cs.map (·.1)) arr :=
 RelCs.of_get (by simpa using h.1) fun j x u hx hu=>by
  rw[List.getElem?_map] at hx
  obtain⟨y,hy,rfl⟩:=Option.map_eq_some_iff.1 hx
  obtain⟨v,h1,_,h3,_⟩:=h.2 j y hy
  rw[hu] at h1
  injection h1 with h1
  rw[h1]
  exact h3
theorem BoxOK.one {M:Mem}{β κ:Nat→Option Nat}{cs:List TV}{arr:List Value}(h:BoxOK M β κ cs arr):∀ u∈arr,u.oneCell'=true:=by
 intro u hu
 obtain⟨j,hj⟩:=List.getElem?_of_mem hu
 have hlt:j<cs.length:=by rw[h.1];exact (List.getElem?_eq_some_iff.1 hj).1
 obtain⟨v,h1,h2,_⟩:=h.2 j cs[j] (List.getElem?_eq_getElem hlt)
 rw[hj] at h1
 injection h1 with h1
 rw[h1]
 exact h2
theorem BoxOK.rel {M:Mem}{β κ:Nat→Option Nat}:∀ {cs:List TV} {arr:List Value},(cs.all fun x=>x.1.data)=true→BoxOK M β κ cs arr→RelL M (cs.map (·.1)) arr
 |[],arr,_,h=>by
  have:=h.1
  cases arr with
  |nil=>rfl
  |cons a l=>simp at this
 |x::cs,[],_,h=>by have:=h.1;simp at this
 |x::cs,u::arr,hd,h=>by
  simp only[List.all_cons,Bool.and_eq_true] at hd
  obtain⟨v,h1,h2,h3,_⟩:=h.2 0 x rfl
  simp at h1
  subst h1
  exact⟨u,arr,rfl,h2,h3.data hd.1,BoxOK.rel hd.2 ⟨by have:=h.1;simpa using this,fun j y hy=>h.2 (j+1) y hy⟩⟩
theorem BoxOK.of_rels {M:Mem}{β κ:Nat→Option Nat}{xs:List PV}{arr:List Value}(h:RelCs M β xs arr)(h1:∀ u∈arr,u.oneCell'=true):BoxOK M β κ (xs.map fun x=>(x,0)) arr :=
 ⟨by simp[h.length],fun j x hx=>by
  rw[List.getElem?_map] at hx
  obtain⟨y,hy,rfl⟩:=Option.map_eq_some_iff.1 hx
  obtain⟨u,k1,k2⟩:=h.get hy
  exact⟨u,k1,h1 u (List.mem_of_getElem? k1),k2,.inl rfl⟩⟩
theorem RelL.rels {M:Mem}{β:Nat→Option Nat}:∀ {xs:List PV} {vs:List Value},RelL M xs vs→RelCs M β xs vs
 |[],vs,h=>by simp only[RelL] at h;subst h;simp only[RelCs]
 |x::xs,vs,h=>by
  simp only[RelL] at h
  obtain⟨u,us,rfl,_,h1,h2⟩:=h
  simp only[RelCs]
  exact⟨u,us,rfl,RelS.of_data h1,RelL.rels h2⟩
theorem BoxOK.of_rel {M:Mem}{β κ:Nat→Option Nat}{xs:List PV}{arr:List Value}(h:RelL M xs arr):BoxOK M β κ (xs.map fun x=>(x,0)) arr:=BoxOK.of_rels h.rels h.one
theorem RelD.tup {M:Mem}{xs:List PV}{v:Value}(h:RelD M (.tuple xs) v):v.oneCell'=false:=by
 simp only[RelD] at h
 obtain⟨vs,rfl,_⟩:=h
 rfl
def BoxK (M:Mem)(β κ:Nat→Option Nat)(cs:List TV)(arr:List Value):Prop:=BoxOK M β κ cs arr∨∃ xs,cs=[(.tuple xs,0)]∧RelL M xs arr
theorem BoxK.move {M M':Mem}{ex:Option Nat}(hm:Move M M' ex){β β' κ:Nat→Option Nat}(hb:∀ id b,β id=some b→β' id=some b){cs:List TV}{arr:List Value}(h:BoxK M β κ cs arr)(hg:∀ c g,κ c=some g→some g≠ex):BoxK M' β' κ cs arr :=
 h.imp (fun h=>h.move hm hb hg) fun ⟨xs,e,h⟩=>⟨xs,e,RelL.mono hm.le _ _ h⟩
theorem BoxK.beta {M:Mem}{β β' κ:Nat→Option Nat}(hb:∀ id b,β id=some b→β' id=some b){cs:List TV}{arr:List Value}(h:BoxK M β κ cs arr):BoxK M β' κ cs arr :=
 h.imp (fun h=>h.beta hb) id
theorem BoxK.cells {M:Mem}{β κ:Nat→Option Nat}{cs:List TV}{arr:List Value}(h:BoxK M β κ cs arr)(ha:arrB cs=none):BoxOK M β κ cs arr:=by
 rcases h with h|⟨xs,rfl,_⟩
 ·exact h
 ·cases ha
theorem arrB_spec {cs:List TV}{xs:List PV}(ha:arrB cs=some xs):∃ c,cs=[(.tuple xs,c)]:=by
 match cs,ha with
 |[(x,c)],ha =>
  cases x<;>simp only[arrB,tupOf,reduceCtorEq,Option.some.injEq] at ha
  subst ha
  exact⟨c,rfl⟩
theorem BoxK.arr {M:Mem}{β κ:Nat→Option Nat}{cs:List TV}{arr:List Value}{xs:List PV}(h:BoxK M β κ cs arr)(ha:arrB cs=some xs):RelL M xs arr:=by
 obtain⟨c,rfl⟩:=arrB_spec ha
 rcases h with h|⟨ys,e,h⟩
 ·obtain⟨u,_,h2,h3,_⟩:=h.2 0 _ rfl
  rw[RelD.tup (show RelD M (.tuple xs) u from h3)] at h2
  cases h2
 ·injection e with e
  injection e with e
  injection e with e
  rw[e]
  exact h
def BsK (M:Mem)(β:Nat→Option Nat)(cs:List PV)(arr:List Value):Prop:=(RelCs M β cs arr∧∀ u∈arr,u.oneCell'=true)∨∃ xs,cs=[.tuple xs]∧RelL M xs arr
theorem BoxK.bs {M:Mem}{β κ:Nat→Option Nat}{cs:List TV}{arr:List Value}(h:BoxK M β κ cs arr):BsK M β (cs.map (·.1)) arr :=
 h.imp (fun h=>⟨h.rels,h.one⟩) fun ⟨xs,e,h⟩=>⟨xs,by rw[e];rfl,h⟩
theorem BoxK.of_bs {M:Mem}{β κ:Nat→Option Nat}{xs:List PV}{arr:List Value}(h:BsK M β xs arr):BoxK M β κ (xs.map fun x=>(x,0)) arr :=
 h.imp (fun h=>BoxOK.of_rels h.1 h.2) fun ⟨ys,e,h⟩=>⟨ys,by rw[e];rfl,h⟩
theorem BsK.map {M M':Mem}{β β':Nat→Option Nat}{f:List PV→Option (List PV)}{xs ys:List PV}{arr:List Value}(h:BsK M β xs arr)(hf:f xs=some ys)(h1:∀ vs,RelCs M β xs vs→RelCs M' β' ys vs)(h2:∀ zs,xs=[.tuple zs]→ys=xs)(h3:∀ zs,RelL M zs arr→RelL M' zs arr):BsK M' β' ys arr :=
 h.imp (fun h=>⟨h1 _ h.1,h.2⟩) fun ⟨zs,e,h⟩=>⟨zs,(h2 zs e).trans e,h3 _ h⟩
structure Cx where
 M0:Mem
 fp:Nat→Prop
 nl:Nat
 np:Nat
 lb:Nat→Option Nat
 nlp:nl≤np
 J:Out→Mem→(Nat→Prop)→Prop
 stab:∀ {o:Out} {M M':Mem} {f:Nat→Prop},J o M f→(∀ b,f b→M'.w.heap[b]? = M.w.heap[b]? ∧ M'.U b=M.U b)→M.le M'→M.w.heap.size≤M'.w.heap.size→J o M' f
 ds0:List Deferred
def Cx.low (X:Cx)(g:Nat):Prop:=X.M0.w.heap.size≤g∨X.fp g
def Cx.lone (M0:Mem)(fp:Nat→Prop):Cx:=⟨M0,fp,0,0,fun _=>none,Nat.le_refl _,fun _ _ f=>∀ b,¬ f b,fun h _ _ _=>h,[]⟩
structure InvB (NG:Nat)(X:Cx)(st:St)(a:Act)(M:Mem)(β κ:Nat→Option Nat):Prop where
 mv:MoveX X.M0 M X.fp
 ng:NG≤X.M0.w.heap.size
 fpng:∀ b,X.fp b→NG≤b
 len:st.ρ.length=a.tmps.size
 slot:∀ (t:Nat) (x:TV),st.ρ[t]? = some x→∃ v,a.tmps[t]? = some v∧RelS M β x.1 v∧TagOK M κ x.1 x.2 v
 box:∀ (id b:Nat),β id=some b→∃ cs arr e,st.bx[id]? = some (some cs)∧RowP M.w b e arr∧BoxK M β κ cs arr∧M.U b=0∧X.low b
 alive:∀ (id:Nat) (cs:List TV),st.bx[id]? = some (some cs)→∃ b,β id=some b
 binj:∀ id id' b,β id=some b→β id'=some b→id=id'
 kinj:∀ c c' g,κ c=some g→κ c'=some g→c=c'
 kbox:∀ c g id b,κ c=some g→β id=some b→g≠b
 klow:∀ c g,κ c=some g→X.low g
 khigh:∀ c g,κ c=some g→g<M.w.heap.size
def markOf (D:Nat):Deferred:={ target:=.collected D,args:=#[] }
def marksIn (d0:List Deferred)(Ds:List Nat)(ds:List Deferred):Prop:=∃ A B,Ds=A++B∧ds=A.map markOf++(d0++B.map markOf)
theorem marksIn.nil:marksIn [] [] []:=⟨[],[],rfl,rfl⟩
theorem marksIn.cons {d0:List Deferred}{Ds:List Nat}{ds:List Deferred}(h:marksIn d0 Ds ds)(D:Nat):marksIn d0 (D::Ds) (markOf D::ds):=by
 obtain⟨A,B,rfl,rfl⟩:=h
 exact⟨D::A,B,rfl,rfl⟩
structure Marks (X:Cx)(ds:List Deferred)(M:Mem)(f f0:Nat→Prop):Prop where
 ex:∃ Ds:List Nat,marksIn X.ds0 Ds ds∧Ds.Nodup∧∀ D∈Ds,f D∧¬ f0 D∧M.w.heap[D]? = some (.deferred (some []))∧X.M0.w.heap.size≤D
structure OutOK (X:Cx)(st:St)(ds:List Deferred)(M:Mem)(β κ:Nat→Option Nat):Prop where
 lent:∀ id b,β id=some b→(∃ j,j<X.np∧id=st.ρ.length+j∧X.lb j=some b)∨(X.M0.w.heap.size≤b∧∀ j,j<X.np→id≠st.ρ.length+j)
 room:0<X.np→st.ρ.length+X.np≤st.bx.length
 ex:∃ f f0:Nat→Prop,X.J st.out M f0∧(∀ b,f0 b→f b)∧Marks X ds M f f0∧(∀ b,f b→b<M.w.heap.size∧X.low b)∧(∀ id b,β id=some b→¬ f b)∧(∀ c g,κ c=some g→¬ f g)
structure Inv (NG:Nat)(X:Cx)(st:St)(a:Act)(M:Mem)(β κ:Nat→Option Nat):Prop extends InvB NG X st a M β κ where
 out:OutOK X st a.defers M β κ
theorem OutOK.next {X:Cx}{st st':St}{ds:List Deferred}{M M':Mem}{β κ β' κ':Nat→Option Nat}{ex:Nat→Prop}(h:OutOK X st ds M β κ)(hρ:st'.ρ.length=st.ρ.length)(hbx:st.bx.length≤st'.bx.length)(ho:st'.out=st.out)(hM:X.M0.w.heap.size≤M.w.heap.size)
  (hm:MoveX M M' ex) (hex:∀ b,ex b→(∃ id,β id=some b)∨(∃ c,κ c=some b))
  (hβ:∀ id b,β' id=some b→β id=some b∨(M.w.heap.size≤b∧∀ j,j<X.np→id≠st.ρ.length+j)) (hκ:∀ c b,κ' c=some b→(∃ i,β i=some b)∨(∃ c,κ c=some b)∨M.w.heap.size≤b):OutOK X st' ds M' β' κ':=by
 obtain⟨f,f0,h1,h01,hmk,h2,h3,h4⟩:=h.ex
 have hne:∀ b,f b→¬ ex b:=fun b hb he=>by
  rcases hex b he with ⟨id,hi⟩|⟨c,hc⟩
  ·exact h3 id b hi hb
  ·exact h4 c b hc hb
 refine⟨fun id b hb=>?_,fun h0=>by rw[hρ];exact Nat.le_trans (h.room h0) hbx,f,f0,?_,h01,⟨?_⟩,fun b hb=>⟨Nat.lt_of_lt_of_le (h2 b hb).1 hm.size,(h2 b hb).2⟩,fun id b hb hf=>?_,fun c g hg hf=>?_⟩
 ·rw[hρ]
  rcases hβ id b hb with h' | ⟨h',h''⟩
  ·exact h.lent id b h'
  ·exact .inr ⟨Nat.le_trans hM h',h''⟩
 ·rw[ho]
  exact X.stab h1 (fun b hb=>hm.block b (h2 b (h01 b hb)).1 (hne b (h01 b hb))) hm.le hm.size
 ·obtain⟨Ds,k1,k2,k3⟩:=hmk.ex
  exact⟨Ds,k1,k2,fun D hD=>⟨(k3 D hD).1,(k3 D hD).2.1,(hm.block D (h2 D (k3 D hD).1).1 (hne D (k3 D hD).1)).1.trans (k3 D hD).2.2.1,(k3 D hD).2.2.2⟩⟩
 ·rcases hβ id b hb with h' | ⟨h',_⟩
  ·exact h3 id b h' hf
  ·have:=(h2 b hf).1;omega
 ·rcases hκ c g hg with ⟨i,hi⟩|⟨c,hc⟩|hl
  ·exact h3 i g hi hf
  ·exact h4 c g hc hf
  ·have:=(h2 g hf).1;omega
theorem OutOK.next2 {X:Cx}{st st':St}{ds:List Deferred}{M M':Mem}{β κ β' κ':Nat→Option Nat}{ex:Nat→Prop}(h:OutOK X st ds M β κ)(hρ:st'.ρ.length=st.ρ.length)(hbx:st.bx.length≤st'.bx.length)(ho:st'.out=st.out)(hM:X.M0.w.heap.size≤M.w.heap.size)
  (hm:MoveX M M' ex) (hex:∀ b,ex b→(∃ id,β id=some b)∨(∃ c,κ c=some b))
  (hβ:∀ id b,β' id=some b→β id=some b∨((∃ i,β i=some b∧X.M0.w.heap.size≤b)∨M.w.heap.size≤b)∧∀ j,j<X.np→id≠st.ρ.length+j) (hκ:∀ c b,κ' c=some b→(∃ i,β i=some b)∨(∃ c,κ c=some b)∨M.w.heap.size≤b):OutOK X st' ds M' β' κ':=by
 obtain⟨f,f0,h1,h01,hmk,h2,h3,h4⟩:=h.ex
 have hne:∀ b,f b→¬ ex b:=fun b hb he=>by
  rcases hex b he with ⟨id,hi⟩|⟨c,hc⟩
  ·exact h3 id b hi hb
  ·exact h4 c b hc hb
 refine⟨fun id b hb=>?_,fun h0=>by rw[hρ];exact Nat.le_trans (h.room h0) hbx,f,f0,?_,h01,⟨?_⟩,fun b hb=>⟨Nat.lt_of_lt_of_le (h2 b hb).1 hm.size,(h2 b hb).2⟩,fun id b hb hf=>?_,fun c g hg hf=>?_⟩
 ·rw[hρ]
  rcases hβ id b hb with h' | ⟨⟨_,_,h'⟩|h',h''⟩
  ·exact h.lent id b h'
  ·exact .inr ⟨h',h''⟩
  ·exact .inr ⟨Nat.le_trans hM h',h''⟩
 ·rw[ho]
  exact X.stab h1 (fun b hb=>hm.block b (h2 b (h01 b hb)).1 (hne b (h01 b hb))) hm.le hm.size
 ·obtain⟨Ds,k1,k2,k3⟩:=hmk.ex
  exact⟨Ds,k1,k2,fun D hD=>⟨(k3 D hD).1,(k3 D hD).2.1,(hm.block D (h2 D (k3 D hD).1).1 (hne D (k3 D hD).1)).1.trans (k3 D hD).2.2.1,(k3 D hD).2.2.2⟩⟩
 ·rcases hβ id b hb with h' | ⟨⟨i,hi,_⟩|h',_⟩
  ·exact h3 id b h' hf
  ·exact h3 i b hi hf
  ·have:=(h2 b hf).1;omega
 ·rcases hκ c g hg with ⟨i,hi⟩|⟨c,hc⟩|hl
  ·exact h3 i g hi hf
  ·exact h4 c g hc hf
  ·have:=(h2 g hf).1;omega
section
variable {NG:Nat} {X:Cx} {st:St} {a:Act} {M:Mem} {β κ:Nat→Option Nat}
theorem InvB.size (h:InvB NG X st a M β κ):X.M0.w.heap.size≤M.w.heap.size:=h.mv.size
theorem InvB.le0 (h:InvB NG X st a M β κ):X.M0.le M:=h.mv.le
theorem InvB.lowng (h:InvB NG X st a M β κ){g:Nat}(hg:X.low g):NG≤g:=by
 rcases hg with hg|hg
 ·exact Nat.le_trans h.ng hg
 ·exact h.fpng g hg
theorem InvB.grow {M':Mem}(h:InvB NG X st a M β κ)(hm:Move M M' none):InvB NG X st a M' β κ where
 mv:=h.mv.trans hm.x (fun b _ e=>by cases e)
 ng:=h.ng
 fpng:=h.fpng
 len:=h.len
 slot:=fun t x hx=>let ⟨v,h1,h2,h3⟩:=h.slot t x hx;⟨v,h1,h2.mono hm.le (fun _ _ h=>h),h3.move hm (fun _ _=>by simp)⟩
 box:=fun id b hb=>by
  obtain⟨cs,arr,e,h1,h2,h3,h4,h5⟩:=h.box id b hb
  obtain⟨k1,k2⟩:=hm.block b h2.lt (by simp)
  exact⟨cs,arr,e,h1,h2.of_eq k1,h3.move hm (fun _ _ h=>h) (fun _ _ _=>by simp),k2.trans h4,h5⟩
 alive:=h.alive
 binj:=h.binj
 kinj:=h.kinj
 kbox:=h.kbox
 klow:=h.klow
 khigh:=fun c g hk=>Nat.lt_of_lt_of_le (h.khigh c g hk) hm.size
theorem Inv.grow {M':Mem}(h:Inv NG X st a M β κ)(hm:Move M M' none):Inv NG X st a M' β κ :=
 ⟨h.toInvB.grow hm,h.out.next rfl (Nat.le_refl _) rfl h.size hm.x (fun b e=>by cases e) (fun id b hb=>.inl hb) (fun c g hg=>.inr (.inl ⟨c,hg⟩))⟩
end
theorem put_tmps (a:Act)(d:Option Tmp)(v:Value):(a.put d v).defers=a.defers∧(a.put d v).tmps.size=a.tmps.size:=by
 cases d<;>simp[Act.put]
theorem putS_bx (d:Option Tmp)(x:TV)(st:St):(putS d x st).bx=st.bx:=by cases d<;>rfl
theorem putS_len (d:Option Tmp)(x:TV)(st:St):(putS d x st).ρ.length=st.ρ.length:=by cases d<;>simp[putS]
theorem InvB.put {NG:Nat}{X:Cx}{st:St}{a:Act}{M:Mem}{β κ:Nat→Option Nat}(h:InvB NG X st a M β κ)(d:Option Tmp){x:TV}{v:Value}(hx:RelS M β x.1 v)(ht:TagOK M κ x.1 x.2 v) :
  InvB NG X (putS d x st) (a.put d v) M β κ where
 mv:=h.mv
 ng:=h.ng
 fpng:=h.fpng
 len:=by rw[putS_len,(put_tmps a d v).2];exact h.len
 slot := by
  intro t y hy
  cases d with
  |none=>exact h.slot t y hy
  |some d =>
   simp only[putS,Act.put] at hy ⊢
   by_cases hdt:d=t
   ·subst hdt
    have hlt:d<st.ρ.length:=by
     rcases Nat.lt_or_ge d st.ρ.length with h' | h'
     ·exact h'
     ·rw[List.getElem?_eq_none (by simpa using h')] at hy;cases hy
    rw[List.getElem?_set_self hlt] at hy
    injection hy with hy
    subst hy
    exact⟨v,by rw[Array.getElem?_setIfInBounds_self_of_lt (by rw[← h.len];exact hlt)],hx,ht⟩
   ·rw[List.getElem?_set_ne hdt] at hy
    obtain⟨u,h1,h2⟩:=h.slot t y hy
    exact⟨u,by rw[Array.getElem?_setIfInBounds_ne hdt];exact h1,h2⟩
 box:=fun id b hb=>by rw[putS_bx];exact h.box id b hb
 alive:=fun id cs hc=>by rw[putS_bx] at hc;exact h.alive id cs hc
 binj:=h.binj
 kinj:=h.kinj
 kbox:=h.kbox
 klow:=h.klow
 khigh:=h.khigh
theorem putS_out (d:Option Tmp)(x:TV)(st:St):(putS d x st).out=st.out:=by cases d<;>rfl
theorem Inv.put {NG:Nat}{X:Cx}{st:St}{a:Act}{M:Mem}{β κ:Nat→Option Nat}(h:Inv NG X st a M β κ)(d:Option Tmp){x:TV}{v:Value}(hx:RelS M β x.1 v)(ht:TagOK M κ x.1 x.2 v) :
  Inv NG X (putS d x st) (a.put d v) M β κ:=⟨h.toInvB.put d hx ht,by rw[(put_tmps a d v).1];exact h.out.next (putS_len d x st) (by rw[putS_bx];exact Nat.le_refl _) (putS_out d x st) h.size (MoveX.refl M fun _=>False) (fun _ h=>h.elim) (fun id b hb=>.inl hb) (fun c g hg=>.inr (.inl ⟨c,hg⟩))⟩
def GOK (en:Env)(M:Mem):Prop:=∀ g cs,en.G g=some cs→∃ vs,RelL M cs vs∧CellsAt M g 0 vs
theorem GOK.mono {en:Env}{M M':Mem}(h:GOK en M)(hm:M.le M'):GOK en M':=fun g cs hg=>let ⟨vs,h1,h2⟩:=h g cs hg;⟨vs,h1.mono hm,h2.mono hm⟩
theorem RelL.mono' {M M':Mem}(hm:M.le M'){xs:List PV}{vs:List Value}(h:RelL M xs vs):RelL M' xs vs:=RelL.mono hm xs vs h
theorem RelS.undef {M:Mem}{β:Nat→Option Nat}{v:Value}:RelS M β .undef v:=trivial
theorem constPV_rel (P:Program)(t:TypeId)(M:Mem)(β κ:Nat→Option Nat)(v:Value):RelS M β (constPV P t v).1 v∧TagOK M κ (constPV P t v).1 (constPV P t v).2 v:=by
 cases v with
 |bool b=>exact⟨rfl,.inl rfl⟩
 |int k n=>exact⟨rfl,.inl rfl⟩
 |string s=>exact⟨by show Value.string s=.string ⟨s.data.toList.toArray⟩;simp,.inl rfl⟩
 |slice A n c =>
  cases A with
  |none =>
   simp only[constPV]
   split
   ·rename_i h
    obtain⟨rfl,rfl⟩:=h
    refine⟨?_,.inr ⟨_,_,_,_,rfl,.inl ⟨none,0,rfl⟩⟩⟩
    show RelD M (.sl (some true) _ 0 []) (.slice none 0 0)
    simp only[RelD]
    exact⟨none,0,[],rfl,Nat.le_refl _,Nat.zero_le _,by simp,by simp,by simp,rfl,.inl rfl⟩
   ·exact⟨trivial,.inl rfl⟩
  |some a=>exact⟨trivial,.inl rfl⟩
 |pointer a=>cases a with
  |none=>exact⟨rfl,.inl rfl⟩
  |some a=>exact⟨trivial,.inl rfl⟩
 |nilIface=>exact⟨rfl,.inl rfl⟩
 |nilFunc=>exact⟨rfl,.inl rfl⟩
 |_=>exact⟨trivial,.inl rfl⟩
theorem Inv.ev {en:Env}{NG:Nat}{X:Cx}{st:St}{a:Act}{M:Mem}{β κ:Nat→Option Nat}(h:Inv NG X st a M β κ)(hG:GOK en X.M0)(t:TypeId)(x:Operand) :
  RelS M β (Go.Proofs.YtkpfigikffphdaaGreatDoor.ev en st t x).1 (a.eval x)∧TagOK M κ (Go.Proofs.YtkpfigikffphdaaGreatDoor.ev en st t x).1 (Go.Proofs.YtkpfigikffphdaaGreatDoor.ev en st t x).2 (a.eval x):=by
 cases x with
 |tmp u =>
  simp only[Go.Proofs.YtkpfigikffphdaaGreatDoor.ev,Act.eval]
  rcases hu:st.ρ[u]? with _|y
  ·rw[List.getD,hu];exact⟨trivial,.inl rfl⟩
  ·obtain⟨v,h1,h2,h3⟩:=h.slot u y hu
   have e:a.tmps.getD u Go.undef=v:=by simp[h1]
   rw[List.getD,hu,e]
   exact⟨h2,h3⟩
 |const v=>exact constPV_rel _ _ _ _ _ _
 |global g =>
  simp only[Go.Proofs.YtkpfigikffphdaaGreatDoor.ev,Act.eval]
  rcases hg:en.G g with _|cs
  ·exact⟨trivial,.inl rfl⟩
  ·obtain⟨vs,h1,h2⟩:=(hG.mono h.le0) g cs hg
   exact⟨⟨g,0,vs,rfl,h1,h2⟩,.inl rfl⟩
 |func f =>
  simp only[Go.Proofs.YtkpfigikffphdaaGreatDoor.ev,Act.eval]
  split
  ·rename_i hlt
   exact⟨⟨[],by simp[cloV,hlt],rfl⟩,.inl rfl⟩
  ·exact⟨trivial,.inl rfl⟩
end Go.Proofs.YtkpfigikffphdaaGreatDoor
end
section
namespace Go.Proofs.YtkpfigikffphdaaGreatDoor
open Go.RowKit
def FR (ro:Option Nat):Fence:={ Fence.wide with round:=ro }
theorem FR_fn (ro:Option Nat)(f:FuncId):(FR ro).fn f:=trivial
structure BsOK (M:Mem)(β:Nat→Option Nat)(NG:Nat)(bs:List (List PV)):Prop where
 box:∀ (j:Nat) (cs:List PV),bs[j]? = some cs→∃ b arr e,β j=some b∧RowP M.w b e arr∧M.U b=0∧NG≤b∧BsK M β cs arr
 lt:∀ j b,β j=some b→j<bs.length
 inj:∀ i j b,β i=some b→β j=some b→i=j
structure YOK (P:Program)(NG:Nat)(W:World→Prop)(X:Cx)(k:Nat)(y:YFn):Prop where
 nl:X.nl=k
 call:∀ (M:Mem) (β:Nat→Option Nat) (bs:List (List PV)) (o:Out) (xs:List PV) (vs:List Value) (bs':List (List PV)) (o':Out) (b:Bool) (f:Nat→Prop),MoveX X.M0 M X.fp→X.J o M f→(∀ c,f c→c<M.w.heap.size∧X.low c) →
  BsOK M β NG bs→bs.length=k→(∀ j c,β j=some c→X.lb j=some c∧¬ f c)→RelCs M β xs vs→y.F bs o xs (R:=List (List PV)×Out×Bool) (fun b o v=>some (b,o,v))=some (bs',o',b) →
  ∃ fn tmps assign body,(Instr.yield M.y.l vs.toArray).run P M.w=.ok (.round M.y.l fn tmps assign body) M.w∧RoundIn Fence.wide 0 P M.y.l fn tmps assign body M.w fun e w'=>e=.returned (.bool b) ∧
   ∃ U' f',MoveX M ⟨w',U',M.y⟩ (fun c=>f c∨∃ j,β j=some c)∧BsOK ⟨w',U',M.y⟩ β NG bs'∧bs'.length=k∧X.J o' ⟨w',U',M.y⟩ f'∧∀ c,f' c→(f c∨M.w.heap.size≤c)∧c<w'.heap.size
structure Amb (en:Env)(NG:Nat)(W:World→Prop)(X:Cx):Prop where
 w:W X.M0.w
 y:∀ k y,en.Y=some (k,y)→YOK en.P NG W X k y
def Sim (en:Env)(NG:Nat)(W:World→Prop)(st:St)(o:Oper)(act:PAct):Prop :=
 ∀ (X:Cx) (a:Act) (M:Mem) (β κ:Nat→Option Nat),Inv NG X st a M β κ→GOK en X.M0→Amb en NG W X →
 ∀ st',papply act o.dst st=some st'→∀ (ro:Option Nat) (next:Act→World→Prop) (Q:Exit→Act→World→Prop),
  (∀ a' M' β' κ',Inv NG X st' a' M' β' κ'→next a' M'.w)→o.wpIn (FR ro) 0 en.P a M.w next Q
theorem not_defer {P:Program}{o:Oper}{ρ:Operand→Value}{w w':World}{n:Next}(h:(execOp ρ o).run P w=.ok n w')(hn:∀ d,n≠.defer d):∀ c,o.op≠.defer c:=by
 intro c hc
 simp only[execOp,hc,Sem.run_bind] at h
 rcases hr:(resolve ρ c o.type).run P w with ⟨d,w1⟩|⟨e,w1⟩
 ·rw[hr] at h
  simp at h
  exact hn d h.1.symm
 ·rw[hr] at h
  simp[Result.andThen] at h
theorem wp_value {P:Program}{o:Oper}{a:Act}{w w':World}{v:Value}{ro:Option Nat}{next:Act→World→Prop}{Q:Exit→Act→World→Prop}
  (h:(execOp a.eval o).run P w=.ok (.value v) w') (hn:next (a.put o.dst v) w'):o.wpIn (FR ro) 0 P a w next Q:=by
 refine⟨fun _ _=>trivial,?_⟩
 rw[Oper.semAt_eq _ _ _ (not_defer h (by simp)),h]
 exact hn
theorem wp_none {P:Program}{o:Oper}{a:Act}{w w':World}{ro:Option Nat}{next:Act→World→Prop}{Q:Exit→Act→World→Prop}
  (h:(execOp a.eval o).run P w=.ok .skip w') (hn:next (a.put o.dst undef) w'):o.wpIn (FR ro) 0 P a w next Q:=by
 refine⟨fun _ _=>trivial,?_⟩
 rw[Oper.semAt_eq _ _ _ (not_defer h (by simp)),h]
 exact hn
theorem wp_enter {P:Program}{o:Oper}{a:Act}{w w':World}{f:FuncId}{args:Array Value}{ro:Option Nat}{next:Act→World→Prop}{Q:Exit→Act→World→Prop}
  (h:(execOp a.eval o).run P w=.ok (.enter f args) w') (hc:Calls P f args w' fun e w''=>∃ v,e=.returned v∧next (a.put o.dst v) w''):o.wpIn (FR ro) 0 P a w next Q:=by
 refine⟨fun _ _=>trivial,?_⟩
 rw[Oper.semAt_eq _ _ _ (not_defer h (by simp)),h]
 rw[Oper.uponIn_enter]
 refine⟨fun hd=>by simp[FR,Fence.wide] at hd,?_⟩
 refine CallsIn.mono (show CallsIn Fence.wide (0-1) P f args w' _ from callsIn_wide.2 hc) ?_
 rintro e w'' ⟨v,rfl,h3⟩
 exact h3
section
variable {en:Env} {NG:Nat} {W:World→Prop} {st:St} {o:Oper}
theorem sim_val {x:PV}{c:Nat}(h:∀ (X:Cx) (a:Act) (M:Mem) (β κ:Nat→Option Nat),Inv NG X st a M β κ→GOK en X.M0→Amb en NG W X →
  ∃ v M',(execOp a.eval o).run en.P M.w=.ok (.value v) M'.w∧Move M M' none∧RelS M' β x v∧TagOK M' κ x c v):Sim en NG W st o (.val x c):=by
 intro X a M β κ hI hG hW st' hst ro next Q hn
 obtain⟨v,M',h1,h2,h3,h4⟩:=h X a M β κ hI hG hW
 simp only[papply,actVal,Option.map_some,Option.some.injEq] at hst
 subst hst
 exact wp_value h1 (hn _ M' β κ ((hI.grow h2).put o.dst h3 h4))
theorem sim_same {x:PV}{c:Nat}(h:∀ (X:Cx) (a:Act) (M:Mem) (β κ:Nat→Option Nat),Inv NG X st a M β κ→GOK en X.M0→Amb en NG W X →
  ∃ v,(execOp a.eval o).run en.P M.w=.ok (.value v) M.w∧RelS M β x v∧TagOK M κ x c v):Sim en NG W st o (.val x c) :=
 sim_val fun X a M β κ hI hG hW=>let ⟨v,h1,h2,h3⟩:=h X a M β κ hI hG hW;⟨v,M,h1,Move.refl M,h2,h3⟩
theorem rel_int {M:Mem}{β:Nat→Option Nat}{k:IntKind}{n:Int}{v:Value}(h:RelS M β (.int k n) v):v=.int k n:=h
theorem rel_bool {M:Mem}{β:Nat→Option Nat}{b:Bool}{v:Value}(h:RelS M β (.bool b) v):v=.bool b:=h
theorem rel_str {M:Mem}{β:Nat→Option Nat}{s:List UInt8}{v:Value}(h:RelS M β (.str s) v):v=.string ⟨s.toArray⟩:=h
theorem sim_move {x:Operand}(ho:o.op=.move x){act:PAct}(h:presolve en st o some=some act):Sim en NG W st o act:=by
 simp only[presolve,ho,Option.some.injEq] at h
 subst h
 refine sim_same fun X a M β κ hI hG _=>?_
 obtain⟨h1,h2⟩:=hI.ev hG o.type x
 refine⟨a.eval x,by simp[execOp,ho],h1,?_⟩
 split
 ·exact h2
 ·exact .inl rfl
theorem sim_assign {x:Operand}(ho:o.op=.assign x){act:PAct}(h:presolve en st o some=some act):Sim en NG W st o act:=by
 simp only[presolve,ho,Option.some.injEq] at h
 subst h
 refine sim_same fun X a M β κ hI hG _=>?_
 obtain⟨h1,h2⟩:=hI.ev hG o.type x
 refine⟨a.eval x,by simp[execOp,ho],h1,?_⟩
 split
 ·exact h2
 ·exact .inl rfl
theorem sim_pick {c x y:Operand}(ho:o.op=.pick c x y){act:PAct}(h:presolve en st o some=some act):Sim en NG W st o act:=by
 simp only[presolve,ho] at h
 split at h
 ·rename_i cb hc
  have hcv:∀ {X:Cx} {a:Act} {M:Mem} {β κ:Nat→Option Nat},Inv NG X st a M β κ→GOK en X.M0→a.eval c=.bool cb:=fun hI hG=>by
   have:=(hI.ev hG o.type c).1
   rw[hc] at this
   exact this
  have hrun:∀ {X:Cx} {a:Act} {M:Mem} {β κ:Nat→Option Nat},Inv NG X st a M β κ→GOK en X.M0→(execOp a.eval o).run en.P M.w=.ok (.value (if cb then a.eval x else a.eval y)) M.w:=fun hI hG=>by
   simp[execOp,ho,hcv hI hG,asBool]
  split at h
  ·rename_i bx bY hx hy
   simp only[Option.some.injEq] at h
   subst h
   refine sim_same fun X a M β κ hI hG _=>⟨_,hrun hI hG,?_,.inl rfl⟩
   have h1:=(hI.ev hG o.type x).1
   have h2:=(hI.ev hG o.type y).1
   rw[hx] at h1
   rw[hy] at h2
   rw[rel_bool h1,rel_bool h2]
   cases cb<;>rfl
  ·cases cb
   ·simp only[cond_false,Option.some.injEq] at h
    subst h
    refine sim_same fun X a M β κ hI hG _=>⟨_,hrun hI hG,?_,.inl rfl⟩
    exact (hI.ev hG o.type y).1
   ·simp only[cond_true,Option.some.injEq] at h
    subst h
    refine sim_same fun X a M β κ hI hG _=>⟨_,hrun hI hG,?_,.inl rfl⟩
    exact (hI.ev hG o.type x).1
 ·cases h
theorem eqGuard_other {P:Program} {w:World} {op:BinOp} {t:TypeId} {x y:Operand} {a b:Value} (h1:a=.nilIface→b=.nilIface→∃ c,y=.const c) (h2:∀ xs ys,a=.agg xs→b=.agg ys→False) :
    (eqGuard op t x y a b).run P w=.ok () w:=by
  unfold eqGuard
  cases op <;> first
    | rfl
    | (cases a<;>cases b<;>first
        | rfl
        | exact (h2 _ _ rfl rfl).elim
        | (obtain ⟨c,rfl⟩:=h1 rfl rfl
           simp))
theorem pint_ok {P:Program} {w:World} {op:BinOp} {k:IntKind} {a b:Int} {v:PV} (h:pint op k a b some=some v) (t:TypeId) (hs:op≠.shl) (hr:op≠.shr) :
    ∃ u,(binOp op t (.int k a) (.int k b)).run P w=.ok u w∧∀ M β,RelS M β v u:=by
  cases op<;>simp only [pint,Option.some.injEq] at h<;>first
    | (subst h;exact ⟨_,by simp [binOp,Op.intArith,Op.intBits,Op.intCmp],fun _ _=>rfl⟩)
    | (rcases hb:(b == 0) with _ | _<;>simp only [hb,cond_true,cond_false,Option.some.injEq,reduceCtorEq] at h
       subst h
       have hb':b≠0:=by simpa using hb
       exact ⟨_,by simp [binOp,Op.intDiv,hb'],fun _ _=>rfl⟩)
    | exact (hs rfl).elim
    | exact (hr rfl).elim
theorem pstr_ok {P:Program}{w:World}{op:BinOp}{a b:List UInt8}{v:PV}(h:pstr op a b some=some v)(t:TypeId) :
  ∃ u,(binOp op t (.string ⟨a.toArray⟩) (.string ⟨b.toArray⟩)).run P w=.ok u w∧∀ M β,RelS M β v u:=by
 cases op<;>simp only[pstr,Option.some.injEq,reduceCtorEq] at h
 case add =>
  rcases hb:decide (a.length+b.length≤9223372036854775807) with _|_<;>simp only[hb,cond_true,cond_false,Option.some.injEq,reduceCtorEq] at h
  subst h
  have hb':a.length+b.length≤9223372036854775807:=by simpa using hb
  refine⟨.string ⟨(a++b).toArray⟩,?_,fun _ _=>rfl⟩
  have hs:¬ ((((⟨a.toArray⟩:ByteArray).size+(⟨b.toArray⟩:ByteArray).size:Nat):Int)>IntKind.i64.max):=by
   simp only[ByteArray.size,List.size_toArray,IntKind.max,IntKind.signed,IntKind.bits]
   simp
   omega
  have he:(⟨a.toArray⟩:ByteArray)++(⟨b.toArray⟩:ByteArray)=⟨(a++b).toArray⟩:=by
   apply ByteArray.ext
   simp[ByteArray.data_append]
  simp only[binOp,Op.stringOp,if_neg hs,Sem.run_pure,he]
 all_goals
  subst h
  exact⟨_,by simp[binOp,Op.stringOp,bne],fun _ _=>rfl⟩
theorem run_und {P:Program}{t:TypeId}{d:TypeDesc}(h:P.underlying t=some d)(w:World):(underlying t).run P w=.ok d w:=run_underlying h w
theorem isSliceT_spec {P:Program}{t:TypeId}(h:isSliceT P t=true):∃ e,P.underlying t=some (.slice e):=by
 unfold isSliceT at h
 split at h
 ·exact⟨_,by assumption⟩
 ·cases h
theorem isPtrT_spec {P:Program}{t:TypeId}(h:isPtrT P t=true):∃ e,P.underlying t=some (.pointer e):=by
 unfold isPtrT at h
 split at h
 ·exact⟨_,by assumption⟩
 ·cases h
theorem isIfaceT_spec {P:Program}{t:TypeId}(h:isIfaceT P t=true):∃ e,P.underlying t=some (.interface e):=by
 unfold isIfaceT at h
 split at h
 ·exact⟨_,by assumption⟩
 ·cases h
theorem isFuncT_spec {P:Program}{t:TypeId}(h:isFuncT P t=true):∃ a b c,P.underlying t=some (.func a b c):=by
 unfold isFuncT at h
 split at h
 ·exact⟨_,_,_,by assumption⟩
 ·cases h
theorem isBoolT_spec {P:Program}{t:TypeId}(h:isBoolT P t=true):P.underlying t=some .bool:=by
 unfold isBoolT at h
 split at h
 ·assumption
 ·cases h
theorem equal_in (t:TypeId):∃ d,∀ x y,Op.equal t x y=Op.equalIn (d+1) t x y:=⟨9999,fun _ _=>rfl⟩
theorem nil_ok {P:Program}{w:World}{M:Mem}{β:Nat→Option Nat}{t:TypeId}{x:PV}{a c:Value}{b:Bool}(hx:nilCmp P t x c=some b)(hr:RelS M β x a) :
  (Op.equal t a c).run P w=.ok b w∧(a=.nilIface→∃ c',Operand.const c=.const c')∧(∀ xs,a≠.agg xs)∧(∀ k n,a≠.int k n)∧(∀ s,a≠.string s)∧(∀ k n,a≠.float k n)∧(∀ k n m,a≠.complex k n m):=by
 obtain⟨d,hd⟩:=equal_in t
 rw[hd]
 unfold nilCmp at hx
 split at hx
 ·split at hx
  ·rename_i ht
   obtain⟨e,ht⟩:=isSliceT_spec ht
   split at hx
   ·obtain⟨A,c',vs,rfl,_,_,h4,_⟩:=(show RelD M _ _ from hr)
    have:=h4 b hx
    refine⟨?_,by simp,by simp,by simp,by simp,by simp,by simp⟩
    cases A<;>simp[Op.equalIn,run_und ht] at this ⊢ <;> exact this
   ·injection hx with hx
    subst hx
    obtain⟨b',c',_,rfl,_⟩:=hr
    exact⟨by simp[Op.equalIn,run_und ht],by simp,by simp,by simp,by simp,by simp,by simp⟩
   ·cases hx
  ·cases hx
 ·split at hx
  ·rename_i ht
   obtain⟨e,ht⟩:=isPtrT_spec ht
   split at hx<;>simp only[Option.some.injEq,reduceCtorEq] at hx<;>subst hx
   ·obtain rfl:a=.pointer none:=hr
    exact⟨by simp[Op.equalIn,run_und ht],by simp,by simp,by simp,by simp,by simp,by simp⟩
   ·obtain⟨ad,rfl⟩:∃ ad,a=.pointer (some ad):=hr
    exact⟨by simp[Op.equalIn,run_und ht],by simp,by simp,by simp,by simp,by simp,by simp⟩
   ·obtain⟨b',_,rfl⟩:=hr
    exact⟨by simp[Op.equalIn,run_und ht],by simp,by simp,by simp,by simp,by simp,by simp⟩
   ·obtain⟨b',_,_,rfl,_⟩:=(show RelD M (.eptr _) a from hr)
    exact⟨by simp[Op.equalIn,run_und ht],by simp,by simp,by simp,by simp,by simp,by simp⟩
   ·obtain⟨b',_,rfl⟩:=hr
    exact⟨by simp[Op.equalIn,run_und ht],by simp,by simp,by simp,by simp,by simp,by simp⟩
  ·cases hx
 ·split at hx
  ·rename_i ht
   obtain⟨e,ht⟩:=isIfaceT_spec ht
   split at hx<;>simp only[Option.some.injEq,reduceCtorEq] at hx<;>subst hx
   ·obtain rfl:a=.nilIface:=hr
    exact⟨by simp[Op.equalIn,run_und ht],by simp,by simp,by simp,by simp,by simp,by simp⟩
   ·obtain⟨u,rfl,_⟩:=(show RelD M (.iface _ _) a from hr)
    exact⟨by simp[Op.equalIn,run_und ht],by simp,by simp,by simp,by simp,by simp,by simp⟩
  ·cases hx
 ·split at hx
  ·rename_i ht
   obtain⟨e,e',e'',ht⟩:=isFuncT_spec ht
   split at hx<;>simp only[Option.some.injEq,reduceCtorEq] at hx<;>subst hx
   ·obtain rfl:a=.nilFunc:=hr
    exact⟨by simp[Op.equalIn,run_und ht],by simp,by simp,by simp,by simp,by simp,by simp⟩
   ·obtain⟨vs,rfl,_⟩:=hr
    unfold cloV
    split<;>exact⟨by simp[Op.equalIn,run_und ht],by simp,by simp,by simp,by simp,by simp,by simp⟩
   ·obtain rfl:=hr
    exact⟨by simp[Op.equalIn,run_und ht],by simp,by simp,by simp,by simp,by simp,by simp⟩
  ·cases hx
 ·cases hx
end
end Go.Proofs.YtkpfigikffphdaaGreatDoor
namespace Go.Proofs.YtkpfigikffphdaaGreatDoor
open Go.RowKit
theorem bind_some_inv {α β:Type}{x:Option α}{f:α→Option β}{r:β}(h:x.bind f=some r):∃ a,x=some a∧f a=some r:=by
 cases x with
 |none=>cases h
 |some a=>exact⟨a,rfl,h⟩
theorem bif_inv {α:Type}{b:Bool}{x:Option α}{r:α}(h:(bif b then x else none)=some r):b=true∧x=some r:=by
 cases b
 ·cases h
 ·exact⟨rfl,h⟩
theorem bif_inv' {α:Type}{b:Bool}{x:Option α}{r:α}(h:(bif b then none else x)=some r):b=false∧x=some r:=by
 cases b
 ·exact⟨rfl,h⟩
 ·cases h
theorem ite_inv {α:Type}{c:Prop}[Decidable c]{x:Option α}{r:α}(h:(if c then x else none)=some r):c∧x=some r:=by
 split at h
 ·exact⟨by assumption,h⟩
 ·cases h
theorem ite_inv' {α:Type}{c:Prop}[Decidable c]{x:Option α}{r:α}(h:(if c then none else x)=some r):¬ c∧x=some r:=by
 split at h
 ·cases h
 ·exact⟨by assumption,h⟩
theorem sizeOf_run {P:Program}{e:TypeId}{w:World}{i:TypeInfo}(h:P.info? e=some i):(sizeOf e).run P w=.ok (szOf P e) w:=by
 simp[sizeOf,typeInfo,h,szOf]
theorem und_isSome {P:Program}{t:TypeId}{d:TypeDesc}(h:P.underlying t=some d):(P.info? t).isSome=true:=by
 unfold Program.underlying at h
 cases hi:P.info? t with
 |none=>rw[hi] at h;cases h
 |some i=>rfl
theorem size_run {P:Program}{e:TypeId}(h:(P.info? e).isSome=true)(w:World):(sizeOf e).run P w=.ok (szOf P e) w:=by
 obtain⟨i,hi⟩:=Option.isSome_iff_exists.1 h
 exact sizeOf_run hi
theorem isAgg_run {P:Program}{t:TypeId}(h:(P.info? t).isSome=true)(hu:∃ d,P.underlying t=some d)(w:World):(isAgg t).run P w=.ok (isAggT P t) w:=by
 obtain⟨d,hd⟩:=hu
 unfold isAgg isAggT
 simp only[Sem.run_bind,run_und hd,Result.andThen_ok,hd]
 cases d<;>rfl
theorem part_ok {P:Program}{M:Mem}{t:TypeId}{cells:List PV}{vs:List Value}{off:Nat}{v:PV}(ht:(P.info? t).isSome=true)(hu:∃ d,P.underlying t=some d)(h:ppart P t cells off some=some v)(hr:RelL M cells vs) :
  ∃ u,(∀ w,(part t vs.toArray off).run P w=.ok u w)∧RelD M v u:=by
 unfold ppart at h
 unfold part
 split at h
 ·rename_i hag
  obtain⟨hle,h⟩:=ite_inv h
  injection h with h
  subst h
  refine⟨.agg ((vs.take (off+szOf P t)).drop off).toArray,fun w=>?_,?_⟩
  ·simp only[Sem.run_bind,isAgg_run ht hu,Result.andThen_ok,if_pos hag,size_run ht,Sem.run_pure]
   congr 2
   simp[List.extract_toArray,List.drop_take]
  ·simp only[RelD]
   exact⟨_,rfl,(hr.take _).drop _⟩
 ·rename_i hag
  obtain⟨x,hx,h⟩:=bind_some_inv h
  injection h with h
  subst h
  obtain⟨u,h1,_,h3⟩:=hr.get hx
  refine⟨u,fun w=>?_,h3⟩
  simp only[Sem.run_bind,isAgg_run ht hu,Result.andThen_ok]
  rw[if_neg hag]
  have:vs.toArray[off]? = some u:=by simpa using h1
  rw[this]
  rfl
theorem eqFs_ok {P:Program}{M:Mem}{d:Nat}{g:TypeId→PV→PV→Option Bool}
  (hg:∀ (t:TypeId) (X Y:PV) (b:Bool) (u v:Value),g t X Y=some b→RelD M X u→RelD M Y v→∀ w,(Op.equalIn d t u v).run P w=.ok b w) {xs ys:List PV} {us vs:List Value} (hx:RelL M xs us) (hy:RelL M ys vs) :
  ∀ (fs:List Field) (b:Bool),eqFs P g xs ys fs=some b→∀ w,(Op.eqFields d us.toArray vs.toArray fs).run P w=.ok b w
 |[],b,h,w=>by
  simp only[eqFs,Option.some.injEq] at h
  subst h
  simp[Op.eqFields]
 |f::fs, b, h,w=>by
  simp only[eqFs] at h
  simp only[Op.eqFields]
  split at h
  ·rename_i hn
   rw[if_pos hn]
   split at h
   ·rename_i hi
    simp only[Bool.and_eq_true] at hi
    split at h
    ·rename_i x y h1 h2
     split at h
     ·rename_i b1 h3
      split at h
      ·rename_i r h4
       injection h with h
       subst h
       obtain⟨u,k1,k2⟩:=part_ok hi.1 (Option.isSome_iff_exists.1 hi.2) h1 hx
       obtain⟨v,k3,k4⟩:=part_ok hi.1 (Option.isSome_iff_exists.1 hi.2) h2 hy
       have k5:=hg _ _ _ _ _ _ h3 k2 k4
       simp only[Sem.run_bind,k1,k3,k5,Result.andThen_ok]
       cases b1
       ·simp
       ·simp only[Bool.not_true,Bool.false_eq_true,if_false,cond_true]
        exact eqFs_ok hg hx hy fs r h4 w
      ·cases h
     ·cases h
    ·cases h
   ·cases h
  ·rename_i hn
   rw[if_neg hn]
   exact eqFs_ok hg hx hy fs b h w
theorem eqP_ok {P:Program}{M:Mem}(e:Nat):∀ (d:Nat) (t:TypeId) (X Y:PV) (b:Bool) (u v:Value),eqP P d t X Y=some b→RelD M X u→RelD M Y v→∀ w,(Op.equalIn (e+d) t u v).run P w=.ok b w
 |0,_,_,_,_,_,_,h,_,_,_=>by cases h
 |d+1,t,X,Y,b,u,v,h,hx,hy,w=>by
  rw[← Nat.add_assoc]
  unfold eqP at h
  split at h
  ·rename_i k0 k a k' b' ht
   obtain⟨hk,g⟩:=ite_inv h
   injection g with g
   subst g
   subst hk
   simp only[RelD] at hx hy
   subst hx hy
   exact run_equalIn_int w (e+d) t k k0 a b' ht
  ·rename_i a b' ht
   injection h with h
   subst h
   simp only[RelD] at hx hy
   subst hx hy
   exact run_equalIn_bool w (e+d) t a b' ht
  ·rename_i a b' ht
   injection h with h
   subst h
   simp only[RelD] at hx hy
   subst hx hy
   rw[run_equalIn_string w (e+d) t _ _ ht]
   simp[ByteArray.toList_eq]
  ·rename_i fs xs ys ht
   split at h
   ·cases h
   ·rename_i hs
    simp only[RelD] at hx hy
    obtain⟨us,rfl,hx⟩:=hx
    obtain⟨vs,rfl,hy⟩:=hy
    have hf:P.fieldsOf t=fs:=by unfold Program.fieldsOf;rw[ht]
    rw[run_equalIn_struct w (e+d) t _ _ (by rw[hf];exact ht) (by simpa using hs),hf]
    exact eqFs_ok (fun t X Y b u v h1 h2 h3 w=>eqP_ok e d t X Y b u v h1 h2 h3 w) hx hy fs.toList b h w
  ·cases h
theorem eqGuard_agg {P:Program}{w:World}{op:BinOp}{t:TypeId}{x y:Operand}{xs ys:Array Value}(h:P.eqGuardType P.depth t=false):(eqGuard op t x y (.agg xs) (.agg ys)).run P w=.ok () w:=by
 unfold eqGuard
 cases op<;>simp[h]
end Go.Proofs.YtkpfigikffphdaaGreatDoor
namespace Go.Proofs.YtkpfigikffphdaaGreatDoor
open Go.RowKit
theorem binOp_eq_nil {P:Program}{w:World}{t:TypeId}{a c:Value}{b:Bool}(h:(Op.equal t a c).run P w=.ok b w)(h1:∀ k n,a≠.int k n)(h2:∀ s,a≠.string s)(h3:∀ k n,a≠.float k n)(h4:∀ k n m,a≠.complex k n m) :
  (binOp .eql t a c).run P w=.ok (.bool b) w∧(binOp .neq t a c).run P w=.ok (.bool (!b)) w:=by
 cases a<;>first
  |exact (h1 _ _ rfl).elim
  |exact (h2 _ rfl).elim
  |exact (h3 _ _ rfl).elim
  |exact (h4 _ _ _ rfl).elim
  |(constructor<;>simp[binOp,h])
theorem pbin_ok {P:Program}{w:World}{M:Mem}{β:Nat→Option Nat}{op:BinOp}{t:TypeId}{ox oy:Operand}{X Y v:PV}{a b:Value}(h:pbin P op t ox oy X Y some=some v)(hx:RelS M β X a)(hy:RelS M β Y b)(hc:∀ c,oy=.const c→b=c) :
  ∃ u,(do eqGuard op t ox oy a b;binOp op t a b:Sem Value).run P w=.ok u w∧RelS M β v u:=by
 unfold pbin at h
 split at h
 ·rename_i kx a' ky b'
  obtain rfl:=rel_int hx
  obtain rfl:=rel_int hy
  have hg:(eqGuard op t ox oy (.int kx a') (.int ky b')).run P w=.ok () w:=eqGuard_other (by simp) (by simp)
  split at h
  ·obtain⟨hb,h⟩:=bif_inv' h
   injection h with h
   subst h
   have hb':¬ b'<0:=by simpa using hb
   exact⟨_,by simp[hg,binOp,Op.shift,hb'],rfl⟩
  ·obtain⟨hb,h⟩:=bif_inv' h
   injection h with h
   subst h
   have hb':¬ b'<0:=by simpa using hb
   exact⟨_,by simp[hg,binOp,Op.shift,hb'],rfl⟩
  ·rename_i hs hr
   obtain⟨hk,h'⟩:=ite_inv h
   clear h
   subst hk
   obtain⟨u,h1,h2⟩:=pint_ok (P:=P) (w:=w) h' t hs hr
   exact⟨u,by simp[hg,h1],h2 M β⟩
 ·rename_i a' b'
  obtain rfl:=rel_str hx
  obtain rfl:=rel_str hy
  have hg:(eqGuard op t ox oy (.string ⟨a'.toArray⟩) (.string ⟨b'.toArray⟩)).run P w=.ok () w:=eqGuard_other (by simp) (by simp)
  obtain⟨u,h1,h2⟩:=pstr_ok (P:=P) (w:=w) h t
  exact⟨u,by simp[hg,h1],h2 M β⟩
 ·rename_i a' b'
  obtain rfl:=rel_bool hx
  obtain rfl:=rel_bool hy
  have hg:(eqGuard op t ox oy (.bool a') (.bool b')).run P w=.ok () w:=eqGuard_other (by simp) (by simp)
  obtain⟨ht,h⟩:=ite_inv h
  have ht:=isBoolT_spec ht
  obtain⟨d,hd⟩:=equal_in t
  have he:(Op.equal t (.bool a') (.bool b')).run P w=.ok (a'==b') w:=by rw[hd];simp[Op.equalIn,run_und ht]
  have:=binOp_eq_nil he (by simp) (by simp) (by simp) (by simp)
  split at h
  ·injection h with h;subst h;exact⟨_,by simp only[Sem.run_bind,hg,Result.andThen_ok];exact this.1,rfl⟩
  ·injection h with h;subst h;exact⟨_,by simp only[Sem.run_bind,hg,Result.andThen_ok];exact this.2,rfl⟩
  ·cases h
 ·rename_i xs ys
  split at h
  ·cases h
  ·rename_i hgd
   have hgd:P.eqGuardType P.depth t=false:=by simpa using hgd
   have hx':RelD M (.agg xs) a:=hx
   have hy':RelD M (.agg ys) b:=hy
   have key:∀ bb,eqP P 20 t (.agg xs) (.agg ys)=some bb→(eqGuard op t ox oy a b).run P w=.ok () w∧(binOp .eql t a b).run P w=.ok (.bool bb) w∧(binOp .neq t a b).run P w=.ok (.bool (!bb)) w:=by
    intro bb hbb
    have he:=eqP_ok 9980 20 t _ _ bb a b hbb hx' hy' w
    simp only[RelD] at hx' hy'
    obtain⟨us,rfl,_⟩:=hx'
    obtain⟨vs,rfl,_⟩:=hy'
    have:=binOp_eq_nil (P:=P) (w:=w) (t:=t) (a:=.agg us.toArray) (c:=.agg vs.toArray) (b:=bb) he (by simp) (by simp) (by simp) (by simp)
    exact⟨eqGuard_agg hgd,this.1,this.2⟩
   split at h
   ·obtain⟨bb,hbb,h⟩:=bind_some_inv h
    injection h with h;subst h
    obtain⟨k0,k1,k2⟩:=key bb hbb
    exact⟨_,by simp only[Sem.run_bind,k0,Result.andThen_ok];exact k1,rfl⟩
   ·obtain⟨bb,hbb,h⟩:=bind_some_inv h
    injection h with h;subst h
    obtain⟨k0,k1,k2⟩:=key bb hbb
    exact⟨_,by simp only[Sem.run_bind,k0,Result.andThen_ok];exact k2,rfl⟩
   ·cases h
 ·split at h
  ·rename_i c
   have hbc:=hc c rfl
   subst hbc
   have key:∀ bb,nilCmp P t X b=some bb→(eqGuard op t ox (.const b) a b).run P w=.ok () w∧(binOp .eql t a b).run P w=.ok (.bool bb) w∧(binOp .neq t a b).run P w=.ok (.bool (!bb)) w:=by
    intro bb hbb
    obtain⟨h1,h2,h3,h4,h5,h6,h7⟩:=nil_ok (w:=w) hbb hx
    obtain⟨k1,k2⟩:=binOp_eq_nil h1 h4 h5 h6 h7
    exact⟨eqGuard_other (fun _ _=>⟨b,rfl⟩) (fun xs _ e _=>h3 xs e),k1,k2⟩
   split at h
   ·obtain⟨bb,hbb,h⟩:=bind_some_inv h
    injection h with h;subst h
    obtain⟨k0,k1,k2⟩:=key bb hbb
    exact⟨_,by simp only[Sem.run_bind,k0,Result.andThen_ok];exact k1,rfl⟩
   ·obtain⟨bb,hbb,h⟩:=bind_some_inv h
    injection h with h;subst h
    obtain⟨k0,k1,k2⟩:=key bb hbb
    exact⟨_,by simp only[Sem.run_bind,k0,Result.andThen_ok];exact k2,rfl⟩
   ·cases h
  ·cases h
section
variable {en:Env} {NG:Nat} {W:World→Prop} {st:St} {o:Oper}
theorem sim_binOp {op:BinOp}{t:TypeId}{x y:Operand}{yt:TypeId}(ho:o.op=.binOp op t x y yt){act:PAct}(h:presolve en st o some=some act):Sim en NG W st o act:=by
 simp only[presolve,ho] at h
 rw[pbin_nat] at h
 obtain⟨v,hv,h⟩:=bind_some_inv h
 injection h with h
 subst h
 refine sim_same fun X a M β κ hI hG _=>?_
 obtain⟨u,h1,h2⟩:=pbin_ok (w:=M.w) hv (hI.ev hG t x).1 (hI.ev hG t y).1 (fun c hc=>by subst hc;rfl)
 refine⟨u,?_,h2,.inl rfl⟩
 simp only[execOp,ho]
 rw[Sem.run_bind,h1]
 rfl
theorem pun_ok {P:Program}{w:World}{M:Mem}{β:Nat→Option Nat}{op:UnOp}{X v:PV}{a:Value}(h:pun op X some=some v)(hx:RelS M β X a):∃ u,(Op.unary op a).run P w=.ok u w∧RelS M β v u:=by
 unfold pun at h
 split at h<;>simp only[Option.some.injEq,reduceCtorEq] at h<;>subst h
 ·obtain rfl:=rel_int hx
  exact⟨_,by simp[Op.unary,Op.intArith],rfl⟩
 ·obtain rfl:=rel_int hx
  exact⟨_,by simp[Op.unary,Op.intBits],rfl⟩
 ·obtain rfl:=rel_bool hx
  exact⟨_,by simp[Op.unary],rfl⟩
theorem sim_unOp {op:UnOp}{t:TypeId}{x:Operand}(ho:o.op=.unOp op t x){act:PAct}(h:presolve en st o some=some act):Sim en NG W st o act:=by
 simp only[presolve,ho] at h
 rw[pun_nat] at h
 obtain⟨v,hv,h⟩:=bind_some_inv h
 injection h with h
 subst h
 refine sim_same fun X a M β κ hI hG _=>?_
 obtain⟨u,h1,h2⟩:=pun_ok (P:=en.P) (w:=M.w) hv (hI.ev hG t x).1
 exact⟨u,by simp[execOp,ho,h1],h2,.inl rfl⟩
theorem pbound_ok {P:Program}{w:World}{X:PV}{m k:Nat}{a:Value}{M:Mem}{β:Nat→Option Nat}(h:pbound X m some=some k)(hx:RelS M β X a)(y:Nat)(hy:m≤y)(code:BoundsCode):(Instr.sliceBound a y code).run P w=.ok k w∧k≤m:=by
 unfold pbound at h
 split at h
 ·obtain rfl:=rel_int hx
  rename_i kk i
  obtain⟨hb,h⟩:=bif_inv h
  injection h with h
  simp at hb
  subst h
  refine⟨?_,by omega⟩
  have h1:0≤i∧i≤(y:Int):=by omega
  simp[Instr.sliceBound,asIntOf,h1]
 ·cases h
end
theorem sb_none {P:Program}{w:World}{lo' hi':Option Value}{b:Bool}{n c l h:Nat}(hhi:∀ v,hi'=some v→∀ code,(Instr.sliceBound v c code).run P w=.ok h w)(hhi0:hi'=none→h=n)
  (hlo:∀ v,lo'=some v→∀ code,(Instr.sliceBound v h code).run P w=.ok l w) (hlo0:lo'=none→l=0):(Instr.sliceBounds b n c lo' hi' none).run P w=.ok (l,h,c) w:=by
 cases lo' with
 |none =>
  cases hi' with
  |none=>simp[Instr.sliceBounds,hhi0 rfl,hlo0 rfl]
  |some v=>simp[Instr.sliceBounds,hhi v rfl,hlo0 rfl]
 |some u =>
  cases hi' with
  |none=>have:=hhi0 rfl;subst this;simp[Instr.sliceBounds,hlo u rfl]
  |some v=>simp[Instr.sliceBounds,hhi v rfl,hlo u rfl]
theorem sb_some {P:Program}{w:World}{lo':Option Value}{v x:Value}{b:Bool}{n c l h m:Nat}(hmx:∀ code,(Instr.sliceBound x c code).run P w=.ok m w)(hhi:∀ code,(Instr.sliceBound v m code).run P w=.ok h w)
  (hlo:∀ v,lo'=some v→∀ code,(Instr.sliceBound v h code).run P w=.ok l w) (hlo0:lo'=none→l=0):(Instr.sliceBounds b n c lo' (some v) (some x)).run P w=.ok (l,h,m) w:=by
 cases lo' with
 |none=>simp[Instr.sliceBounds,hmx,hhi,hlo0 rfl]
 |some u=>simp[Instr.sliceBounds,hmx,hhi,hlo u rfl]
section
variable {en:Env} {NG:Nat} {W:World→Prop} {st:St} {o:Oper}
theorem op_bound {X:Cx}{a:Act}{M:Mem}{β κ:Nat→Option Nat}(hI:Inv NG X st a M β κ)(hG:GOK en X.M0){y:Option Operand}{d m k c:Nat}(hmc:m≤c)
  (h:pboundO (y.map fun y=>(ev en st 0 y).1) d m some=some k):(∀ v,(y.map a.eval)=some v→∀ code,(Instr.sliceBound v c code).run en.P M.w=.ok k M.w)∧((y.map a.eval)=none→k=d)∧(k≤m∨k=d):=by
 cases y with
 |none =>
  simp only[Option.map_none,pboundO,Option.some.injEq] at h
  exact⟨by simp,fun _=>h.symm,.inr h.symm⟩
 |some y =>
  simp only[Option.map_some,pboundO] at h
  have:=fun code=>pbound_ok (P:=en.P) (w:=M.w) h (hI.ev hG 0 y).1 c hmc code
  refine⟨fun v hv code=>?_,by simp,.inl (this .index).2⟩
  simp only[Option.map_some,Option.some.injEq] at hv
  rw[← hv]
  exact (this code).1
theorem str_extract (s:List UInt8)(l h:Nat):(⟨s.toArray⟩:ByteArray).extract l h=⟨((s.take h).drop l).toArray⟩:=by
 rw[ByteArray.extract_mk,List.drop_take]
theorem addr_add (b o k:Nat):(⟨b,o,none⟩:Addr).add k=⟨b,o+k,none⟩:=by
 unfold Addr.add
 split
 ·rename_i h;subst h;rfl
 ·rfl
theorem rel_piece {M:Mem}{nl:Option Bool}{sz n:Nat}{cells:List PV}{A:Option Addr}{c l h m:Nat}(hr:RelD M (.sl nl sz n cells) (.slice A n c))(hlh:l≤h)(hhn:h≤n)(hhm:h≤m)(hmc:m≤c) :
  RelD M (.sl nl sz (h-l) ((cells.take (h * sz)).drop (l * sz))) (.slice (if m=l then A else A.map (·.add (l * sz))) (h-l) (m-l)):=by
 simp only[RelD] at hr ⊢
 obtain⟨A',c',vs,he,h1,h2,h3,h4,h5,h6,h7⟩:=hr
 injection he with e1 e2 e3
 subst e1;subst e3
 have hle:h * sz≤cells.length:=by rw[h5];exact Nat.mul_le_mul_right _ hhn
 have hll:l * sz≤h * sz:=Nat.mul_le_mul_right _ hlh
 refine⟨_,_,(vs.take (h * sz)).drop (l * sz),rfl,by omega,by omega,?_,?_,?_,(h6.take _).drop _,?_⟩
 ·intro b hb
  rw[← h3 b hb]
  split
  ·rfl
  ·cases A<;>rfl
 ·intro hn
  split at hn
  ·omega
  ·have:A=none:=by cases A<;>simp_all
   have:=h4 this
   omega
 ·rw[List.length_drop,List.length_take,Nat.min_eq_left hle,← Nat.sub_mul]
 ·rcases h7 with h7|⟨b,o,e,h7⟩
  ·exact .inl (by rw[h7];simp)
  ·by_cases hml:m=l
   ·left
    have hl:h=l:=by omega
    rw[hl]
    simp
   ·right
    refine⟨b,o+l * sz,?_,(h7.take _).drop _⟩
    rw[if_neg hml,e]
    simp only[Option.map_some,addr_add]
theorem sim_slice {t:TypeId}{x:Operand}{lo hi mx:Option Operand}(ho:o.op=.slice t x lo hi mx)(hinf:∀ e,en.P.underlying t=some (.slice e)→(en.P.info? e).isSome=true){act:PAct}(h:presolve en st o some=some act):Sim en NG W st o act:=by
 simp only[presolve,ho] at h
 rw[pslice_nat] at h
 obtain⟨v,hv,h⟩:=bind_some_inv h
 injection h with h
 subst h
 refine sim_same fun X a M β κ hI hG _=>?_
 have hx:=(hI.ev hG t x).1
 unfold pslice at hv
 split at hv
 ·rename_i s ht hs
  rw[hs] at hx
  have hx:=rel_str hx
  cases mx with
  |some m=>simp at hv
  |none =>
   simp only[Option.map_none] at hv
   rw[pboundO_nat] at hv
   obtain⟨hh,k1,hv⟩:=bind_some_inv hv
   rw[pboundO_nat] at hv
   obtain⟨ll,k2,hv⟩:=bind_some_inv hv
   injection hv with hv
   subst hv
   obtain⟨a1,a2,a3⟩:=op_bound hI hG (Nat.le_refl _) k1
   obtain⟨b1,b2,_⟩:=op_bound hI hG (Nat.le_refl _) k2
   have hb:=sb_none (b:=false) (n:=s.length) a1 a2 b1 b2
   refine⟨.string ((⟨s.toArray⟩:ByteArray).extract ll hh),?_,?_,.inl rfl⟩
   ·have e:(⟨s.toArray⟩:ByteArray).size=s.length:=by simp[ByteArray.size]
    simp[execOp,ho,hx,Instr.sliceAt,Instr.slice,run_und ht,e,hb]
   ·show RelD M (.str _) _
    simp only[RelD,str_extract]
 ·rename_i e nl sz n cells ht hs
  rw[hs] at hx
  obtain⟨A,c,hAc⟩:∃ A c,a.eval x=.slice A n c:=by
   have hx':RelD M (.sl nl sz n cells) (a.eval x):=hx
   simp only[RelD] at hx'
   obtain⟨A,c,_,e,_⟩:=hx'
   exact⟨A,c,e⟩
  have hx':RelD M (.sl nl sz n cells) (.slice A n c):=by rw[← hAc];exact hx
  have hnc:n≤c:=by
   simp only[RelD] at hx'
   obtain⟨A',c',vs,he,h1,_⟩:=hx'
   injection he with _ _ e3
   omega
  obtain⟨hsz,hv⟩:=ite_inv hv
  obtain⟨i,hi'⟩:=Option.isSome_iff_exists.1 (hinf e ht)
  have hsize:=fun w=>(sizeOf_run (w:=w) hi').trans (by rw[hsz])
  cases mx with
  |none =>
   simp only[Option.map_none] at hv
   rw[pboundO_nat] at hv
   obtain⟨hh,k1,hv⟩:=bind_some_inv hv
   rw[pboundO_nat] at hv
   obtain⟨ll,k2,hv⟩:=bind_some_inv hv
   injection hv with hv
   subst hv
   obtain⟨a1,a2,a3⟩:=op_bound hI hG hnc k1
   obtain⟨b1,b2,b3⟩:=op_bound hI hG (Nat.le_refl _) k2
   have hb:=sb_none (b:=true) (n:=n) a1 a2 b1 b2
   have hhn:hh≤n:=by omega
   refine⟨.slice (if c=ll then A else A.map (·.add (ll * sz))) (hh-ll) (c-ll),?_,RelS.of_data (rel_piece hx' (by omega) hhn (by omega) (Nat.le_refl _)),.inl rfl⟩
   simp[execOp,ho,hAc,Instr.sliceAt,Instr.slice,run_und ht,hb,hsize]
  |some m =>
   simp only[Option.map_some] at hv
   rw[pbound_nat] at hv
   obtain⟨mm,k0,hv⟩:=bind_some_inv hv
   rw[pboundO_nat] at hv
   obtain⟨hh,k1,hv⟩:=bind_some_inv hv
   rw[pboundO_nat] at hv
   obtain⟨ll,k2,hv⟩:=bind_some_inv hv
   injection hv with hv
   subst hv
   have c1:=fun code=>pbound_ok (P:=en.P) (w:=M.w) k0 (hI.ev hG 0 m).1 c hnc code
   cases hi with
   |none=>simp[pboundO,pbound] at k1
   |some hi =>
    obtain⟨a1,a2,a3⟩:=op_bound (y:=some hi) hI hG (Nat.le_refl _) k1
    obtain⟨b1,b2,b3⟩:=op_bound hI hG (Nat.le_refl _) k2
    have hmn:=(c1 .index).2
    have hb:=sb_some (b:=true) (n:=n) (fun cd=>(c1 cd).1) (a1 (a.eval hi) rfl) b1 b2
    have hhm:hh≤mm:=by omega
    refine⟨.slice (if mm=ll then A else A.map (·.add (ll * sz))) (hh-ll) (mm-ll),?_,RelS.of_data (rel_piece hx' (by omega) (by omega) hhm (by omega)),?_⟩
    ·simp[execOp,ho,hAc,Instr.sliceAt,Instr.slice,run_und ht,hb,hsize]
    ·by_cases e:hh=mm
     ·subst e
      exact .inr ⟨_,_,_,_,rfl,.inl ⟨(if hh=ll then A else A.map (·.add (ll * sz))),hh-ll,rfl⟩⟩
     ·left;simp[e]
 ·rename_i e id off sz n ht hs
  rw[hs] at hx
  simp only[RelS] at hx
  obtain⟨b,c,hβ,hAc,hnc,hcm,hsize0⟩:=hx
  obtain⟨hsz,hv⟩:=ite_inv hv
  obtain⟨i,hi'⟩:=Option.isSome_iff_exists.1 (hinf e ht)
  have hsize:=fun w=>(sizeOf_run (w:=w) hi').trans (by rw[hsz])
  cases mx with
  |some m=>simp at hv
  |none =>
   simp only[Option.map_none] at hv
   rw[pboundO_nat] at hv
   obtain⟨hh,k1,hv⟩:=bind_some_inv hv
   rw[pboundO_nat] at hv
   obtain⟨ll,k2,hv⟩:=bind_some_inv hv
   obtain⟨hl,hv⟩:=bif_inv hv
   injection hv with hv
   subst hv
   simp only[Bool.or_eq_true,decide_eq_true_eq] at hl
   obtain⟨a1,a2,a3⟩:=op_bound hI hG hnc k1
   obtain⟨b1,b2,b3⟩:=op_bound hI hG (Nat.le_refl _) k2
   have hb:=sb_none (b:=true) (n:=n) a1 a2 b1 b2
   have hhn:hh≤n:=by omega
   refine⟨.slice (if c=ll then some ⟨b,off,none⟩ else (some (⟨b,off,none⟩:Addr)).map (·.add (ll * sz))) (hh-ll) (c-ll),?_,?_,.inl rfl⟩
   ·simp[execOp,ho,hAc,Instr.sliceAt,Instr.slice,run_und ht,hb,hsize]
   ·have e1:(if c=ll then some (⟨b,off,none⟩:Addr) else (some (⟨b,off,none⟩:Addr)).map (·.add (ll * sz)))=some ⟨b,off+ll * sz,none⟩:=by
     split
     ·have:ll=0:=by omega
      rw[this];simp
     ·simp[addr_add]
    rw[e1]
    simp only[RelS]
    have hle:ll≤c:=by omega
    have e2:off+ll * sz+(c-ll) * sz=off+c * sz:=by rw[Nat.add_assoc,← Nat.add_mul];congr 2;omega
    exact⟨b,c-ll,hβ,rfl,by omega,by omega,by rw[e2];exact hsize0⟩
 ·cases hv
end
end Go.Proofs.YtkpfigikffphdaaGreatDoor
namespace Go.Proofs.YtkpfigikffphdaaGreatDoor
open Go.RowKit
structure TypesOK (P:Program)(t:TypeId):Prop where
 ok:typeOK P t=true
theorem TypesOK.sl {P:Program}{t:TypeId}(h:TypesOK P t)(e:TypeId)(he:P.underlying t=some (.slice e)):(P.info? e).isSome=true:=by
 have:=h.ok
 simp only[typeOK,he] at this
 obtain⟨d,hd⟩:=Option.isSome_iff_exists.1 this
 exact und_isSome hd
theorem TypesOK.ar {P:Program}{t:TypeId}(h:TypesOK P t)(n:Nat)(e:TypeId)(he:P.underlying t=some (.array n e)):(P.info? e).isSome=true:=by
 have:=h.ok
 simp only[typeOK,he] at this
 obtain⟨d,hd⟩:=Option.isSome_iff_exists.1 this
 exact und_isSome hd
theorem TypesOK.ar_un {P:Program}{t:TypeId}(h:TypesOK P t)(n:Nat)(e:TypeId)(he:P.underlying t=some (.array n e)):∃ d,P.underlying e=some d:=by
 have:=h.ok
 simp only[typeOK,he] at this
 exact Option.isSome_iff_exists.1 this
theorem TypesOK.st_un {P:Program}{t:TypeId}(h:TypesOK P t)(fs:Array Field)(he:P.underlying t=some (.struct fs))(f:Field)(hf:f∈fs):∃ d,P.underlying f.type=some d:=by
 have:=h.ok
 simp only[typeOK,he] at this
 rw[Array.all_eq_true_iff_forall_mem] at this
 exact Option.isSome_iff_exists.1 (this f hf)
theorem TypesOK.st {P:Program}{t:TypeId}(h:TypesOK P t)(fs:Array Field)(he:P.underlying t=some (.struct fs))(f:Field)(hf:f∈fs):(P.info? f.type).isSome=true:=by
 obtain⟨d,hd⟩:=h.st_un fs he f hf
 exact und_isSome hd
theorem TypesOK.un {P:Program}{t:TypeId}(h:TypesOK P t):∃ d,P.underlying t=some d:=by
 have:=h.ok
 unfold typeOK at this
 cases hd:P.underlying t with
 |none=>rw[hd] at this;cases this
 |some d=>exact⟨d,rfl⟩
section
variable {en:Env} {NG:Nat} {W:World→Prop} {st:St} {o:Oper}
theorem pbytes_ok {M:Mem}:∀ {cells:List PV} {vs:List Value} {l:List UInt8},pbytes cells=some l→RelL M cells vs→∃ ns:List Int,vs=ns.map (Value.int .u8)∧l=ns.map fun n=>UInt8.ofNat n.toNat
 |[],vs,l,h,hr=>by
  simp only[pbytes,Option.some.injEq] at h
  simp only[RelL] at hr
  subst h;subst hr
  exact⟨[],rfl,rfl⟩
 |x::xs,vs,l,h,hr=>by
  simp only[pbytes] at h
  obtain⟨n,h1,h⟩:=bind_some_inv h
  obtain⟨l',h2,h⟩:=bind_some_inv h
  injection h with h
  subst h
  simp only[RelL] at hr
  obtain⟨u,us,rfl,_,h3,h4⟩:=hr
  obtain⟨ns,rfl,rfl⟩:=pbytes_ok h2 h4
  cases x<;>simp only[PV.asInt,reduceCtorEq] at h1
  obtain⟨rfl,h1⟩:=ite_inv h1
  injection h1 with h1
  subst h1
  exact⟨_::ns,by rw[show u=.int .u8 _ from h3];rfl,rfl⟩
theorem run_bytes_string {P:Program}{M:Mem}{nl:Option Bool}{n:Nat}{cells:List PV}{l:List UInt8}{A:Option Addr}{c:Nat}(h:pbytes cells=some l)(hr:RelD M (.sl nl 1 n cells) (.slice A n c)) :
  (Conv.bytesToString (.slice A n c)).run P M.w=.ok (.string ⟨l.toArray⟩) M.w:=by
 simp only[RelD] at hr
 obtain⟨A',c',vs,he,h1,h2,h3,h4,h5,h6,h7⟩:=hr
 injection he with e1 e2 e3
 subst e1;subst e3
 obtain⟨ns,rfl,rfl⟩:=pbytes_ok h h6
 have hlen:ns.length=n:=by have:=h6.length;simp at this;omega
 cases A with
 |none =>
  have:c=0:=h4 rfl
  have:n=0:=by omega
  subst this
  have:ns=[]:=List.eq_nil_of_length_eq_zero hlen
  subst this
  rfl
 |some ad =>
  have hl:(loadCells ad n).run P M.w=.ok (ns.map (Value.int .u8)).toArray M.w:=by
   rcases h7 with h7|⟨b,o,e,h7⟩
   ·have:ns=[]:=by simpa using h7
    subst this
    simp at hlen
    subst hlen
    rfl
   ·injection e with e
    subst e
    have:=run_loadCells_list (P:=P) M.w ⟨b,o,none⟩ (ns.map (Value.int .u8)) (fun j v hj=>by rw[addr_add];exact (h7 j v hj).1)
    simpa [hlen] using this
  rw[run_bytesToString M.w ad n c ns hl,foldl_push_bytes]
  congr 2
  apply ByteArray.ext
  simp
theorem bvs_rel (M:Mem):∀ s:List UInt8,RelL M (s.map bytePV) (s.map fun b=>.int .u8 b.toNat)
 |[]=>rfl
 |b::s=>⟨_,_,rfl,rfl,rfl,bvs_rel M s⟩
def Mem.lay (M:Mem)(w':World)(g n:Nat):Mem:=⟨w',fun b=>if b=g then n else M.U b,M.y⟩
theorem Move.lay {M:Mem}{w':World}(hb:Below M.w.heap.size M.w w'){g:Nat}(hg:M.w.heap.size≤g)(n:Nat):Move M (M.lay w' g n) none :=
 Move.mk0 hb fun b hlt=>by simp only[Mem.lay];rw[if_neg (by omega)]
theorem below_alloc {M:Mem}{w1:World}(hb:Below M.w.heap.size M.w w1)(x:Obj):Below M.w.heap.size M.w (w1.alloc x):=hb.alloc hb.size x
theorem cells_new {M:Mem}{w1:World}{arr:Array Value}{e:TypeId}{fr:Nat×Nat}{vs:List Value}(harr:∀ (j:Nat) (u:Value),vs[j]? = some u→arr[j]? = some u):CellsAt (M.lay (w1.alloc (.cells arr e fr)) w1.heap.size vs.length) w1.heap.size 0 vs:=by
 intro j u hu
 have hlt:j<vs.length:=(List.getElem?_eq_some_iff.1 hu).1
 refine⟨?_,by simp[Mem.lay];exact hlt⟩
 show (w1.alloc _).cell? _=_
 rw[cell_of_row _ _ _ arr e fr (heap_alloc_new w1 _),Nat.zero_add]
 exact harr j u hu
theorem rel_new {M:Mem}{w1:World}(hb:Below M.w.heap.size M.w w1){arr:Array Value}{e:TypeId}{fr:Nat×Nat}{sz n cap:Nat}{cells:List PV}{vs:List Value}(hr:RelL M cells vs)(hlen:cells.length=n * sz)(hnc:n≤cap)(hcm:cap≤maxLen)
  (harr:∀ (j:Nat) (u:Value),vs[j]? = some u→arr[j]? = some u):RelD (M.lay (w1.alloc (.cells arr e fr)) w1.heap.size vs.length) (.sl (some false) sz n cells) (.slice (some ⟨w1.heap.size,0,none⟩) n cap):=by
 have hm:M.le (M.lay (w1.alloc (.cells arr e fr)) w1.heap.size vs.length):=(Move.lay (below_alloc hb _) hb.size _).le
 simp only[RelD]
 exact⟨_,_,vs,rfl,hnc,hcm,by simp,by simp,hlen,hr.mono' hm,.inr ⟨_,0,rfl,cells_new harr⟩⟩
theorem run_string_bytes {P:Program}{M:Mem}{s d e:TypeId}(l:List UInt8)(hs:P.underlying s=some .string)(hd:P.underlying d=some (.slice e))(he:P.underlying e=some (.int .u8))(hl:l.length≤maxLen) :
  ∃ v M',(convert s d (.string ⟨l.toArray⟩)).run P M.w=.ok v M'.w∧Move M M' none∧RelD M' (.sl (some false) 1 l.length (l.map bytePV)) v:=by
 have hr:=run_bytes_of_string (P:=P) M.w s d e ⟨l.toArray⟩ hs hd he
 have hz:(⟨l.toArray⟩:ByteArray).size=l.length:=by simp[ByteArray.size]
 rw[hz] at hr
 have hb:Below M.w.heap.size M.w M.w.drew:=(Below.refl _ _).drew
 exact⟨_,M.lay _ M.w.drew.heap.size (l.map fun b=>Value.int .u8 b.toNat).length,hr,Move.lay (below_alloc hb _) (Nat.le_refl _) _,
  rel_new hb (bvs_rel M l) (by simp) (grownCap_ge _ _ _ _) (grownCap_le_maxLen _ _ _ _ hl) (fun j u hu=>by
   have hlt:j<l.length:=by have:=(List.getElem?_eq_some_iff.1 hu).1;simpa using this
   simp only[bytesRow]
   rw[Array.getElem?_append_left (by simpa using hlt)]
   simpa using hu)⟩
theorem sim_convert {s d:TypeId}{x:Operand}(ho:o.op=.convert s d x){act:PAct}(h:presolve en st o some=some act):Sim en NG W st o act:=by
 simp only[presolve,ho] at h
 rw[pconv_nat] at h
 obtain⟨v,hv,h⟩:=bind_some_inv h
 injection h with h
 subst h
 unfold pconv at hv
 split at hv
 ·rename_i k0 k k' n h1 h2 hx
  injection hv with hv
  subst hv
  refine sim_same fun X a M β κ hI hG _=>?_
  have hx':=(hI.ev hG s x).1
  rw[hx] at hx'
  have hx':=rel_int hx'
  exact⟨.int k (k.wrap n),by simp[execOp,ho,hx',convert,run_und h1,run_und h2,Conv.intToInt],rfl,.inl rfl⟩
 ·rename_i s' h1 h2 hx
  injection hv with hv
  subst hv
  refine sim_same fun X a M β κ hI hG _=>?_
  have hx':=(hI.ev hG s x).1
  rw[hx] at hx'
  have hx'':=rel_str hx'
  exact⟨_,by simp[execOp,ho,hx'',convert,run_und h1,run_und h2],rfl,.inl rfl⟩
 ·rename_i e s' h1 h2 hx
  split at hv
  ·rename_i he
   obtain⟨hsz,hv⟩:=ite_inv hv
   obtain⟨hl,hv⟩:=bif_inv hv
   injection hv with hv
   subst hv
   refine sim_val fun X a M β κ hI hG _=>?_
   have hx':=(hI.ev hG s x).1
   rw[hx] at hx'
   have hx'':=rel_str hx'
   obtain⟨v,M',k1,k2,k3⟩:=run_string_bytes (P:=en.P) (M:=M) s' h1 h2 he (by have:=of_decide_eq_true hl;exact this)
   exact⟨v,M',by simp[execOp,ho,hx'',k1],k2,RelS.of_data k3,.inl rfl⟩
  ·cases hv
 ·rename_i e nl sz n cells h1 h2 hx
  split at hv
  ·rename_i he
   obtain⟨hsz,hv⟩:=ite_inv hv
   subst hsz
   obtain⟨l,hl,hv⟩:=bind_some_inv hv
   injection hv with hv
   subst hv
   refine sim_same fun X a M β κ hI hG _=>?_
   have hx':=(hI.ev hG s x).1
   rw[hx] at hx'
   have hx2:RelD M (.sl nl 1 n cells) (a.eval x):=hx'
   have hx3:=hx2
   simp only[RelD] at hx3
   obtain⟨A,c,_,hAc,_⟩:=hx3
   rw[hAc] at hx2
   have:=run_bytes_string (P:=en.P) hl hx2
   exact⟨_,by simp[execOp,ho,hAc,convert,run_und h1,run_und h2,run_und he,this],rfl,.inl rfl⟩
  ·cases hv
 ·cases hv
end
end Go.Proofs.YtkpfigikffphdaaGreatDoor
namespace Go.Proofs.YtkpfigikffphdaaGreatDoor
open Go.RowKit
section
variable {en:Env} {NG:Nat} {W:World→Prop} {st:St} {o:Oper}
theorem rel_agg {M:Mem}{β:Nat→Option Nat}{cs:List PV}{v:Value}(h:RelS M β (.agg cs) v):∃ vs,v=.agg vs.toArray∧RelL M cs vs:=by
 have h:RelD M (.agg cs) v:=h
 simpa only[RelD] using h
theorem rel_agp {M:Mem}{β:Nat→Option Nat}{cs:List PV}{v:Value}(h:RelS M β (.agp cs) v):∃ vs,v=.agg vs.toArray∧(∀ u∈vs,u.oneCell'=true)∧RelCs M β cs vs:=by
 simpa only[RelS] using h
theorem RelCs.drop {M:Mem}{β:Nat→Option Nat}:∀ {xs:List PV} {vs:List Value} (k:Nat),RelCs M β xs vs→RelCs M β (xs.drop k) (vs.drop k)
 |xs,vs,0,h=>h
 |[],vs,k+1,h=>by simp only[RelCs] at h;subst h;simp only[List.drop_nil,RelCs]
 |x::xs,vs,k+1,h=>by
  simp only[RelCs] at h
  obtain⟨u,us,rfl,_,h⟩:=h
  exact h.drop k
theorem RelCs.take {M:Mem}{β:Nat→Option Nat}:∀ {xs:List PV} {vs:List Value} (k:Nat),RelCs M β xs vs→RelCs M β (xs.take k) (vs.take k)
 |xs,vs,0,h=>by simp only[List.take_zero,RelCs]
 |[],vs,k+1,h=>by simp only[RelCs] at h;subst h;simp only[List.take_nil,RelCs]
 |x::xs,vs,k+1,h=>by
  simp only[RelCs] at h
  obtain⟨u,us,rfl,h1,h⟩:=h
  simp only[List.take_succ_cons,RelCs]
  exact⟨u,us.take k,rfl,h1,h.take k⟩
theorem relCs_L {M:Mem}{β:Nat→Option Nat}:∀ {xs:List PV} {vs:List Value},RelCs M β xs vs→xs.all PV.data=true→(∀ u∈vs,u.oneCell'=true)→RelL M xs vs
 |[],vs,h,_,_=>by simp only[RelCs] at h;subst h;simp only[RelL]
 |x::xs,vs,h,hd,h1=>by
  simp only[RelCs] at h
  obtain⟨u,us,rfl,h2,h⟩:=h
  simp only[List.all_cons,Bool.and_eq_true] at hd
  simp only[RelL]
  exact⟨u,us,rfl,h1 u (by simp),h2.data hd.1,relCs_L h hd.2 fun w hw=>h1 w (by simp[hw])⟩
theorem aggP_ok {M:Mem}{β:Nat→Option Nat}{cs:List PV}{vs:List Value}(h0:∀ u∈vs,u.oneCell'=true)(h:RelCs M β cs vs):RelS M β (aggP cs) (.agg vs.toArray):=by
 unfold aggP
 split
 ·rename_i hd
  refine RelS.of_data ?_
  simp only[RelD]
  exact⟨vs,rfl,relCs_L h hd h0⟩
 ·simp only[RelS]
  exact⟨vs,rfl,h0,h⟩
theorem partP_ok {P:Program}{M:Mem}{β:Nat→Option Nat}{t:TypeId}{cells:List PV}{vs:List Value}{off:Nat}{v:PV}(ht:(P.info? t).isSome=true)(hu:∃ d,P.underlying t=some d)(h:ppartP P t cells off some=some v)(h0:∀ u∈vs,u.oneCell'=true)(hr:RelCs M β cells vs) :
  ∃ u,(∀ w,(part t vs.toArray off).run P w=.ok u w)∧RelS M β v u:=by
 unfold ppartP at h
 unfold part
 split at h
 ·rename_i hag
  obtain⟨hle,h⟩:=ite_inv h
  injection h with h
  subst h
  refine⟨.agg ((vs.take (off+szOf P t)).drop off).toArray,fun w=>?_,?_⟩
  ·simp only[Sem.run_bind,isAgg_run ht hu,Result.andThen_ok,if_pos hag,size_run ht,Sem.run_pure]
   congr 2
   simp[List.extract_toArray,List.drop_take]
  ·exact aggP_ok (fun u hu=>h0 u (List.mem_of_mem_take (List.mem_of_mem_drop hu))) ((hr.take _).drop _)
 ·rename_i hag
  obtain⟨x,hx,h⟩:=bind_some_inv h
  injection h with h
  subst h
  obtain⟨u,h1,h3⟩:=hr.get hx
  refine⟨u,fun w=>?_,h3⟩
  simp only[Sem.run_bind,isAgg_run ht hu,Result.andThen_ok]
  rw[if_neg hag]
  have:vs.toArray[off]? = some u:=by simpa using h1
  rw[this]
  rfl
theorem fieldsOf_spec {P:Program}{t:TypeId}{f:Nat}{fd:Field}(h:(fieldsOf P t).bind (·[f]?)=some fd):∃ fs,P.underlying t=some (.struct fs)∧fs[f]? = some fd:=by
 unfold fieldsOf at h
 split at h
 ·rename_i fs hfs
  exact⟨fs,hfs,by simpa using h⟩
 ·simp at h
theorem sim_field {t:TypeId}(hT:TypesOK en.P t){x:Operand}{f:Nat}(ho:o.op=.field t x f){act:PAct}(h:presolve en st o some=some act):Sim en NG W st o act:=by
 simp only[presolve,ho] at h
 split at h
 ·rename_i fd cs hf hx
  rw[ppart_nat] at h
  obtain⟨v,hv,h⟩:=bind_some_inv h
  injection h with h
  subst h
  refine sim_same fun X a M β κ hI hG _=>?_
  obtain⟨fs,hfs,hfd⟩:=fieldsOf_spec hf
  have hi:=hT.st fs hfs fd (Array.mem_of_getElem? hfd)
  have hx':=(hI.ev hG t x).1
  rw[hx] at hx'
  obtain⟨vs,he,hr⟩:=rel_agg hx'
  obtain⟨u,h1,h2⟩:=part_ok hi (hT.st_un fs hfs fd (Array.mem_of_getElem? hfd)) hv hr
  exact⟨u,by simp[execOp,ho,Instr.field,run_und hfs,hfd,he,asAgg,h1],RelS.of_data h2,.inl rfl⟩
 ·rename_i fd cs hf hx
  rw[ppartP_nat] at h
  obtain⟨v,hv,h⟩:=bind_some_inv h
  injection h with h
  subst h
  refine sim_same fun X a M β κ hI hG _=>?_
  obtain⟨fs,hfs,hfd⟩:=fieldsOf_spec hf
  have hi:=hT.st fs hfs fd (Array.mem_of_getElem? hfd)
  have hx':=(hI.ev hG t x).1
  rw[hx] at hx'
  obtain⟨vs,he,h0,hr⟩:=rel_agp hx'
  obtain⟨u,h1,h2⟩:=partP_ok hi (hT.st_un fs hfs fd (Array.mem_of_getElem? hfd)) hv h0 hr
  exact⟨u,by simp[execOp,ho,Instr.field,run_und hfs,hfd,he,asAgg,h1],h2,.inl rfl⟩
 ·cases h
theorem index_in {i:Int}{n:Nat}(h:(decide (0≤i)&&decide (i<(n:Int)))=true):0≤i∧i<(n:Int):=by simpa using h
theorem sim_index {t:TypeId}(hT:TypesOK en.P t){x y:Operand}(ho:o.op=.index t x y){act:PAct}(h:presolve en st o some=some act):Sim en NG W st o act:=by
 simp only[presolve,ho] at h
 split at h
 ·rename_i s k i ht hx hy
  obtain⟨hb,h⟩:=bif_inv h
  obtain⟨c,hc,h⟩:=bind_some_inv h
  injection h with h
  subst h
  have hb:=index_in hb
  refine sim_same fun X a M β κ hI hG _=>?_
  have hx':=(hI.ev hG t x).1
  have hy':=(hI.ev hG 0 y).1
  rw[hx] at hx'
  rw[hy] at hy'
  have hx':=rel_str hx'
  have hy':=rel_int hy'
  have hg:(⟨s.toArray⟩:ByteArray)[i.toNat]? = some c:=by
   have hlt:i.toNat<s.length:=(List.getElem?_eq_some_iff.1 hc).1
   rw[getElem?_pos (⟨s.toArray⟩:ByteArray) i.toNat (show i.toNat<(⟨s.toArray⟩:ByteArray).size by simpa [ByteArray.size] using hlt)]
   rw[List.getElem?_eq_getElem hlt] at hc
   injection hc with hc
   rw[← hc]
   rfl
  exact⟨_,by simp[execOp,ho,hx',hy',Instr.index,asIntOf,run_und ht,hb.1,hg],rfl,.inl rfl⟩
 ·rename_i n e cs k i ht hx hy
  obtain⟨hb,h⟩:=bif_inv h
  rw[ppart_nat] at h
  obtain⟨v,hv,h⟩:=bind_some_inv h
  injection h with h
  subst h
  have hb:=index_in hb
  refine sim_same fun X a M β κ hI hG _=>?_
  have hx':=(hI.ev hG t x).1
  have hy':=(hI.ev hG 0 y).1
  rw[hx] at hx'
  rw[hy] at hy'
  obtain⟨vs,he,hr⟩:=rel_agg hx'
  have hy':=rel_int hy'
  have hi:=hT.ar n e ht
  obtain⟨u,h1,h2⟩:=part_ok hi (hT.ar_un n e ht) hv hr
  exact⟨u,by simp[execOp,ho,he,hy',Instr.index,asIntOf,run_und ht,hb,size_run hi,h1],RelS.of_data h2,.inl rfl⟩
 ·cases h
theorem rel_eptr {M:Mem}{β:Nat→Option Nat}{cs:List PV}{v:Value}(h:RelS M β (.eptr cs) v):∃ b o vs,v=.pointer (some ⟨b,o,none⟩)∧RelL M cs vs∧CellsAt M b o vs:=(show RelD M (.eptr cs) v from h)
theorem rel_ptr {M:Mem}{β:Nat→Option Nat}{id off:Nat}{v:Value}(h:RelS M β (.ptr id off) v):∃ b,β id=some b∧v=.pointer (some ⟨b,off,none⟩):=h
theorem rel_optr {M:Mem}{β:Nat→Option Nat}{d i off:Nat}{v:Value}(h:RelS M β (.optr d i off) v):∃ b,M.y.γ d i=some b∧v=.pointer (some ⟨b,off,none⟩):=h
theorem sim_fieldAddr {t:TypeId}(hT:TypesOK en.P t){x:Operand}{f:Nat}(ho:o.op=.fieldAddr t x f){act:PAct}(h:presolve en st o some=some act):Sim en NG W st o act:=by
 simp only[presolve,ho] at h
 split at h
 ·rename_i fd id off hf hx
  obtain⟨hz,h⟩:=ite_inv' h
  injection h with h
  subst h
  refine sim_same fun X a M β κ hI hG _=>?_
  obtain⟨fs,hfs,hfd⟩:=fieldsOf_spec hf
  have hi:=hT.st fs hfs fd (Array.mem_of_getElem? hfd)
  have hx':=(hI.ev hG t x).1
  rw[hx] at hx'
  obtain⟨b,hb,he⟩:=rel_ptr hx'
  exact⟨_,by simp[execOp,ho,Instr.fieldAt,run_und hfs,hfd,he,Instr.sureAddr,fieldPlace,size_run hi,hz,addr_add],⟨b,hb,rfl⟩,.inl rfl⟩
 ·rename_i fd cs hf hx
  obtain⟨hz,h⟩:=ite_inv' h
  injection h with h
  subst h
  refine sim_same fun X a M β κ hI hG _=>?_
  obtain⟨fs,hfs,hfd⟩:=fieldsOf_spec hf
  have hi:=hT.st fs hfs fd (Array.mem_of_getElem? hfd)
  have hx':=(hI.ev hG t x).1
  rw[hx] at hx'
  obtain⟨b,off,vs,he,hr,hc⟩:=rel_eptr hx'
  exact⟨_,by simp[execOp,ho,Instr.fieldAt,run_und hfs,hfd,he,Instr.sureAddr,fieldPlace,size_run hi,hz,addr_add],⟨b,off+fd.offset,_,rfl,hr.drop _,hc.drop _⟩,.inl rfl⟩
 ·rename_i fd dd id off hf hx
  obtain⟨hz,h⟩:=ite_inv' h
  injection h with h
  subst h
  refine sim_same fun X a M β κ hI hG _=>?_
  obtain⟨fs,hfs,hfd⟩:=fieldsOf_spec hf
  have hi:=hT.st fs hfs fd (Array.mem_of_getElem? hfd)
  have hx':=(hI.ev hG t x).1
  rw[hx] at hx'
  obtain⟨b,hb,he⟩:=rel_optr hx'
  exact⟨_,by simp[execOp,ho,Instr.fieldAt,run_und hfs,hfd,he,Instr.sureAddr,fieldPlace,size_run hi,hz,addr_add],⟨b,hb,rfl⟩,.inl rfl⟩
 ·cases h
theorem sim_indexAddr {t:TypeId}(hT:TypesOK en.P t){x y:Operand}(ho:o.op=.indexAddr t x y){act:PAct}(h:presolve en st o some=some act):Sim en NG W st o act:=by
 simp only[presolve,ho] at h
 split at h
 ·rename_i e nl sz n cells k i ht hx hy
  obtain⟨hs,h⟩:=ite_inv h
  obtain⟨hb,h⟩:=bif_inv h
  injection h with h
  subst h
  have hb:=index_in hb
  simp only[Bool.and_eq_true,beq_iff_eq,decide_eq_true_eq] at hs
  refine sim_same fun X a M β κ hI hG _=>?_
  have hx':=(hI.ev hG t x).1
  have hy':=(hI.ev hG 0 y).1
  rw[hx] at hx'
  rw[hy] at hy'
  have hy':=rel_int hy'
  have hx':RelD M _ _:=hx'
  simp only[RelD] at hx'
  obtain⟨A,c,vs,he,h1,h2,h3,h4,h5,h6,h7⟩:=hx'
  have hi:=hT.sl e ht
  have hlt:i.toNat<n:=by omega
  have hpos:0<vs.length:=by rw[← h6.length,h5];exact Nat.mul_pos (by omega) hs.2
  rcases h7 with h7|⟨b,off,hA,h7⟩
  ·rw[h7] at hpos;simp at hpos
  subst hA
  exact⟨_,by simp[execOp,ho,he,hy',Instr.indexAt,asIntOf,run_und ht,hb,size_run hi,addr_add,hs.1],⟨b,off+i.toNat * sz,_,rfl,(h6.drop _).take _,(h7.drop _).take _⟩,.inl rfl⟩
 ·rename_i e id off sz n k i ht hx hy
  obtain⟨hs,h⟩:=ite_inv h
  obtain⟨hb,h⟩:=bif_inv h
  injection h with h
  subst h
  have hb:=index_in hb
  simp only[Bool.and_eq_true,beq_iff_eq,decide_eq_true_eq] at hs
  refine sim_same fun X a M β κ hI hG _=>?_
  have hx':=(hI.ev hG t x).1
  have hy':=(hI.ev hG 0 y).1
  rw[hx] at hx'
  rw[hy] at hy'
  have hy':=rel_int hy'
  simp only[RelS] at hx'
  obtain⟨b,c,hβ,he,_⟩:=hx'
  have hi:=hT.sl e ht
  exact⟨_,by simp[execOp,ho,he,hy',Instr.indexAt,asIntOf,run_und ht,hb,size_run hi,addr_add,hs.1],⟨b,hβ,rfl⟩,.inl rfl⟩
 ·rename_i n e id off k i ht hx hy
  obtain⟨hb,h⟩:=bif_inv h
  injection h with h
  subst h
  have hb:=index_in hb
  refine sim_same fun X a M β κ hI hG _=>?_
  have hx':=(hI.ev hG t x).1
  have hy':=(hI.ev hG 0 y).1
  rw[hx] at hx'
  rw[hy] at hy'
  have hy':=rel_int hy'
  obtain⟨b,hbb,he⟩:=rel_ptr hx'
  have hi:=hT.ar n e ht
  exact⟨_,by simp[execOp,ho,he,hy',Instr.indexAt,Instr.sureAddr,asIntOf,run_und ht,hb,size_run hi,addr_add],⟨b,hbb,rfl⟩,.inl rfl⟩
 ·rename_i n e cs k i ht hx hy
  obtain⟨hb,h⟩:=bif_inv h
  injection h with h
  subst h
  have hb:=index_in hb
  refine sim_same fun X a M β κ hI hG _=>?_
  have hx':=(hI.ev hG t x).1
  have hy':=(hI.ev hG 0 y).1
  rw[hx] at hx'
  rw[hy] at hy'
  have hy':=rel_int hy'
  obtain⟨b,off,vs,he,hr,hc⟩:=rel_eptr hx'
  have hi:=hT.ar n e ht
  exact⟨_,by simp[execOp,ho,he,hy',Instr.indexAt,Instr.sureAddr,asIntOf,run_und ht,hb,size_run hi,addr_add],⟨b,off+i.toNat * szOf en.P e,_,rfl,hr.drop _,hc.drop _⟩,.inl rfl⟩
 ·cases h
theorem refine1_ok {t:CT}{x y:PV}(h:refine1 t x some=some y):y=x:=by
 cases t<;>simp only[refine1] at h
 case int k=>obtain⟨n,h1,h⟩:=bind_some_inv h;injection h with h;subst h;cases x<;>simp only[PV.asInt,reduceCtorEq] at h1;obtain⟨e,h2⟩:=ite_inv h1;injection h2 with h2;rw[h2,e]
 case bool=>obtain⟨n,h1,h⟩:=bind_some_inv h;injection h with h;subst h;cases x<;>simp only[PV.asBool,reduceCtorEq,Option.some.injEq] at h1;rw[h1]
 case str=>obtain⟨n,h1,h⟩:=bind_some_inv h;injection h with h;subst h;cases x<;>simp only[PV.asStr,reduceCtorEq,Option.some.injEq] at h1;rw[h1]
 case sl sz=>obtain⟨n,h1,h⟩:=bind_some_inv h;injection h with h;subst h;cases x<;>simp only[PV.asSl,reduceCtorEq] at h1;obtain⟨e,h2⟩:=ite_inv h1;injection h2 with h2;rw[← h2,e]
 all_goals (obtain⟨_,h⟩:=ite_inv h;injection h with h;exact h.symm)
theorem refineL_ok:∀ {ts:List CT} {xs ys:List PV},refineL ts xs some=some ys→ys=xs.take ts.length
 |[],xs,ys,h=>by simp only[refineL,Option.some.injEq] at h;subst h;rfl
 |t::ts,xs,ys,h=>by
  simp only[refineL] at h
  obtain⟨x,hx,h⟩:=bind_some_inv h
  rw[refine1_nat] at h
  obtain⟨y,hy,h⟩:=bind_some_inv h
  rw[refineL_nat] at h
  obtain⟨zs,hz,h⟩:=bind_some_inv h
  injection h with h
  subst h
  rw[refine1_ok hy,refineL_ok hz]
  cases xs with
  |nil=>simp at hx
  |cons a l=>simp at hx;subst hx;rfl
theorem eload_some {b:Bool}{ts:List CT}{xs r:List PV}(h:eload b ts xs some=some r):refineL ts xs some=some r:=by
 unfold eload at h
 cases b with
 |false=>exact h
 |true =>
  simp only[if_true] at h
  split at h
  ·obtain⟨x,h1,h⟩:=bind_some_inv h
   obtain⟨es,h2,h⟩:=bind_some_inv h
   have hx:x=.eptr es:=by
    unfold PV.asE at h2
    split at h2
    ·injection h2 with h2;rw[h2]
    ·cases h2
   subst hx
   simp only[refineL,h1,Option.bind_some]
   exact h
  ·cases h
theorem refineL_len:∀ {ts:List CT} {xs ys:List PV},refineL ts xs some=some ys→ts.length≤xs.length
 |[],xs,ys,h=>Nat.zero_le _
 |t::ts,xs,ys,h=>by
  simp only[refineL] at h
  obtain⟨x,hx,h⟩:=bind_some_inv h
  rw[refine1_nat] at h
  obtain⟨y,hy,h⟩:=bind_some_inv h
  rw[refineL_nat] at h
  obtain⟨zs,hz,h⟩:=bind_some_inv h
  have:=refineL_len hz
  cases xs with
  |nil=>simp at hx
  |cons a l=>simp at this ⊢;exact this
theorem run_loadVar {P:Program}{w:World}{t:TypeId}{b off:Nat}{vs:List Value}(hi:(P.info? t).isSome=true)(hu:∃ d,P.underlying t=some d)(hlen:szOf P t=vs.length)(h:∀ j u,vs[j]? = some u→w.cell? ⟨b,off+j,none⟩=some u)(h1:isAggT P t=false→vs.length=1) :
  (loadVar t ⟨b,off,none⟩).run P w=.ok (if isAggT P t then .agg vs.toArray else vs.headD undef) w:=by
 unfold loadVar
 simp only[Sem.run_bind,isAgg_run hi hu,Result.andThen_ok]
 cases hag:isAggT P t
 ·simp only[Bool.false_eq_true,if_false]
  have:=h1 hag
  match vs,this with
  |[u],_ =>
   have:=h 0 u rfl
   simp only[Nat.add_zero] at this
   simp[run_load,this]
 ·simp only[if_true,Sem.run_bind,size_run hi,Result.andThen_ok,hlen]
  rw[run_loadCells_list (P:=P) w ⟨b,off,none⟩ vs (fun j v hj=>by rw[addr_add];exact h j v hj)]
  rfl
theorem sim_load_e {t:TypeId}(hT:TypesOK en.P t){x:Operand}(ho:o.op=.load t x)(hti:(en.P.info? t).isSome=true){cs:List PV}(hx:(ev en st t x).1=.eptr cs){act:PAct}(h:presolve en st o some=some act):Sim en NG W st o act:=by
 simp only[presolve,ho,hx] at h
 obtain⟨hsz,h⟩:=ite_inv h
 rw[eload_nat] at h
 obtain⟨r,hr,h⟩:=bind_some_inv h
 have hr:=eload_some hr
 have e1:=refineL_ok hr
 have e2:=refineL_len hr
 have key:∀ {X:Cx} {a:Act} {M:Mem} {β κ:Nat→Option Nat},Inv NG X st a M β κ→GOK en X.M0→∃ b off vs,a.eval x=.pointer (some ⟨b,off,none⟩)∧RelL M r vs∧vs.length=szOf en.P t∧∀ j u,vs[j]? = some u→M.w.cell? ⟨b,off+j,none⟩=some u:=by
  intro X a M β κ hI hG
  have hx':=(hI.ev hG t x).1
  rw[hx] at hx'
  obtain⟨b,off,vs,he,hrl,hc⟩:=rel_eptr hx'
  refine⟨b,off,vs.take (tysOf en.P t).length,he,by rw[e1];exact hrl.take _,?_,fun j u hj=>((hc.take _) j u hj).1⟩
  rw[List.length_take,← hrl.length,← hsz]
  exact Nat.min_eq_left e2
 split at h
 ·rename_i hag
  injection h with h
  subst h
  refine sim_same fun X a M β κ hI hG _=>?_
  obtain⟨b,off,vs,he,h1,h2,h3⟩:=key hI hG
  have hl:=run_loadVar (P:=en.P) (w:=M.w) hti (hT.un) h2.symm h3 (by simp[hag])
  refine⟨.agg vs.toArray,by simp[execOp,ho,Instr.loadAt,he,Instr.sureAddr,hl,hag],?_,.inl rfl⟩
  show RelD M (.agg r) _
  simp only[RelD]
  exact⟨vs,rfl,h1⟩
 ·rename_i hag
  split at h
  ·injection h with h
   subst h
   refine sim_same fun X a M β κ hI hG _=>?_
   obtain⟨b,off,vs,he,h1,h2,h3⟩:=key hI hG
   simp only[RelL] at h1
   obtain⟨u,us,rfl,k1,k2,rfl⟩:=h1
   have hl:=run_loadVar (P:=en.P) (w:=M.w) hti (hT.un) h2.symm h3 (by simp)
   exact⟨u,by simp[execOp,ho,Instr.loadAt,he,Instr.sureAddr,hl,hag],RelS.of_data k2,.inl rfl⟩
  ·cases h
theorem sim_extract {x:Operand}{i:Nat}(ho:o.op=.extract x i){act:PAct}(h:presolve en st o some=some act):Sim en NG W st o act:=by
 simp only[presolve,ho] at h
 split at h
 ·rename_i vs hx
  obtain⟨v,hv,h⟩:=bind_some_inv h
  obtain⟨hd,h⟩:=ite_inv h
  injection h with h
  subst h
  refine sim_same fun X a M β κ hI hG _=>?_
  have hx':=(hI.ev hG 0 x).1
  rw[hx] at hx'
  have hx':RelD M _ _:=hx'
  simp only[RelD] at hx'
  obtain⟨us,he,hr⟩:=hx'
  obtain⟨u,h1,h2⟩:=hr.get hv
  have:us.toArray[i]? = some u:=by simpa using h1
  exact⟨u,by simp[execOp,ho,Instr.extract,he,h1],RelS.of_data h2,.inl rfl⟩
 ·rename_i vs hx
  obtain⟨v,hv,h⟩:=bind_some_inv h
  injection h with h
  subst h
  refine sim_same fun X a M β κ hI hG _=>?_
  have hx':=(hI.ev hG 0 x).1
  rw[hx] at hx'
  simp only[RelS] at hx'
  obtain⟨us,he,hr⟩:=hx'
  obtain⟨u,h1,h2⟩:=hr.get hv
  exact⟨u,by simp[execOp,ho,Instr.extract,he,h1],h2,.inl rfl⟩
 ·cases h
theorem isIfaceT_false {P:Program}{t:TypeId}(h:¬ isIfaceT P t=true){d:TypeDesc}(hd:P.underlying t=some d):∀ m,d≠.interface m:=by
 intro m e
 subst e
 exact h (by unfold isIfaceT;rw[hd])
theorem sim_makeInterface {t:TypeId}(hT:TypesOK en.P t){x:Operand}(ho:o.op=.makeInterface t x)(hti:(en.P.info? t).isSome=true){act:PAct}(h:presolve en st o some=some act):Sim en NG W st o act:=by
 simp only[presolve,ho] at h
 obtain⟨hni,h⟩:=ite_inv' h
 obtain⟨hd,h⟩:=ite_inv h
 injection h with h
 subst h
 refine sim_same fun X a M β κ hI hG _=>?_
 have hx':=(hI.ev hG t x).1.data hd
 obtain⟨d,hdd⟩:=hT.un
 have hne:=isIfaceT_false hni hdd
 refine⟨.iface t (a.eval x),?_,?_,.inl rfl⟩
 ·simp only[execOp,ho,Instr.makeInterface,Sem.run_bind,run_und hdd,Result.andThen_ok]
  cases d<;>first|rfl|exact (hne _ rfl).elim
 ·show RelD M (.iface _ _) _
  simp only[RelD]
  exact⟨_,rfl,hx'⟩
theorem sim_nilCheck {x:Operand}(ho:o.op=.nilCheck x){act:PAct}(h:presolve en st o some=some act):Sim en NG W st o act:=by
 simp only[presolve,ho] at h
 split at h
 ·rename_i id off c hx
  injection h with h
  subst h
  refine sim_same fun X a M β κ hI hG _=>?_
  have hx':=(hI.ev hG 0 x).1
  rw[hx] at hx'
  obtain⟨b,hb,he⟩:=rel_ptr hx'
  exact⟨_,by simp[execOp,ho,he],⟨b,hb,rfl⟩,.inl rfl⟩
 ·rename_i cs c hx
  injection h with h
  subst h
  refine sim_same fun X a M β κ hI hG _=>?_
  have hx':=(hI.ev hG 0 x).1
  rw[hx] at hx'
  obtain⟨b,off,vs,he,h1,h2⟩:=rel_eptr hx'
  exact⟨_,by simp[execOp,ho,he],⟨b,off,vs,rfl,h1,h2⟩,.inl rfl⟩
 ·rename_i f cs c hx
  injection h with h
  subst h
  refine sim_same fun X a M β κ hI hG _=>?_
  have hx':=(hI.ev hG 0 x).1
  rw[hx] at hx'
  obtain⟨vs,he,h1⟩:=hx'
  refine⟨cloV f vs,?_,⟨vs,rfl,h1⟩,.inl rfl⟩
  unfold cloV at he ⊢
  split at he
  ·rename_i hlt
   simp[execOp,ho,he,hlt]
  ·rename_i hlt
   simp[execOp,ho,he,hlt]
 ·rename_i c hx
  injection h with h
  subst h
  refine sim_same fun X a M β κ hI hG _=>?_
  have hx':=(hI.ev hG 0 x).1
  rw[hx] at hx'
  have he:a.eval x=.func (.yield M.y.l) #[] #[]:=hx'
  exact⟨_,by simp[execOp,ho,he],rfl,.inl rfl⟩
 ·rename_i d i off c hx
  injection h with h
  subst h
  refine sim_same fun X a M β κ hI hG _=>?_
  have hx':=(hI.ev hG 0 x).1
  rw[hx] at hx'
  obtain⟨b,hb,he⟩:=rel_optr hx'
  exact⟨_,by simp[execOp,ho,he],⟨b,hb,rfl⟩,.inl rfl⟩
 ·cases h
theorem sim_makeFunc {fn:Fn}{first caps:Array Operand}(ho:o.op=.makeFunc fn first caps){act:PAct}(h:presolve en st o some=some act):Sim en NG W st o act:=by
 simp only[presolve,ho] at h
 split at h
 ·rename_i f
  obtain⟨hlt,h⟩:=ite_inv h
  have key:∀ {X:Cx} {a:Act} {M:Mem} {β κ:Nat→Option Nat},Inv NG X st a M β κ→GOK en X.M0→∀ l:List Operand,RelCs M β (l.map fun x=>(ev en st 0 x).1) (l.map a.eval):=fun hI hG l=>by
   refine RelCs.of_get (by simp) fun j x u hx hu=>?_
   rw[List.getElem?_map] at hx hu
   obtain⟨y,hy,rfl⟩:=Option.map_eq_some_iff.1 hx
   rw[hy] at hu
   simp only[Option.map_some,Option.some.injEq] at hu
   rw[← hu]
   exact (hI.ev hG 0 y).1
  have arr:∀ (l:Array Operand) (a:Act),l.map a.eval=(l.toList.map a.eval).toArray:=fun l a=>by apply Array.ext';simp
  split at h
  ·rename_i hf
   injection h with h
   subst h
   refine sim_same fun X a M β κ hI hG _=>?_
   have e0:first=#[]:=by simpa using hf
   refine⟨.func (.func f) #[] (caps.map a.eval),by simp[execOp,ho,Instr.makeFunc,e0],?_,.inl rfl⟩
   simp only[RelS]
   exact⟨caps.toList.map a.eval,by rw[arr,cloV,if_pos hlt],key hI hG _⟩
  ·obtain⟨hf,h⟩:=ite_inv h
   injection h with h
   subst h
   refine sim_same fun X a M β κ hI hG _=>?_
   have e0:caps=#[]:=by simpa using hf
   refine⟨.func (.func f) (first.map a.eval) #[],by simp[execOp,ho,Instr.makeFunc,e0],?_,.inl rfl⟩
   simp only[RelS]
   exact⟨first.toList.map a.eval,by rw[arr,cloV,if_neg (Nat.not_lt.mpr (Nat.le_add_left 1000000 f)),Nat.add_sub_cancel],key hI hG _⟩
 ·cases h
end
end Go.Proofs.YtkpfigikffphdaaGreatDoor
end
