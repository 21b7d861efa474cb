/-
  Lemmas, part Y1: what the claim needs of the texts of wip/tpl.
-/
import Derived.Sort.Walk0
import Derived.Laws.Cells
import Derived.Test.YtegmldndflfohaaGreatDoorPlPD
import Derived.Test.YtegmldndflfohaaGreatDoorPlBA
import Derived.Test.YtegmldndflfohaaGreatDoorPlKB
set_option linter.unusedVariables false
set_option linter.unusedSimpArgs false
section
namespace Go.Proofs.YtegmldndflfohaaGreatDoor.SC
open Go.RowKit
def byC:List PV→Option (List UInt8)
 |[]=>some []
 | .int .u8 d::l=>if 0≤d∧d<256 then (byC l).map fun t=>UInt8.ofNat d.toNat::t else none
 |_=>none
end Go.Proofs.YtegmldndflfohaaGreatDoor.SC
namespace Go.Proofs.YtegmldndflfohaaGreatDoor.SC
open Go.RowKit
def be (l:List UInt8):Nat:=l.foldl (fun u c=>u * 256+c.toNat) 0
theorem be_snoc (l:List UInt8)(c:UInt8):be (l++[c])=be l * 256+c.toNat:=by simp[be]
theorem be_lt:∀ (n:Nat) (l:List UInt8),l.length=n→be l<256^n:=by
 intro n
 induction n with
 |zero=>intro l h;rw[List.length_eq_zero_iff.1 h];decide
 |succ n ih =>
  intro l h
  have hne:l≠[]:=by intro e;rw[e] at h;cases h
  obtain⟨t,c,rfl⟩:∃ t c,l=t++[c]:=⟨l.dropLast,l.getLast hne,(List.dropLast_concat_getLast hne).symm⟩
  have hl:t.length=n:=by simpa using h
  have:=ih t hl
  have hc:=c.toNat_lt
  rw[be_snoc,Nat.pow_succ]
  omega
end Go.Proofs.YtegmldndflfohaaGreatDoor.SC
namespace Go.Proofs.YtegmldndflfohaaGreatDoor.SC
open Go.RowKit
end Go.Proofs.YtegmldndflfohaaGreatDoor.SC
namespace Go.Proofs.YtegmldndflfohaaGreatDoor.SC
open Go.RowKit
def numI (a b:Int):Int:=bif decide (a<b) then -1 else bif decide (b<a) then 1 else 0
theorem numI_lt {a b:Int}(h:a<b):numI a b=-1:=by unfold numI;rw[decide_eq_true h];rfl
theorem numI_gt {a b:Int}(h:b<a):numI a b=1:=by unfold numI;rw[decide_eq_false (by omega),decide_eq_true h];rfl
theorem numI_self (a:Int):numI a a=0:=by unfold numI;rw[decide_eq_false (by omega)];rfl
theorem num_raw (l:List (FuncId×PFn))(a b:Int)(fuel:Nat):prun (en l) ⟨[],[]⟩ fuel false Tryz.f50 [.int .i64 a,.int .i64 b] =
  bif decide (a<b) then some (.int .i64 (-1)) else bif decide (b<a) then some (.int .i64 1) else some (.int .i64 0):=by kernel_rfl
def p_numbers:PFn:=⟨fun xs k=>match xs with|[.int .i64 a,.int .i64 b]=>k (.int .i64 (numI a b))|_=>none,false⟩
theorem ok_numbers:FOK NGk Tabs 50 p_numbers:=by
 refine fok wokk allOK_nil (h:=⟨[],[]⟩) Tryz.func50 rfl (by decide) ?_ ?_
 ·intro R xs k
  simp only[p_numbers]
  split<;>rfl
 ·intro xs r h
  simp only[p_numbers] at h
  split at h
  ·rename_i a b
   refine⟨0,(num_raw [] a b 0).trans ?_⟩
   rw[← h]
   unfold numI
   cases decide (a<b)<;>cases decide (b<a)<;>rfl
  ·cases h
def txtL:List UInt8→List UInt8→Int
 |[],[]=>0
 |[],_::_=>-1
 |_::_,[]=>1
 |a::x,b::y=>bif a==b then txtL x y else numI (a.toNat:Int) (b.toNat:Int)
theorem txt_nil:∀ (x:List UInt8),txtL x []=numI (x.length:Int) 0
 |[]=>rfl
 |c::x=>by rw[numI_gt (by simp only[List.length_cons];omega)];rfl
theorem nil_txt:∀ (x:List UInt8),txtL [] x=numI 0 (x.length:Int)
 |[]=>rfl
 |c::x=>by rw[numI_lt (by simp only[List.length_cons];omega)];rfl
def ixS {R:Type}(s:List UInt8)(i:Int)(K:UInt8→Option R):Option R:=bif decide (0≤i)&&decide (i<(s.length:Int)) then s[i.toNat]?.bind K else none
theorem ixS_eq {R:Type}{s:List UInt8}{i:Nat}{c:UInt8}{K:UInt8→Option R}(h:s[i]? = some c):ixS s (i:Int) K=K c:=by
 have:=(List.getElem?_eq_some_iff.1 h).1
 unfold ixS
 rw[cond_t (by rw[decide_eq_true (by omega),decide_eq_true (by omega)];rfl),Int.toNat_natCast,h]
 rfl
def hTx:Hints:=⟨[],[(0,⟨[(0,false),(1,false),(5,false)],[]⟩)]⟩
def frTx (x y:List UInt8)(i:Int):St:=frame 39 [(0,(.str x,0)),(1,(.str y,0)),(5,(.int .i64 i,0))] []
noncomputable def lTx:List (FuncId×PFn):=[(50,p_numbers)]
noncomputable def txLoop (fu n:Nat)(st:St):Option PV:=loopF (en lTx) hTx fu false Tryz.f29 [1,0,1,0] 0 n st
theorem tx_raw (fu:Nat)(x y:List UInt8):prun (en lTx) hTx fu false Tryz.f29 [.str x,.str y]=txLoop fu fu (frTx x y 0):=by kernel_rfl
theorem tx_step (fu:Nat)(x y:List UInt8)(i:Int)(K:St→Option PV):stepF (en lTx) hTx fu false Tryz.f29 [1,0,1,0] (frTx x y i) (fun st=>pnorm (hTx.loop.lookup 0) st K) =
  bif decide (i<(x.length:Int))&&decide (i<(y.length:Int)) then ixS x i fun a=>ixS y i fun b=>bif !((a.toNat:Int)==(b.toNat:Int)) then
    ixS x i fun a=>ixS y i fun b=>some (.int .i64 (numI (IntKind.i64.wrap (a.toNat:Int)) (IntKind.i64.wrap (b.toNat:Int)))) else K (frTx x y (IntKind.i64.wrap (i+1)))
  else some (.int .i64 (numI (x.length:Int) (y.length:Int))):=by kernel_rfl
theorem tx_loop (fu:Nat)(x y:List UInt8)(hx:x.length≤1000000):∀ (k i n:Nat),i+k=x.length→k<n→i≤y.length→txLoop fu n (frTx x y (i:Int))=some (.int .i64 (txtL (x.drop i) (y.drop i)))
 |k,i,0,_,h,_=>by omega
 |k, i, n+1,hi,hn,hy=>by
  unfold txLoop
  rw[loopF_succ,tx_step]
  by_cases h1:i<x.length
  ·by_cases h2:i<y.length
   ·have c1:=List.getElem?_eq_getElem h1
    have c2:=List.getElem?_eq_getElem h2
    rw[cond_t (by rw[decide_eq_true (by omega),decide_eq_true (by omega)];rfl),ixS_eq c1,ixS_eq c2,ixS_eq c1,ixS_eq c2,List.drop_eq_getElem_cons h1,List.drop_eq_getElem_cons h2,txtL]
    have b1:=x[i].toNat_lt
    have b2:=y[i].toNat_lt
    have e:((x[i].toNat:Int)==(y[i].toNat:Int))=(x[i]==y[i]):=by
     rw[Bool.eq_iff_iff]
     simp only[beq_iff_eq]
     constructor
     ·intro e;apply UInt8.toNat_inj.1;omega
     ·intro e;rw[e]
    rw[e,wrapI_of (x:=(x[i].toNat:Int)) (by omega) (by omega),wrapI_of (x:=(y[i].toNat:Int)) (by omega) (by omega),wrapI_of (by omega) (by omega)]
    cases x[i]==y[i]
    ·rfl
    ·simp only[Bool.not_true,cond_false,cond_true]
     have ih:=tx_loop fu x y hx (k-1) (i+1) n (by omega) (by omega) (by omega)
     unfold txLoop at ih
     exact ih
   ·have hyl:y.length=i:=by omega
    rw[cond_f (by rw[decide_eq_false (show ¬ (i:Int)<(y.length:Int) by omega),Bool.and_false]),show y.drop i=[] from List.drop_of_length_le (by omega),txt_nil,List.length_drop,numI_gt (by omega),numI_gt (by omega)]
  ·rw[cond_f (by rw[decide_eq_false (show ¬ (i:Int)<(x.length:Int) by omega),Bool.false_and]),show x.drop i=[] from List.drop_of_length_le (by omega),nil_txt,List.length_drop]
   by_cases h2:i<y.length
   ·rw[numI_lt (by omega),numI_lt (by omega)]
   ·rw[show y.length=x.length by omega,show x.length-i=0 by omega,numI_self];rfl
def p_Texts:PFn:=⟨fun xs k=>match xs with|[.str x,.str y]=>bif decide (x.length≤1000000) then k (.int .i64 (txtL x y)) else none|_=>none,false⟩
theorem ok_Texts:FOK NGk Tabs 29 p_Texts:=by
 refine fok wokk (allOK_cons ok_numbers allOK_nil) (h:=hTx) Tryz.func29 rfl (by decide) ?_ ?_
 ·intro R xs k
  simp only[p_Texts]
  split
  ·exact cond_nat
  ·rfl
 ·intro xs r h
  simp only[p_Texts] at h
  split at h
  ·rename_i x y
   rcases hb:decide (x.length≤1000000) with _|_<;>rw[hb] at h
   ·cases h
   ·simp only[cond_true,Option.some.injEq] at h
    subst h
    simp only[decide_eq_true_eq] at hb
    exact⟨x.length+1,(tx_raw _ x y).trans (tx_loop _ x y hb x.length 0 _ (by omega) (by omega) (by omega))⟩
  ·cases h
end Go.Proofs.YtegmldndflfohaaGreatDoor.SC
namespace Go.Proofs.YtegmldndflfohaaGreatDoor.SC
open Go.RowKit
abbrev V4:=Val
def V4.cs (v:Val):List PV:=[.int .i64 v.kind,.int .i64 v.n,.int .i64 v.scale,.str v.s]
def valsC (vs:List V4):List PV:=vs.flatMap V4.cs
theorem vals_at:∀ {vs:List V4} {i:Nat} {v:V4},vs[i]? = some v→((valsC vs).drop (i * 4)).take 4=V4.cs v
 |v::vs,0,w,h=>by
  simp only[List.getElem?_cons_zero,Option.some.injEq] at h
  subst h
  rfl
 |v::vs,i+1,w,h=>by
  simp only[List.getElem?_cons_succ] at h
  have ih:=vals_at h
  have e:(valsC (v::vs)).drop ((i+1) * 4)=(valsC vs).drop (i * 4):=by
   show (V4.cs v++valsC vs).drop _=_
   rw[show (i+1) * 4=(V4.cs v).length+i * 4 by simp only[V4.cs,List.length_cons,List.length_nil];omega,← List.drop_drop,List.drop_left]
  rw[e,ih]
def ixV {R:Type}(len:Nat)(c:List PV)(i:Int)(K:Int→Int→Int→List UInt8→Option R):Option R :=
 bif decide (0≤i)&&decide (i<(len:Int)) then
  ((c.drop (i.toNat * 4)).take 4).head?.bind fun v=>(PV.asInt .i64 v).bind fun a=>((c.drop (i.toNat * 4)).take 4).tail.head?.bind fun v=>(PV.asInt .i64 v).bind fun n =>
  ((c.drop (i.toNat * 4)).take 4).tail.tail.head?.bind fun v=>(PV.asInt .i64 v).bind fun b=>((c.drop (i.toNat * 4)).take 4).tail.tail.tail.head?.bind fun v=>v.asStr.bind fun s=>K a n b s else none
theorem ixV_eq {R:Type}{vs:List V4}{i:Nat}{v:V4}{K:Int→Int→Int→List UInt8→Option R}(h:vs[i]? = some v):ixV vs.length (valsC vs) (i:Int) K=K v.kind v.n v.scale v.s:=by
 have:=(List.getElem?_eq_some_iff.1 h).1
 unfold ixV
 rw[cond_t (by rw[decide_eq_true (by omega),decide_eq_true (by omega)];rfl),Int.toNat_natCast,vals_at h]
 rfl
end Go.Proofs.YtegmldndflfohaaGreatDoor.SC
namespace Go.Proofs.YtegmldndflfohaaGreatDoor.SC
open Go.RowKit
end Go.Proofs.YtegmldndflfohaaGreatDoor.SC
namespace Go.Proofs.YtegmldndflfohaaGreatDoor.SC
open Go.RowKit
def vlC:List PV→Option (List Val)
 |[]=>some []
 | .int .i64 a::.int .i64 n::.int .i64 c::.str s::l=>(vlC l).map fun t=>⟨a,n,c,s⟩::t
 |_=>none
theorem vlC_vals:∀ (vs:List Val),vlC (valsC vs)=some vs
 |[]=>rfl
 |v::vs=>by
  show (vlC (valsC vs)).map (fun t=>(⟨v.kind,v.n,v.scale,v.s⟩:Val)::t)=_
  rw[vlC_vals vs];rfl
theorem vlC_inv:∀ {c:List PV} {vs:List Val},vlC c=some vs→c=valsC vs
 |c,vs,h=>by
  unfold vlC at h
  split at h
  ·injection h with h;subst h;rfl
  ·rename_i a n b s l
   obtain⟨t,ht,rfl⟩:=Option.map_eq_some_iff.1 h
   rw[vlC_inv ht];rfl
  ·cases h
def decV (n:Nat)(c:List PV):Option (List Val):=(vlC c).bind fun vs=>if n=vs.length then some vs else none
theorem decV_vals (vs:List Val):decV vs.length (valsC vs)=some vs:=by unfold decV;rw[vlC_vals];simp
theorem decV_inv {n:Nat}{c:List PV}{vs:List Val}(h:decV n c=some vs):n=vs.length∧c=valsC vs:=by
 unfold decV at h
 obtain⟨m,hm,h⟩:=Option.bind_eq_some_iff.1 h
 split at h
 ·rename_i hl
  injection h with h
  subst h
  exact⟨hl,vlC_inv hm⟩
 ·cases h
end Go.Proofs.YtegmldndflfohaaGreatDoor.SC
end
section
namespace Go.Proofs.YtegmldndflfohaaGreatDoor.SC
open Go.RowKit
theorem deTo_be (l:List UInt8)(k:Nat):deTo l k=be (l.take k):=rfl
def Dif (a b:List UInt8)(z:Int):Prop:=∃ (p:List UInt8) (c d:UInt8) (t u:List UInt8),a=p++c::t∧b=p++d::u∧c≠d∧z=numI (c.toNat:Int) (d.toNat:Int)
theorem Dif.pre {a b:List UInt8}{z:Int}(h:Dif a b z)(q:List UInt8):Dif (q++a) (q++b) z:=by
 obtain⟨p,c,d,t,u,rfl,rfl,h,hz⟩:=h
 exact⟨q++p,c,d,t,u,by simp,by simp,h,hz⟩
theorem u8_ne_nat {c d:UInt8}(h:c≠d):(c.toNat:Int)≠(d.toNat:Int):=fun e=>h (UInt8.toNat_inj.1 (by omega))
theorem numI_ne {a b:Int}(h:a≠b):numI a b≠0:=by
 rcases Int.lt_trichotomy a b with h1|h1|h1
 ·rw[numI_lt h1];decide
 ·exact absurd h1 h
 ·rw[numI_gt h1];decide
theorem Dif.ne {a b:List UInt8}{z:Int}(h:Dif a b z):z≠0:=by
 obtain⟨p,c,d,t,u,rfl,rfl,h,rfl⟩:=h
 exact numI_ne (u8_ne_nat h)
theorem txt_pre:∀ (p a b:List UInt8),txtL (p++a) (p++b)=txtL a b
 |[],_,_=>rfl
 |c::p,a,b=>by
  rw[List.cons_append,List.cons_append,txtL,beq_self_eq_true,cond_true,txt_pre p a b]
theorem Dif.txt {a b:List UInt8}{z:Int}(h:Dif a b z):txtL a b=z:=by
 obtain⟨p,c,d,t,u,rfl,rfl,h,rfl⟩:=h
 rw[txt_pre,txtL,cond_f (by simpa using h)]
theorem txt_self (a:List UInt8):txtL a a=0:=by
 have:=txt_pre a [] []
 rw[List.append_nil] at this
 rw[this];rfl
theorem Dif.take {a b:List UInt8}{z:Int}(h:Dif a b z){k:Nat}(hk:k=min a.length b.length):a.take k≠b.take k:=by
 obtain⟨p,c,d,t,u,rfl,rfl,h,rfl⟩:=h
 intro e
 have hlt:p.length<k:=by rw[hk];simp only[List.length_append,List.length_cons];omega
 have e1:=congrArg (fun l:List UInt8=>l[p.length]?) e
 simp only[List.getElem?_take,if_pos hlt] at e1
 rw[List.getElem?_append_right (Nat.le_refl _),List.getElem?_append_right (Nat.le_refl _),Nat.sub_self] at e1
 simp only[List.getElem?_cons_zero,Option.some.injEq] at e1
 exact h e1
theorem be_cons_from:∀ (l:List UInt8) (u:Nat),l.foldl (fun u c=>u * 256+c.toNat) u=u * 256^l.length+be l:=by
 intro l
 induction l with
 |nil=>intro u;simp[be]
 |cons c l ih =>
  intro u
  have h1:=ih (u * 256+c.toNat)
  have h2:=ih c.toNat
  have e:be (c::l)=l.foldl (fun u c=>u * 256+c.toNat) c.toNat:=by simp[be]
  rw[List.foldl_cons,h1,e,h2,List.length_cons,Nat.pow_succ,Nat.add_mul,Nat.mul_assoc,Nat.mul_comm 256 (256^l.length)]
  omega
theorem be_cons (c:UInt8)(l:List UInt8):be (c::l)=c.toNat * 256^l.length+be l:=by
 have:=be_cons_from l c.toNat
 rw[← this];simp[be]
theorem be_dif:∀ (n:Nat) (a b:List UInt8),a.length=n→b.length=n→a=b∨Dif a b (numI (be a:Int) (be b:Int)):=by
 intro n
 induction n with
 |zero=>intro a b ha hb;left;rw[List.length_eq_zero_iff.1 ha,List.length_eq_zero_iff.1 hb]
 |succ n ih =>
  intro a b ha hb
  match a,b,ha,hb with
  |c::t,d::u,ha,hb =>
   simp only[List.length_cons,Nat.add_right_cancel_iff] at ha hb
   have l1:=be_lt n t ha
   have l2:=be_lt n u hb
   rw[be_cons,be_cons,ha,hb]
   by_cases h:c=d
   ·subst h
    rcases ih t u ha hb with rfl|hd
    ·left;rfl
    ·right
     have:=hd.pre [c]
     have e:numI ((c.toNat * 256^n+be t:Nat):Int) ((c.toNat * 256^n+be u:Nat):Int)=numI (be t:Int) (be u:Int):=by
      generalize c.toNat * 256^n=q
      rcases Nat.lt_trichotomy (be t) (be u) with h|h|h
      ·rw[numI_lt (by omega),numI_lt (by omega)]
      ·rw[h,numI_self,numI_self]
      ·rw[numI_gt (by omega),numI_gt (by omega)]
     rw[e]
     exact this
   ·right
    refine⟨[],c,d,t,u,rfl,rfl,h,?_⟩
    have hne:c.toNat≠d.toNat:=fun e=>h (UInt8.toNat_inj.1 e)
    rcases Nat.lt_or_ge c.toNat d.toNat with h1|h1
    ·have:(c.toNat+1) * 256^n≤d.toNat * 256^n:=Nat.mul_le_mul_right _ h1
     rw[Nat.add_mul] at this
     rw[numI_lt (by omega),numI_lt (by omega)]
    ·have:(d.toNat+1) * 256^n≤c.toNat * 256^n:=Nat.mul_le_mul_right _ (by omega)
     rw[Nat.add_mul] at this
     rw[numI_gt (by omega),numI_gt (by omega)]
theorem be_be8 (n:Int):be (be8 n)=flipN n:=by
 have:=deTo_beTo (flipN n) (flipN_lt n) []
 rw[deTo_be,List.append_nil,List.take_of_length_le (by rw[beTo_length];exact Nat.le_refl _)] at this
 exact this
theorem be8_dif {m n:Int}(hm:-9223372036854775808≤m∧m≤9223372036854775807)(hn:-9223372036854775808≤n∧n≤9223372036854775807):(m=n∧numI m n=0)∨Dif (be8 m) (be8 n) (numI m n):=by
 have e:numI (flipN m:Int) (flipN n:Int)=numI m n:=by
  have h1:(flipN m:Int)=m+9223372036854775808:=by unfold flipN;omega
  have h2:(flipN n:Int)=n+9223372036854775808:=by unfold flipN;omega
  rw[h1,h2]
  rcases Int.lt_trichotomy m n with h|h|h
  ·rw[numI_lt (by omega),numI_lt h]
  ·rw[h,numI_self,numI_self]
  ·rw[numI_gt (by omega),numI_gt h]
 rcases be_dif 8 (be8 m) (be8 n) (be8_length m) (be8_length n) with h|h
 ·left
  have h3:=congrArg be h
  rw[be_be8,be_be8] at h3
  have:m=n:=by unfold flipN at h3;omega
  exact⟨this,by rw[this,numI_self]⟩
 ·right
  rw[be_be8,be_be8,e] at h
  exact h
theorem esc_dif:∀ (s u:List UInt8),(s=u∧txtL s u=0)∨Dif (escTo s++[0,1]) (escTo u++[0,1]) (txtL s u)
 |[],[]=>.inl ⟨rfl,rfl⟩
 |[],b::y=>by
  right
  by_cases h:b=0
  ·subst h
   exact⟨[0],1,255,[],escTo y++[0,1],by simp[escTo],by simp[escTo],by decide,rfl⟩
  ·refine⟨[],0,b,[1],escTo y++[0,1],by simp[escTo],by simp[escTo,h],fun e=>h e.symm,?_⟩
   have hb:b.toNat≠0:=fun e=>h (UInt8.toNat_inj.1 (by simpa using e))
   show (-1:Int)=_
   rw[numI_lt]
   simp only[UInt8.reduceToNat]
   omega
 |a::x,[]=>by
  right
  by_cases h:a=0
  ·subst h
   exact⟨[0],255,1,escTo x++[0,1],[],by simp[escTo],by simp[escTo],by decide,rfl⟩
  ·refine⟨[],a,0,escTo x++[0,1],[1],by simp[escTo,h],by simp[escTo],h,?_⟩
   have hb:a.toNat≠0:=fun e=>h (UInt8.toNat_inj.1 (by simpa using e))
   show (1:Int)=_
   rw[numI_gt]
   simp only[UInt8.reduceToNat]
   omega
 |a::x,b::y=>by
  by_cases h:a=b
  ·subst h
   have e:txtL (a::x) (a::y)=txtL x y:=by rw[txtL,beq_self_eq_true,cond_true]
   rw[e]
   rcases esc_dif x y with ⟨rfl,h0⟩|hd
   ·exact .inl ⟨rfl,h0⟩
   ·right
    have:=hd.pre (if a=0 then [0,255] else [a])
    rw[escTo,escTo,List.append_assoc,List.append_assoc]
    exact this
  ·right
   rw[txtL,cond_f (by simpa using h)]
   by_cases h0:a=0
   ·subst h0
    have hb:b≠0:=fun e=>h e.symm
    exact⟨[],0,b,_,_,by simp[escTo];rfl,by simp[escTo,hb];rfl,h,rfl⟩
   ·by_cases h1:b=0
    ·subst h1
     exact⟨[],a,0,_,_,by simp[escTo,h0];rfl,by simp[escTo];rfl,h,rfl⟩
    ·exact⟨[],a,b,_,_,by simp[escTo,h0];rfl,by simp[escTo,h1];rfl,h,rfl⟩
def ordV (x y:Val):Int:=if x.kind≠y.kind then numI x.kind y.kind else if x.kind=0 then 0 else if x.kind=1∨x.kind=2∨x.kind=3 then numI x.n y.n else txtL x.s y.s
def mates (x y:Val):Prop:=x.kind=0∨y.kind=0∨(x.kind=y.kind∧x.scale=y.scale)
theorem right_kind {x:Val}(h:right x=true):0≤x.kind∧x.kind≤5:=by
 unfold right at h
 (repeat' split at h)<;>first|(cases h;done)|omega
theorem enc_kind {x:Val}(h:right x=true):enc x=UInt8.ofNat x.kind.toNat::(if x.kind=1 then [UInt8.ofNat x.n.toNat] else if x.kind=2 then be8 x.n else if x.kind=3 then UInt8.ofNat x.scale.toNat::be8 x.n
  else if x.kind=4∨x.kind=5 then escTo x.s++[0,1] else []):=by
 unfold enc
 rw[plain_right h];rfl
theorem byte_nat {k:Int}(h0:0≤k)(h1:k≤255):((UInt8.ofNat k.toNat).toNat:Int)=k:=by
 rw[UInt8.toNat_ofNat'];omega
theorem enc_dif {x y:Val}(hx:right x=true)(hy:right y=true)(hx64:x.in64)(hy64:y.in64)(hm:mates x y):(x=y∧ordV x y=0)∨Dif (enc x) (enc y) (ordV x y):=by
 have kx:=right_kind hx
 have ky:=right_kind hy
 have ex:=enc_kind hx
 have ey:=enc_kind hy
 by_cases hk:x.kind=y.kind
 ·have hs : x.kind≠0→x.scale=y.scale:=by
   intro h0
   rcases hm with h|h|h
   ·exact absurd h h0
   ·rw[← hk] at h;exact absurd h h0
   ·exact h.2
  unfold right at hx hy
  rw[← hk] at hy ey
  unfold ordV
  rw[if_neg (by simpa using hk)]
  by_cases h0:x.kind=0
  ·left
   rw[if_pos h0] at hx hy ⊢
   simp only[decide_eq_true_eq] at hx hy
   exact⟨Val.ext' hk (by omega) (by omega) (by rw[hx.2.2,hy.2.2]),rfl⟩
  ·rw[if_neg h0] at hx hy ⊢
   have hs:=hs h0
   by_cases h1:x.kind=1
   ·rw[if_pos (.inl h1)]
    rw[if_pos h1] at hx hy
    simp only[decide_eq_true_eq] at hx hy
    simp only[h1,if_true] at ex ey
    by_cases hn:x.n=y.n
    ·left
     exact⟨Val.ext' hk hn hs (by rw[hx.2.2,hy.2.2]),by rw[hn,numI_self]⟩
    ·right
     rw[ex,ey]
     have b1:=byte_nat (k:=x.n) (by omega) (by omega)
     have b2:=byte_nat (k:=y.n) (by omega) (by omega)
     exact⟨[_],UInt8.ofNat x.n.toNat,UInt8.ofNat y.n.toNat,[],[],rfl,rfl,fun e=>hn (by rw[← b1,← b2,e]),by rw[b1,b2]⟩
   ·rw[if_neg h1] at hx hy
    by_cases h2:x.kind=2
    ·rw[if_pos (.inr (.inl h2))]
     rw[if_pos h2] at hx hy
     simp only[decide_eq_true_eq] at hx hy
     simp only[h2,if_true,show ¬ (2:Int)=1 by decide,if_false] at ex ey
     rcases be8_dif hx64 hy64 with ⟨h,hz⟩|h
     ·exact .inl ⟨Val.ext' hk h hs (by rw[hx.2,hy.2]),hz⟩
     ·right
      rw[ex,ey]
      exact h.pre [_]
    ·rw[if_neg h2] at hx hy
     by_cases h3:x.kind=3
     ·rw[if_pos (.inr (.inr h3))]
      rw[if_pos h3] at hx hy
      simp only[decide_eq_true_eq] at hx hy
      simp only[h3,if_true,show ¬ (3:Int)=1 by decide,show ¬ (3:Int)=2 by decide,if_false] at ex ey
      rcases be8_dif hx64 hy64 with ⟨h,hz⟩|h
      ·exact .inl ⟨Val.ext' hk h hs (by rw[hx.1,hy.1]),hz⟩
      ·right
       rw[ex,ey,hs]
       exact h.pre [_,_]
     ·rw[if_neg h3] at hx hy
      have h45:x.kind=4∨x.kind=5:=by omega
      rw[if_neg (by omega)]
      simp only[h1,h2,h3,if_false,if_pos h45] at ex ey
      have hnn:x.n=y.n:=by
       rcases h45 with h|h<;>simp only[h,if_true,show ¬ (5:Int)=4 by decide,if_false,Bool.and_eq_true,decide_eq_true_eq] at hx hy<;>omega
      rcases esc_dif x.s y.s with ⟨h,hz⟩|h
      ·exact .inl ⟨Val.ext' hk hnn hs h,hz⟩
      ·right
       rw[ex,ey]
       exact h.pre [_]
 ·right
  unfold ordV
  rw[if_pos hk,ex,ey]
  have b1:=byte_nat (k:=x.kind) (by omega) (by omega)
  have b2:=byte_nat (k:=y.kind) (by omega) (by omega)
  exact⟨[],_,_,_,_,rfl,rfl,fun e=>hk (by rw[← b1,← b2,e]),by rw[b1,b2]⟩
def p_by8:PFn:=⟨fun xs k=>match xs with|[.int .i64 a]=>k (.str (be8 a))|_=>none,false⟩
theorem ok_by8:FOK NGk Tabs 51 p_by8:=by
 refine fok_calls Tryz.func51 (by kernel_rfl) (by decide) ?_ rfl ?_
 ·intro R xs k
  simp only[p_by8]
  split<;>rfl
 ·intro xs r M vs hW h hr
  simp only[p_by8] at h
  split at h
  ·rename_i a
   simp only[Option.some.injEq] at h
   subst h
   obtain⟨v,rfl,h2⟩:=relT1 hr
   simp only[RelD] at h2
   subst h2
   refine (bytes8_any a M.w).mono ?_
   rintro e w' ⟨rfl,hbl⟩
   exact⟨_,rfl,hbl,fun U' _=>rfl⟩
  ·cases h
theorem right_B (v:Val):rightB v.kind v.n v.scale v.s=right v:=by
 unfold rightB right scB
 rw[Bool.eq_iff_iff]
 by_cases h0:v.kind=0
 ·simp[h0,and_assoc]
 ·rw[show (v.kind==0)=false by simpa using h0,cond_false,if_neg h0]
  by_cases h1:v.kind=1
  ·simp[h1,and_assoc]
  ·rw[show (v.kind==1)=false by simpa using h1,cond_false,if_neg h1]
   by_cases h2:v.kind=2
   ·simp[h2,and_assoc]
   ·rw[show (v.kind==2)=false by simpa using h2,cond_false,if_neg h2]
    by_cases h3:v.kind=3
    ·simp[h3,and_assoc]
    ·rw[show (v.kind==3)=false by simpa using h3,cond_false,if_neg h3]
     by_cases h4:v.kind=4
     ·simp[h4,and_assoc]
     ·rw[show (v.kind==4)=false by simpa using h4,cond_false,if_neg h4]
      by_cases h5:v.kind=5
      ·simp[h5,and_assoc]
      ·simp[h5]
theorem plainA_cs (v:Val):[PV.int .i64 (bif rightB v.kind v.n v.scale v.s then v.kind else 0),.int .i64 (bif rightB v.kind v.n v.scale v.s then v.n else 0),.int .i64 (bif rightB v.kind v.n v.scale v.s then v.scale else 0),.str (bif rightB v.kind v.n v.scale v.s then v.s else [])]=V4.cs (plain v):=by
 unfold plain
 rw[right_B]
 cases right v<;>rfl
def catO {R:Type}(x y:List UInt8)(k:Option R):Option R:=bif decide (x.length+y.length≤9223372036854775807) then k else none
theorem catO_eq {R:Type}{x y:List UInt8}{k:Option R}(h:x.length+y.length≤9223372036854775807):catO x y k=k:=cond_t (decide_eq_true h)
def u8w (x:Int):UInt8:=UInt8.ofNat (IntKind.u8.wrap x).toNat
def hOn:Hints:=⟨[],[(1,⟨[(3,false),(4,false),(5,false)],[3]⟩)]⟩
def frOn (a n c:Int)(s t:List UInt8)(i:Int):St:=frame 72 [(3,(.ptr 3 0,0)),(4,(.str t,0)),(5,(.int .i64 i,0))] [(3,[(.int .i64 a,0),(.int .i64 n,0),(.int .i64 c,0),(.str s,0)])]
noncomputable def lOn:List (FuncId×PFn):=[(48,p_plain),(51,p_by8)]
noncomputable def onLoop (fu n:Nat)(st:St):Option PV:=loopF (en lOn) hOn fu false Tryz.f30 [1,1,1,0,1,0,1,1,1,1,1,1,1,0,0,1,0] 1 n st
def onBody (a n c:Int)(L:Option PV):Option PV :=
 bif a==1 then catO [u8w a] [u8w n] (some (.str [u8w a,u8w n])) else
 bif a==2 then catO [u8w a] (be8 n) (some (.str (u8w a::be8 n))) else
 bif a==3 then catO [u8w a] [u8w c] (catO [u8w a,u8w c] (be8 n) (some (.str (u8w a::u8w c::be8 n)))) else
 bif a==4 then bif a==4 then L else some (.str [u8w a]) else bif a==5 then L else some (.str [u8w a])
theorem on_raw (fu:Nat)(a n c:Int)(s:List UInt8):prun (en lOn) hOn fu false Tryz.f30 [.agg [.int .i64 a,.int .i64 n,.int .i64 c,.str s]] =
  bif decide (s.length≤1000000) then onBody (bif rightB a n c s then a else 0) (bif rightB a n c s then n else 0) (bif rightB a n c s then c else 0)
   (onLoop fu fu (frOn (bif rightB a n c s then a else 0) (bif rightB a n c s then n else 0) (bif rightB a n c s then c else 0) (bif rightB a n c s then s else []) [u8w (bif rightB a n c s then a else 0)] 0)) else none:=by kernel_rfl
def cut1O {R:Type}(s:List UInt8)(i:Int)(K:List UInt8→Option R):Option R :=
 bif decide (0≤IntKind.i64.wrap (i+1))&&decide (IntKind.i64.wrap (i+1)≤(s.length:Int)) then bif decide (0≤i)&&decide (i≤((IntKind.i64.wrap (i+1)).toNat:Int)) then K ((s.take (IntKind.i64.wrap (i+1)).toNat).drop i.toNat) else none else none
theorem cut1O_eq {R:Type}{s:List UInt8}{i:Nat}{K:List UInt8→Option R}(h:i<s.length)(hs:s.length≤2000000):cut1O s (i:Int) K=K [s[i]]:=by
 unfold cut1O
 rw[wrapI_of (by omega) (by omega),cond_t (by rw[decide_eq_true (by omega),decide_eq_true (by omega)];rfl),cond_t (by rw[decide_eq_true (by omega),decide_eq_true (by omega)];rfl),show ((i:Int)+1).toNat=i+1 by omega,Int.toNat_natCast]
 congr 1
 rw[List.take_add_one,List.getElem?_eq_getElem h,Option.toList_some,List.drop_left' (by rw[List.length_take];omega)]
theorem on_step (fu:Nat)(a n c:Int)(s t:List UInt8)(i:Int)(K:St→Option PV) :
  stepF (en lOn) hOn fu false Tryz.f30 [1,1,1,0,1,0,1,1,1,1,1,1,1,0,0,1,0] (frOn a n c s t i) (fun st=>pnorm (hOn.loop.lookup 1) st K) =
  bif decide (i<(s.length:Int)) then cut1O s i fun y=>catO t y (ixS s i fun d=>bif (d.toNat:Int)==0 then catO (t++y) [255] (K (frOn a n c s (t++y++[255]) (IntKind.i64.wrap (i+1)))) else K (frOn a n c s (t++y) (IntKind.i64.wrap (i+1))))
  else catO t [0,1] (some (.str (t++[0,1]))):=by kernel_rfl
theorem u8_zero (d:UInt8):((d.toNat:Int)==0)=decide (d=0):=by
 rw[Bool.eq_iff_iff]
 simp only[beq_iff_eq,decide_eq_true_eq]
 constructor
 ·intro e;apply UInt8.toNat_inj.1;simp only[UInt8.reduceToNat];omega
 ·intro e;subst e;rfl
theorem on_loop (fu:Nat)(a n c:Int)(s:List UInt8)(hs:s.length≤1000000)(t0:List UInt8)(ht:t0.length≤10):∀ (k i m:Nat),i+k=s.length→k<m →
  onLoop fu m (frOn a n c s (t0++escTo (s.take i)) (i:Int))=some (.str (t0++escTo s++[0,1]))
 |k,i,0,_,h=>by omega
 |0,i,m+1,hi,hn=>by
  unfold onLoop
  have h2:=escTo_length (s.take i)
  rw[List.length_take] at h2
  rw[loopF_succ,on_step,cond_f (decide_eq_false (by omega)),catO_eq (by simp only[List.length_append,List.length_cons,List.length_nil];omega),List.take_of_length_le (by omega)]
 |k+1,i,m+1,hi,hn=>by
  unfold onLoop
  have hil:i<s.length:=by omega
  have hc:=List.getElem?_eq_getElem hil
  have h2:=escTo_length (s.take i)
  rw[List.length_take] at h2
  have ih:=on_loop fu a n c s hs t0 ht k (i+1) m (by omega) (by omega)
  unfold onLoop at ih
  rw[List.take_add_one,hc,Option.toList_some,escTo_append] at ih
  rw[loopF_succ,on_step,cond_t (decide_eq_true (by omega)),cut1O_eq hil (by omega),catO_eq (by simp only[List.length_append,List.length_cons,List.length_nil];omega),ixS_eq hc,u8_zero,wrapI_of (by omega) (by omega)]
  by_cases h0:s[i]=0
  ·rw[decide_eq_true h0,cond_true,catO_eq (by simp only[List.length_append,List.length_cons,List.length_nil];omega)]
   rw[h0] at ih ⊢
   rw[← ih]
   simp[escTo]
  ·rw[decide_eq_false h0,cond_false,← ih]
   simp[escTo,h0]
theorem on_body (fu:Nat)(v:Val)(hr:right v=true)(hs:v.s.length≤1000000)(hf:v.s.length<fu):onBody v.kind v.n v.scale (onLoop fu fu (frOn v.kind v.n v.scale v.s [u8w v.kind] 0))=some (.str (enc0 v)):=by
 have hL:=on_loop fu v.kind v.n v.scale v.s hs [u8w v.kind] (by simp) v.s.length 0 fu (by omega) hf
 rw[show (([u8w v.kind]:List UInt8)++escTo (v.s.take 0))=[u8w v.kind] by simp[escTo],show (((0:Nat):Int))=0 from rfl] at hL
 rw[hL]
 have hb8:=be8_length v.n
 unfold right at hr
 unfold onBody enc0
 split at hr
 ·rename_i hk
  rw[hk];rfl
 split at hr
 ·rename_i hk
  simp only[decide_eq_true_eq] at hr
  rw[hk]
  obtain⟨h,_,_⟩:=hr
  rcases h with h|h<;>rw[h]<;>rfl
 split at hr
 ·rename_i hk
  rw[hk]
  refine (catO_eq (show ([u8w 2]:List UInt8).length+(be8 v.n).length≤_ by rw[hb8];decide)).trans ?_
  rfl
 split at hr
 ·rename_i hk
  simp only[decide_eq_true_eq] at hr
  rw[hk]
  refine (catO_eq (show ([u8w 3]:List UInt8).length+([u8w v.scale]:List UInt8).length≤_ by simp)).trans ((catO_eq (show ([u8w 3,u8w v.scale]:List UInt8).length+(be8 v.n).length≤_ by rw[hb8];simp)).trans ?_)
  have e:u8w v.scale=UInt8.ofNat v.scale.toNat:=by unfold u8w;rw[IntKind.wrap_u8];congr 2;omega
  rw[e];rfl
 split at hr
 ·rename_i hk
  rw[hk];rfl
 split at hr
 ·rename_i hk
  rw[hk];rfl
 ·cases hr
def p_One:PFn:=⟨fun xs k=>match xs with|[.agg [.int .i64 a,.int .i64 n,.int .i64 c,.str s]]=>bif decide (s.length≤1000000) then k (.str (enc ⟨a,n,c,s⟩)) else none|_=>none,false⟩
theorem ok_One:FOK NGk Tabs 30 p_One:=by
 refine fok wokk (allOK_cons ok_plain (allOK_cons ok_by8 allOK_nil)) (h:=hOn) Tryz.func30 rfl (by decide) ?_ ?_
 ·intro R xs k
  simp only[p_One]
  split
  ·exact cond_nat
  ·rfl
 ·intro xs r h
  simp only[p_One] at h
  split at h
  ·rename_i a n c s
   rcases hb:decide (s.length≤1000000) with _|_<;>rw[hb] at h
   ·cases h
   ·refine⟨1000001,(on_raw _ a n c s).trans ?_⟩
    rw[hb,← h,cond_true,cond_true]
    simp only[decide_eq_true_eq] at hb
    have e:=plainA_cs ⟨a,n,c,s⟩
    simp only[V4.cs,List.cons.injEq,PV.int.injEq,true_and,PV.str.injEq,and_true] at e
    obtain⟨e1,e2,e3,e4⟩:=e
    rw[e1,e2,e3,e4]
    have hl:(plain ⟨a,n,c,s⟩).s.length≤1000000:=by unfold plain;split;exact hb;simp[vnull]
    exact on_body 1000001 (plain ⟨a,n,c,s⟩) (right_plain _) hl (by omega)
  ·cases h
theorem valsC_snoc (vs:List Val)(v:Val):valsC vs++V4.cs v=valsC (vs++[v]):=by simp[valsC]
def roomV {R:Type}(l m:Nat)(x:Option R):Option R:=bif decide (l+m≤9223372036854775807)&&decide ((l+m) * 40≤140737488355328) then x else none
theorem roomV_eq {R:Type}{l m:Nat}{x:Option R}(h:l+m≤2000000):roomV l m x=x:=by
 unfold roomV
 exact cond_t (by rw[decide_eq_true (by omega),decide_eq_true (by omega)];rfl)
def oneO {R:Type}(a n c:Int)(s:List UInt8)(K:List UInt8→Option R):Option R:=bif decide (s.length≤1000000) then K (enc ⟨a,n,c,s⟩) else none
def plainO {R:Type}(s:List UInt8)(k:Option R):Option R:=bif decide (s.length≤1000000) then k else none
end Go.Proofs.YtegmldndflfohaaGreatDoor.SC
set_option maxRecDepth 100000
namespace Go.Proofs.YtegmldndflfohaaGreatDoor.SC
open Go.RowKit
abbrev Cel:=Int×Val
def Cel.vs (c:Cel):List Value:=.int .i64 c.1::c.2.cells
def celC (c:Cel):List PV:=.int .i64 c.1::V4.cs c.2
def celsC (l:List Cel):List PV:=l.flatMap celC
theorem celC_len (c:Cel):(celC c).length=5:=rfl
def celG:List PV→Option Cel
 |[.int .i64 j,.int .i64 a,.int .i64 n,.int .i64 c,.str s]=>some (j,⟨a,n,c,s⟩)
 |_=>none
theorem celG_of (c:Cel):celG (celC c)=some c:=rfl
theorem celG_inv (l:List PV)(c:Cel)(h:celG l=some c):l=celC c:=by
 unfold celG at h
 split at h
 ·injection h with h;subst h;rfl
 ·cases h
def colV (l:List Cel)(j:Int):Val :=
 match l with
 |[]=>vnull
 |c::l=>if c.1=j then c.2 else colV l j
end Go.Proofs.YtegmldndflfohaaGreatDoor.SC
set_option maxRecDepth 100000
namespace Go.Proofs.YtegmldndflfohaaGreatDoor.SC
open Go.RowKit
def getC {R:Type}(n:Nat)(c:List PV)(j:Int)(K:Val→Option R):Option R:=(decG 5 celG n c).bind fun l=>bif decide (l.length≤1000000) then K (colV l j) else none
theorem getC_eq {R:Type}{l:List Cel}{j:Int}{K:Val→Option R}(h:l.length≤1000000):getC l.length (celsC l) j K=K (colV l j):=by
 unfold getC
 rw[celsC,decG_of celC_len celG_of]
 exact cond_t (decide_eq_true h)
def valP (v:Val):PV:=.agg [.int .i64 v.kind,.int .i64 v.n,.int .i64 v.scale,.str v.s]
def p_colV:PFn:=⟨fun xs k=>match xs with|[.sl _ 5 n c,.int .i64 j]=>(decG 5 celG n c).bind fun l=>bif decide (l.length≤1000000) then k (valP (colV l j)) else none|_=>none,false⟩
theorem p_colV_nat:p_colV.nat:=by
 intro R xs k
 simp only[p_colV]
 split
 ·exact bindL_nat
 ·rfl
def ixC {R:Type}(len:Nat)(c:List PV)(i:Int)(K:Int→Int→Int→Int→List UInt8→Option R):Option R :=
 bif decide (0≤i)&&decide (i<(len:Int)) then
  ((c.drop (i.toNat * 5)).take 5).head?.bind fun v=>(PV.asInt .i64 v).bind fun j=>((c.drop (i.toNat * 5)).take 5).tail.head?.bind fun v=>(PV.asInt .i64 v).bind fun a =>
  ((c.drop (i.toNat * 5)).take 5).tail.tail.head?.bind fun v=>(PV.asInt .i64 v).bind fun n=>((c.drop (i.toNat * 5)).take 5).tail.tail.tail.head?.bind fun v=>(PV.asInt .i64 v).bind fun b =>
  ((c.drop (i.toNat * 5)).take 5).tail.tail.tail.tail.head?.bind fun v=>v.asStr.bind fun s=>K j a n b s else none
theorem ixC_eq {R:Type}{l:List Cel}{i:Nat}{x:Cel}{K:Int→Int→Int→Int→List UInt8→Option R}(h:l[i]? = some x):ixC l.length (celsC l) (i:Int) K=K x.1 x.2.kind x.2.n x.2.scale x.2.s:=by
 have:=(List.getElem?_eq_some_iff.1 h).1
 unfold ixC
 rw[cond_t (by rw[decide_eq_true (by omega),decide_eq_true (by omega)];rfl),Int.toNat_natCast,celsC,flat_at celC_len h]
 rfl
def hRc:Hints:=⟨[],[(0,⟨[(1,false),(4,false),(7,false),(8,false),(9,false)],[4]⟩)]⟩
def frRc (j:Int)(n0:Option Bool)(l0:Nat)(c0:List PV)(L i:Int):St:=frame 21 [(1,(.int .i64 j,0)),(4,(.ptr 4 0,0)),(7,(.sl n0 5 l0 c0,0)),(8,(.int .i64 L,0)),(9,(.int .i64 i,0))] [(4,[(.int .i64 0,0),(.int .i64 0,0),(.int .i64 0,0),(.str [],0)])]
noncomputable def rcLoop (fu n:Nat)(st:St):Option PV:=loopF (en []) hRc fu false Tryz.f27 [1,0,1,0] 0 n st
theorem rcv_raw (fu:Nat)(n0:Option Bool)(l0:Nat)(c0:List PV)(j:Int):prun (en []) hRc fu false Tryz.f27 [.sl n0 5 l0 c0,.int .i64 j]=rcLoop fu fu (frRc j n0 l0 c0 (l0:Int) 0):=prunN_eq.trans (by kernel_rfl)
theorem rcv_step (fu:Nat)(j:Int)(n0:Option Bool)(l0:Nat)(c0:List PV)(L i:Int)(K:St→Option PV) :
  stepF (en []) hRc fu false Tryz.f27 [1,0,1,0] (frRc j n0 l0 c0 L i) (fun st=>pnorm (hRc.loop.lookup 0) st K) =
  bif decide (i<L) then ixC l0 c0 i fun q a n b s=>bif q==j then some (.agg [.int .i64 a,.int .i64 n,.int .i64 b,.str s]) else K (frRc j n0 l0 c0 L (IntKind.i64.wrap (i+1)))
  else some (.agg [.int .i64 0,.int .i64 0,.int .i64 0,.str []]):=by kernel_rfl
theorem rcv_loop (fu:Nat)(j:Int)(n0:Option Bool)(l:List Cel)(hl:l.length≤1000000):∀ (k i n:Nat),i+k=l.length→k<n→rcLoop fu n (frRc j n0 l.length (celsC l) (l.length:Int) (i:Int))=some (valP (colV (l.drop i) j))
 |k,i,0,_,h=>by omega
 |0,i,n+1,hi,hn=>by
  unfold rcLoop
  rw[loopF_succ,rcv_step,cond_f (decide_eq_false (by omega)),List.drop_of_length_le (by omega)]
  rfl
 |k+1,i,n+1,hi,hn=>by
  unfold rcLoop
  have hc:=List.getElem?_eq_getElem (l:=l) (i:=i) (by omega)
  have ih:=rcv_loop fu j n0 l hl k (i+1) n (by omega) (by omega)
  unfold rcLoop at ih
  rw[loopF_succ,rcv_step,cond_t (decide_eq_true (by omega)),ixC_eq hc,wrapI_of (by omega) (by omega),List.drop_eq_getElem_cons (show i<l.length by omega),colV]
  by_cases hx:l[i].1=j
  ·rw[cond_t (by simpa using hx),if_pos hx];rfl
  ·rw[cond_f (by simpa using hx),if_neg hx]
   exact ih
theorem ok_refGet:FOK NGk Tabs 27 p_colV:=by
 refine fok wokk allOK_nil (h:=hRc) Tryz.func27 rfl (by decide) p_colV_nat ?_
 intro xs r h
 simp only[p_colV] at h
 split at h
 ·rename_i nl n c j
  obtain⟨l,h1,hg,rfl⟩:=bindL_inv h
  obtain⟨rfl,rfl⟩:=decG_inv celG_inv h1
  simp only[decide_eq_true_eq] at hg
  exact⟨l.length+1,(rcv_raw _ nl _ _ j).trans (rcv_loop _ j nl l hg l.length 0 _ (by omega) (by omega))⟩
 ·cases h
def colC (l:List Int):List PV:=l.flatMap fun j=>[.int .i64 j]
def intG:List PV→Option Int
 |[.int .i64 j]=>some j
 |_=>none
theorem intG_inv (l:List PV)(j:Int)(h:intG l=some j):l=[.int .i64 j]:=by
 unfold intG at h
 split at h
 ·injection h with h;subst h;rfl
 ·cases h
def ixI {R:Type}(len:Nat)(c:List PV)(i:Int)(K:Int→Option R):Option R :=
 bif decide (0≤i)&&decide (i<(len:Int)) then ((c.drop (i.toNat * 1)).take 1).head?.bind fun v=>(PV.asInt .i64 v).bind K else none
theorem ixI_eq {R:Type}{l:List Int}{i:Nat}{x:Int}{K:Int→Option R}(h:l[i]? = some x):ixI l.length (colC l) (i:Int) K=K x:=by
 have:=(List.getElem?_eq_some_iff.1 h).1
 unfold ixI
 rw[cond_t (by rw[decide_eq_true (by omega),decide_eq_true (by omega)];rfl),Int.toNat_natCast,colC,flat_at (f:=fun j=>[PV.int .i64 j]) (sz:=1) (fun _=>rfl) h]
 rfl
def hVa:Hints:=⟨[],[(0,⟨[(1,false),(5,true),(9,false),(10,false),(11,false)],[]⟩)]⟩
def frVa (n1:Option Bool)(l1:Nat)(c1:List PV)(n5:Option Bool)(l5:Nat)(c5:List PV)(n9:Option Bool)(l9:Nat)(c9:List PV)(L i:Int):St :=
 frame 23 [(1,(.sl n1 5 l1 c1,0)),(5,(.sl n5 4 l5 c5,30)),(9,(.sl n9 1 l9 c9,0)),(10,(.int .i64 L,0)),(11,(.int .i64 i,0))] []
def vaBody (l1:Nat)(c1:List PV)(n5:Option Bool)(l5:Nat)(c5:List PV)(l9:Nat)(c9:List PV)(L i:Int)(G:Option Bool→Nat→List PV→Int→Option PV):Option PV :=
 bif decide (i<L) then ixI l9 c9 i fun j=>getC l1 c1 j fun v=>roomV l5 1 (G (n5.map (· && false)) (l5+1) (c5++V4.cs v) (IntKind.i64.wrap (i+1))) else some (.sl n5 4 l5 c5)
def valsOf (cols:List Int)(l:List Cel):List Val:=cols.map (colV l)
noncomputable def lVr:List (FuncId×PFn):=[(27,p_colV)]
noncomputable def vrLoop (own:Bool)(fu n:Nat)(st:St):Option PV:=loopF (en lVr) hVa fu own Tryz.f10 [1,1,0,1,0] 0 n st
theorem vr_raw (fu:Nat)(x0:Int)(x1:List UInt8)(n9:Option Bool)(l9:Nat)(c9:List PV)(x3:Bool)(x4:Int)(n1:Option Bool)(l1:Nat)(c1:List PV) :
  prun (en lVr) hVa fu true Tryz.f10 [.agg [.int .i64 x0,.str x1,.sl n9 1 l9 c9,.bool x3,.int .i64 x4],.sl n1 5 l1 c1]=vrLoop true fu fu (frVa n1 l1 c1 (some true) 0 [] n9 l9 c9 (l9:Int) 0):=prunN_eq.trans (by kernel_rfl)
theorem vr_step (fu:Nat)(n1:Option Bool)(l1:Nat)(c1:List PV)(n5:Option Bool)(l5:Nat)(c5:List PV)(n9:Option Bool)(l9:Nat)(c9:List PV)(L i:Int)(K:St→Option PV) :
  stepF (en lVr) hVa fu true Tryz.f10 [1,1,0,1,0] (frVa n1 l1 c1 n5 l5 c5 n9 l9 c9 L i) (fun st=>pnorm (hVa.loop.lookup 0) st K)=vaBody l1 c1 n5 l5 c5 l9 c9 L i (fun a b c d=>K (frVa n1 l1 c1 a b c n9 l9 c9 L d)):=by kernel_rfl
theorem va_loop (F:Nat→St→Option PV)(n1:Option Bool)(cels:List Cel)(hcl:cels.length≤1000000)(n9:Option Bool)(cols:List Int)(hco:cols.length≤1000000)
  (hF:∀ n n5 l5 c5 (i:Int),F (n+1) (frVa n1 cels.length (celsC cels) n5 l5 c5 n9 cols.length (colC cols) (cols.length:Int) i)=vaBody cels.length (celsC cels) n5 l5 c5 cols.length (colC cols) (cols.length:Int) i (fun a b c d=>F n (frVa n1 cels.length (celsC cels) a b c n9 cols.length (colC cols) (cols.length:Int) d))) :
  ∀ (k i n:Nat),i+k=cols.length→k<n→F n (frVa n1 cels.length (celsC cels) (some ((cols.take i).isEmpty)) i (valsC (valsOf (cols.take i) cels)) n9 cols.length (colC cols) (cols.length:Int) (i:Int)) =
   some (.sl (some cols.isEmpty) 4 cols.length (valsC (valsOf cols cels)))
 |k,i,0,_,h=>by omega
 |0,i,n+1,hi,hn=>by
  rw[hF]
  unfold vaBody
  rw[cond_f (decide_eq_false (by omega)),List.take_of_length_le (by omega),show i=cols.length by omega]
 |k+1,i,n+1,hi,hn=>by
  have hc:=List.getElem?_eq_getElem (l:=cols) (i:=i) (by omega)
  have ih:=va_loop F n1 cels hcl n9 cols hco hF k (i+1) n (by omega) (by omega)
  have e:valsOf (cols.take (i+1)) cels=valsOf (cols.take i) cels++[colV cels cols[i]]:=by
   unfold valsOf
   rw[List.take_add_one,hc,List.map_append];rfl
  have e2:(cols.take (i+1)).isEmpty=false:=by
   rw[List.take_add_one,hc]
   cases cols.take i<;>rfl
  rw[e,e2,← valsC_snoc] at ih
  rw[hF]
  unfold vaBody
  rw[cond_t (decide_eq_true (by omega)),ixI_eq hc,getC_eq hcl,roomV_eq (by omega),wrapI_of (by omega) (by omega)]
  simp only[Option.map_some,Bool.and_false]
  exact ih
def valsK (n9:Nat)(c9:List PV)(n1:Nat)(c1:List PV):Option (List Int×List Cel):=(decG 1 intG n9 c9).bind fun cols=>(decG 5 celG n1 c1).bind fun l=>if cols.length≤1000000∧l.length≤1000000 then some (cols,l) else none
def valsR (p:List Int×List Cel):PV:=.sl (some p.1.isEmpty) 4 p.1.length (valsC (valsOf p.1 p.2))
def f_Values {R:Type}(xs:List PV)(k:PV→Option R):Option R:=match xs with|[.agg [.int .i64 _,.str _,.sl _ 1 n9 c9,.bool _,.int .i64 _],.sl _ 5 n1 c1]=>(valsK n9 c9 n1 c1).bind fun p=>k (valsR p)|_=>none
def p_Values:PFn:=⟨f_Values,false⟩
def p_ValuesO:PFn:=⟨f_Values,true⟩
theorem f_Values_nat:p_Values.nat:=by
 intro R xs k
 simp only[p_Values,f_Values]
 split
 ·cases valsK _ _ _ _<;>rfl
 ·rfl
theorem valsK_inv {n9:Nat}{c9:List PV}{n1:Nat}{c1:List PV}{p:List Int×List Cel}(h:valsK n9 c9 n1 c1=some p):n9=p.1.length∧c9=colC p.1∧n1=p.2.length∧c1=celsC p.2∧p.1.length≤1000000∧p.2.length≤1000000:=by
 unfold valsK at h
 obtain⟨cols,h1,h⟩:=Option.bind_eq_some_iff.1 h
 obtain⟨l,h2,h⟩:=Option.bind_eq_some_iff.1 h
 split at h
 ·rename_i hl
  injection h with h
  subst h
  obtain⟨e1,e2⟩:=decG_inv intG_inv h1
  obtain⟨e3,e4⟩:=decG_inv celG_inv h2
  exact⟨e1,e2,e3,e4,hl⟩
 ·cases h
theorem ok_ValuesO (hr:FOK NGk Tabs 27 p_colV):FOK NGk Tabs 10 p_ValuesO:=by
 refine fok wokk (allOK_cons hr allOK_nil) (h:=hVa) Tryz.func10 rfl (by decide) f_Values_nat ?_
 intro xs r h
 simp only[p_ValuesO,f_Values] at h
 split at h
 ·rename_i x0 x1 n9 l9 c9 x3 x4 n1 l1 c1
  obtain⟨p,h1,h2⟩:=Option.bind_eq_some_iff.1 h
  injection h2 with h2
  subst h2
  obtain⟨rfl,rfl,rfl,rfl,g1,g2⟩:=valsK_inv h1
  refine⟨p.1.length+1,(vr_raw _ x0 x1 n9 _ _ x3 x4 n1 _ _).trans ?_⟩
  exact va_loop (fun n st=>vrLoop true (p.1.length+1) n st) n1 p.2 g2 n9 p.1 g1 (fun n n5 l5 c5 i=>by unfold vrLoop;rw[loopF_succ,vr_step]) p.1.length 0 _ (by omega) (by omega)
 ·cases h
theorem fok_noown {NG:Nat}{W:World→Prop}{f:FuncId}{p:PFn}(hp:FOK NG W f p):FOK NG W f ⟨p.F,false⟩ where
 nat:=hp.nat
 call:=by
  intro M xs vs r hW hng hg hr hF
  have k:=hp.call M xs vs r hW hng hg hr hF
  refine k.imp ?_ ?_
  ·rintro ⟨v,w',h1,U',h2,h3,_⟩
   exact⟨v,w',h1,U',h2,h3,fun e=>by cases e⟩
  ·rintro ⟨h0,h1⟩
   refine⟨h0,h1.mono ?_⟩
   rintro e w' ⟨v,h2,U',h3,h4,_⟩
   exact⟨v,h2,U',h3,h4,fun e=>by cases e⟩
theorem ok_Values (hr:FOK NGk Tabs 27 p_colV):FOK NGk Tabs 10 p_Values:=fok_noown (ok_ValuesO hr)
end Go.Proofs.YtegmldndflfohaaGreatDoor.SC
set_option maxRecDepth 100000
namespace Go.Proofs.YtegmldndflfohaaGreatDoor.SC
open Go.RowKit
theorem valsK_of {cols:List Int}{l:List Cel}(h1:cols.length≤1000000)(h2:l.length≤1000000):valsK cols.length (colC cols) l.length (celsC l)=some (cols,l):=by
 unfold valsK
 rw[colC,decG_of (f:=fun j=>[PV.int .i64 j]) (sz:=1) (fun _=>rfl) (fun _=>rfl),celsC,decG_of celC_len celG_of]
 exact if_pos ⟨h1,h2⟩
def hSm:Hints:=⟨[],[(2,⟨[(10,false),(11,false),(12,false),(21,false),(22,false),(23,false)],[]⟩),(0,⟨[(10,false),(11,false),(12,false)],[]⟩)]⟩
end Go.Proofs.YtegmldndflfohaaGreatDoor.SC
set_option maxRecDepth 100000
namespace Go.Proofs.YtegmldndflfohaaGreatDoor.SC
open Go.RowKit
end Go.Proofs.YtegmldndflfohaaGreatDoor.SC
set_option maxRecDepth 100000
namespace Go.Proofs.YtegmldndflfohaaGreatDoor.SC
open Go.RowKit
abbrev Rw:=Int×Option Bool×List Cel
def rwC (r:Rw):List PV:=[.int .i64 r.1,.sl r.2.1 5 r.2.2.length (celsC r.2.2)]
def rwG:List PV→Option Rw
 |[.int .i64 i,.sl nl 5 n c]=>(decG 5 celG n c).map fun l=>(i,nl,l)
 |_=>none
theorem rwG_of (r:Rw):rwG (rwC r)=some r:=by
 obtain⟨i,nl,l⟩:=r
 show (decG 5 celG l.length (celsC l)).map _=_
 rw[celsC,decG_of celC_len celG_of];rfl
theorem rwG_inv (c:List PV)(r:Rw)(h:rwG c=some r):c=rwC r:=by
 unfold rwG at h
 split at h
 ·obtain⟨l,h1,rfl⟩:=Option.map_eq_some_iff.1 h
  obtain⟨rfl,rfl⟩:=decG_inv celG_inv h1
  rfl
 ·cases h
theorem rwC_len (r:Rw):(rwC r).length=2:=rfl
def ixR {R:Type}(len:Nat)(c:List PV)(i:Int)(K:Option Bool→Nat→List PV→Option R):Option R :=
 bif decide (0≤i)&&decide (i<(len:Int)) then ((c.drop (i.toNat * 2)).take 2).head?.bind fun v=>(PV.asInt .i64 v).bind fun _=>((c.drop (i.toNat * 2)).take 2).tail.head?.bind fun v=>(PV.asSl 5 v).bind fun v=>K v.1 v.2.1 v.2.2 else none
theorem ixR_eq {R:Type}{rs:List Rw}{i:Nat}{r:Rw}{K:Option Bool→Nat→List PV→Option R}(h:rs[i]? = some r):ixR rs.length (rs.flatMap rwC) (i:Int) K=K r.2.1 r.2.2.length (celsC r.2.2):=by
 have:=(List.getElem?_eq_some_iff.1 h).1
 unfold ixR
 rw[cond_t (by rw[decide_eq_true (by omega),decide_eq_true (by omega)];rfl),Int.toNat_natCast,flat_at rwC_len h]
 rfl
def frSo (n0:Option Bool)(l0:Nat)(c0:List PV)(L i:Int):St:=frame 34 [(10,(.sl n0 2 l0 c0,0)),(11,(.int .i64 L,0)),(12,(.int .i64 i,0))] []
def frSi (n0:Option Bool)(l0:Nat)(c0:List PV)(L i:Int)(n1:Option Bool)(l1:Nat)(c1:List PV)(M j:Int):St :=
 frame 34 [(10,(.sl n0 2 l0 c0,0)),(11,(.int .i64 L,0)),(12,(.int .i64 i,0)),(21,(.sl n1 5 l1 c1,0)),(22,(.int .i64 M,0)),(23,(.int .i64 j,0))] []
noncomputable def smLoop (fu n:Nat)(st:St):Option PV:=loopF (en []) hSm fu false Tryz.f8 [1,1,0,1,0] 0 n st
noncomputable def siLoop (fu:Nat)(K:St→Option PV)(n:Nat)(st:St):Option PV:=loopP (en []) hSm fu false Tryz.f8 (fun st=>pnorm (hSm.loop.lookup 0) st K) [1,1,0,1,0,0,1,1,0,0,1,1,1,0] 2 n st
theorem sm_raw (fu:Nat)(n0:Option Bool)(l0:Nat)(c0:List PV):prun (en []) hSm fu false Tryz.f8 [.sl n0 2 l0 c0]=bif decide (60<(l0:Int)) then some (.bool false) else smLoop fu fu (frSo n0 l0 c0 (l0:Int) 0):=prunN_eq.trans (by kernel_rfl)
theorem sm_step (fu:Nat)(n0:Option Bool)(l0:Nat)(c0:List PV)(L i:Int)(K:St→Option PV) :
  stepF (en []) hSm fu false Tryz.f8 [1,1,0,1,0] (frSo n0 l0 c0 L i) (fun st=>pnorm (hSm.loop.lookup 0) st K) =
  bif decide (i<L) then ixR l0 c0 i fun nl n c=>bif decide (20<(n:Int)) then some (.bool false) else siLoop fu K fu (frSi n0 l0 c0 L i nl n c (n:Int) 0) else some (.bool true):=(stepF_eq (by kernel_rfl)).trans (by kernel_rfl)
theorem si_step (fu:Nat)(n0:Option Bool)(l0:Nat)(c0:List PV)(L i:Int)(n1:Option Bool)(l1:Nat)(c1:List PV)(M j:Int)(K K2:St→Option PV) :
  stepP (en []) hSm fu false Tryz.f8 [1,1,0,1,0,0,1,1,0,0,1,1,1,0] (fun st=>pnorm (hSm.loop.lookup 0) st K) (frSi n0 l0 c0 L i n1 l1 c1 M j) (fun st=>pnorm (hSm.loop.lookup 2) st K2) =
  bif decide (j<M) then ixC l1 c1 j fun _ _ _ _ s=>bif decide (250<(s.length:Int)) then some (.bool false) else K2 (frSi n0 l0 c0 L i n1 l1 c1 M (IntKind.i64.wrap (j+1)))
  else K (frSo n0 l0 c0 L (IntKind.i64.wrap (i+1))):=(stepP_eq (by kernel_rfl)).trans (by kernel_rfl)
def celSm (c:Cel):Bool:=decide (c.2.s.length≤250)
theorem si_loop (fu:Nat)(K:St→Option PV)(n0:Option Bool)(l0:Nat)(c0:List PV)(L:Int)(i:Int)(n1:Option Bool)(l:List Cel)(hl:l.length≤1000000):∀ (k j n:Nat),j+k=l.length→k<n →
  siLoop fu K n (frSi n0 l0 c0 L i n1 l.length (celsC l) (l.length:Int) (j:Int))=bif (l.drop j).all celSm then K (frSo n0 l0 c0 L (IntKind.i64.wrap (i+1))) else some (.bool false)
 |k,j,0,_,h=>by omega
 |0,j,n+1,hj,hn=>by
  unfold siLoop
  rw[loopP_succ,si_step,cond_f (decide_eq_false (by omega)),List.drop_of_length_le (by omega)]
  rfl
 |k+1,j,n+1,hj,hn=>by
  have ih:=si_loop fu K n0 l0 c0 L i n1 l hl k (j+1) n (by omega) (by omega)
  have hc:=List.getElem?_eq_getElem (l:=l) (i:=j) (by omega)
  unfold siLoop at ih ⊢
  rw[loopP_succ,si_step,cond_t (decide_eq_true (by omega)),ixC_eq hc,wrapI_of (x:=(j:Int)+1) (by omega) (by omega),List.drop_eq_getElem_cons (show j<l.length by omega),List.all_cons]
  by_cases hx:250<l[j].2.s.length
  ·rw[cond_t (decide_eq_true (by omega)),show celSm l[j]=false from decide_eq_false (by omega)]
   rfl
  ·rw[cond_f (decide_eq_false (by omega)),show celSm l[j]=true from decide_eq_true (by omega),Bool.true_and]
   exact ih
def rwSm (r:Rw):Bool:=decide (r.2.2.length≤20)&&r.2.2.all celSm
theorem sm_loop (fu:Nat)(hfu:21<fu)(n0:Option Bool)(rs:List Rw)(hl:rs.length≤1000000):∀ (k i n:Nat),i+k=rs.length→k<n →
  smLoop fu n (frSo n0 rs.length (rs.flatMap rwC) (rs.length:Int) (i:Int))=some (.bool ((rs.drop i).all rwSm))
 |k,i,0,_,h=>by omega
 |0,i,n+1,hi,hn=>by
  unfold smLoop
  rw[loopF_succ,sm_step,cond_f (decide_eq_false (by omega)),List.drop_of_length_le (by omega)]
  rfl
 |k+1,i,n+1,hi,hn=>by
  have ih:=sm_loop fu hfu n0 rs hl k (i+1) n (by omega) (by omega)
  have hc:=List.getElem?_eq_getElem (l:=rs) (i:=i) (by omega)
  unfold smLoop at ih ⊢
  rw[loopF_succ,sm_step,cond_t (decide_eq_true (by omega)),ixR_eq hc,List.drop_eq_getElem_cons (show i<rs.length by omega),List.all_cons]
  by_cases h20:20<rs[i].2.2.length
  ·rw[cond_t (decide_eq_true (by omega)),show rwSm rs[i]=false by unfold rwSm;rw[decide_eq_false (by omega)];rfl]
   rfl
  ·rw[cond_f (decide_eq_false (by omega))]
   have:=si_loop fu (loopF (en []) hSm fu false Tryz.f8 [1,1,0,1,0] 0 n) n0 rs.length (rs.flatMap rwC) (rs.length:Int) (i:Int) rs[i].2.1 rs[i].2.2 (by omega) rs[i].2.2.length 0 fu (by omega) (by omega)
   rw[List.drop_zero] at this
   refine Eq.trans this ?_
   rw[show rwSm rs[i]=rs[i].2.2.all celSm by unfold rwSm;rw[decide_eq_true (by omega),Bool.true_and]]
   cases rs[i].2.2.all celSm
   ·rfl
   ·rw[cond_true,Bool.true_and,wrapI_of (by omega) (by omega)]
    exact ih
def smS (rs:List Rw):Bool:=decide (rs.length≤60)&&rs.all rwSm
def p_Small:PFn:=⟨fun xs k=>match xs with|[.sl _ 2 n c]=>(decG 2 rwG n c).bind fun rs=>bif decide (rs.length≤1000000) then k (.bool (smS rs)) else none|_=>none,false⟩
theorem ok_Small:FOK NGk Tabs 8 p_Small:=by
 refine fok wokk allOK_nil (h:=hSm) Tryz.func8 rfl (by decide) ?_ ?_
 ·intro R xs k
  simp only[p_Small]
  split
  ·exact bindL_nat
  ·rfl
 ·intro xs r h
  simp only[p_Small] at h
  split at h
  ·rename_i nl n c
   obtain⟨rs,h1,hg,rfl⟩:=bindL_inv h
   obtain⟨rfl,rfl⟩:=decG_inv rwG_inv h1
   simp only[decide_eq_true_eq] at hg
   refine⟨rs.length+30,(sm_raw _ nl _ _).trans ?_⟩
   unfold smS
   by_cases h60:60<rs.length
   ·rw[cond_t (decide_eq_true (by omega)),decide_eq_false (by omega)];rfl
   ·rw[cond_f (decide_eq_false (by omega)),decide_eq_true (by omega),Bool.true_and]
    exact sm_loop _ (by omega) nl rs hg rs.length 0 _ (by omega) (by omega)
  ·cases h
end Go.Proofs.YtegmldndflfohaaGreatDoor.SC
set_option maxRecDepth 100000
namespace Go.Proofs.YtegmldndflfohaaGreatDoor.SC
open Go.RowKit
end Go.Proofs.YtegmldndflfohaaGreatDoor.SC
set_option maxRecDepth 100000
namespace Go.Proofs.YtegmldndflfohaaGreatDoor.SC
open Go.ChangeShapes Go.WideShapes Go.ChangeAt Go.RowKit Go.Deep
instance:Inhabited Cel:=⟨(0,vnull)⟩
end Go.Proofs.YtegmldndflfohaaGreatDoor.SC
end
section
set_option maxRecDepth 100000
namespace Go.Proofs.YtegmldndflfohaaGreatDoor.SC
open Go.RowKit
structure Col where
 id:Int
 name:List UInt8
 tk:Int
 ts:Int
 nn:Bool
 d:Val
 st:Int
def colC' (c:Col):List PV:=[.int .i64 c.id,.str c.name,.int .i64 c.tk,.int .i64 c.ts,.bool c.nn,.int .i64 c.d.kind,.int .i64 c.d.n,.int .i64 c.d.scale,.str c.d.s,.int .i64 c.st]
def colG:List PV→Option Col
 |[.int .i64 a,.str s,.int .i64 b,.int .i64 e,.bool n,.int .i64 k,.int .i64 m,.int .i64 sc,.str t,.int .i64 st]=>some ⟨a,s,b,e,n,⟨k,m,sc,t⟩,st⟩
 |_=>none
theorem colG_of (c:Col):colG (colC' c)=some c:=rfl
theorem colG_inv (l:List PV)(c:Col)(h:colG l=some c):l=colC' c:=by
 unfold colG at h
 split at h
 ·injection h with h;subst h;rfl
 ·cases h
structure Idx where
 id:Int
 name:List UInt8
 nl:Option Bool
 cols:List Int
 u:Bool
 st:Int
def idxC (x:Idx):List PV:=[.int .i64 x.id,.str x.name,.sl x.nl 1 x.cols.length (colC x.cols),.bool x.u,.int .i64 x.st]
def idxG:List PV→Option Idx
 |[.int .i64 a,.str s,.sl nl 1 n c,.bool u,.int .i64 st]=>(decG 1 intG n c).map fun l=>⟨a,s,nl,l,u,st⟩
 |_=>none
theorem idxG_of (x:Idx):idxG (idxC x)=some x:=by
 show (decG 1 intG x.cols.length (colC x.cols)).map _=_
 rw[colC,decG_of (f:=fun j=>[PV.int .i64 j]) (sz:=1) (fun _=>rfl) (fun _=>rfl)]
 rfl
theorem idxG_inv (l:List PV)(x:Idx)(h:idxG l=some x):l=idxC x:=by
 unfold idxG at h
 split at h
 ·obtain⟨c,h1,rfl⟩:=Option.map_eq_some_iff.1 h
  obtain⟨rfl,rfl⟩:=decG_inv intG_inv h1
  rfl
 ·cases h
structure Tbl where
 id:Int
 name:List UInt8
 nc:Option Bool
 cols:List Col
 ni:Option Bool
 idx:List Idx
def tblC (t:Tbl):List PV:=[.int .i64 t.id,.str t.name,.sl t.nc 10 t.cols.length (t.cols.flatMap colC'),.sl t.ni 5 t.idx.length (t.idx.flatMap idxC)]
def tblG:List PV→Option Tbl
 |[.int .i64 a,.str s,.sl nc 10 n c,.sl ni 5 m d]=>(decG 10 colG n c).bind fun cs=>(decG 5 idxG m d).map fun xs=>⟨a,s,nc,cs,ni,xs⟩
 |_=>none
theorem colC_len (c:Col):(colC' c).length=10:=rfl
theorem idxC_len (x:Idx):(idxC x).length=5:=rfl
theorem tblC_len (t:Tbl):(tblC t).length=4:=rfl
theorem tblG_of (t:Tbl):tblG (tblC t)=some t:=by
 show (decG 10 colG t.cols.length (t.cols.flatMap colC')).bind (fun cs=>(decG 5 idxG t.idx.length (t.idx.flatMap idxC)).map _)=_
 rw[decG_of colC_len colG_of,decG_of idxC_len idxG_of]
 rfl
theorem tblG_inv (l:List PV)(t:Tbl)(h:tblG l=some t):l=tblC t:=by
 unfold tblG at h
 split at h
 ·obtain⟨cs,h1,h⟩:=Option.bind_eq_some_iff.1 h
  obtain⟨xs,h2,rfl⟩:=Option.map_eq_some_iff.1 h
  obtain⟨rfl,rfl⟩:=decG_inv colG_inv h1
  obtain⟨rfl,rfl⟩:=decG_inv idxG_inv h2
  rfl
 ·cases h
def tblsC (l:List Tbl):List PV:=l.flatMap tblC
def atE {R:Type}(sz:Nat)(n:Nat)(c:List PV)(i:Int)(K:List PV→Option R):Option R:=bif decide (0≤i)&&decide (i<(n:Int)) then K ((c.drop (i.toNat * sz)).take sz) else none
theorem atE_eq {R α:Type}{f:α→List PV}{sz:Nat}(hf:∀ x,(f x).length=sz){l:List α}{i:Nat}{x:α}(h:l[i]? = some x){K:List PV→Option R}:atE sz l.length (l.flatMap f) (i:Int) K=K (f x):=by
 have:=(List.getElem?_eq_some_iff.1 h).1
 unfold atE
 rw[cond_t (by rw[decide_eq_true (by omega),decide_eq_true (by omega)];rfl),Int.toNat_natCast,flat_at hf h]
def f1 {R:Type}(c:List PV)(K:PV→List PV→Option R):Option R:=c.head?.bind fun v=>K v c.tail
def tblE {R:Type}(c:List PV)(K:Int→List UInt8→Option Bool→Nat→List PV→Option Bool→Nat→List PV→Option R):Option R :=
 c.head?.bind fun v=>(PV.asInt .i64 v).bind fun a=>c.tail.head?.bind fun v=>v.asStr.bind fun s=>c.tail.tail.head?.bind fun v=>(PV.asSl 10 v).bind fun p=>c.tail.tail.tail.head?.bind fun v=>(PV.asSl 5 v).bind fun q=>K a s p.1 p.2.1 p.2.2 q.1 q.2.1 q.2.2
theorem tblE_eq {R:Type}(t:Tbl)(K:Int→List UInt8→Option Bool→Nat→List PV→Option Bool→Nat→List PV→Option R):tblE (tblC t) K=K t.id t.name t.nc t.cols.length (t.cols.flatMap colC') t.ni t.idx.length (t.idx.flatMap idxC):=rfl
def colE {R:Type}(c:List PV)(K:Int→List UInt8→Int→Int→Bool→Int→Int→Int→List UInt8→Int→Option R):Option R :=
 c.head?.bind fun v=>(PV.asInt .i64 v).bind fun a=>c.tail.head?.bind fun v=>v.asStr.bind fun s=>c.tail.tail.head?.bind fun v=>(PV.asInt .i64 v).bind fun tk=>c.tail.tail.tail.head?.bind fun v=>(PV.asInt .i64 v).bind fun ts =>
 c.tail.tail.tail.tail.head?.bind fun v=>v.asBool.bind fun nn=>c.tail.tail.tail.tail.tail.head?.bind fun v=>(PV.asInt .i64 v).bind fun k=>c.tail.tail.tail.tail.tail.tail.head?.bind fun v=>(PV.asInt .i64 v).bind fun m=>c.tail.tail.tail.tail.tail.tail.tail.head?.bind fun v=>(PV.asInt .i64 v).bind fun sc =>
 c.tail.tail.tail.tail.tail.tail.tail.tail.head?.bind fun v=>v.asStr.bind fun t=>c.tail.tail.tail.tail.tail.tail.tail.tail.tail.head?.bind fun v=>(PV.asInt .i64 v).bind fun st=>K a s tk ts nn k m sc t st
theorem colE_eq {R:Type}(c:Col)(K:Int→List UInt8→Int→Int→Bool→Int→Int→Int→List UInt8→Int→Option R):colE (colC' c) K=K c.id c.name c.tk c.ts c.nn c.d.kind c.d.n c.d.scale c.d.s c.st:=rfl
def idxE {R:Type}(c:List PV)(K:Int→List UInt8→Option Bool→Nat→List PV→Bool→Int→Option R):Option R :=
 c.head?.bind fun v=>(PV.asInt .i64 v).bind fun a=>c.tail.head?.bind fun v=>v.asStr.bind fun s=>c.tail.tail.head?.bind fun v=>(PV.asSl 1 v).bind fun p=>c.tail.tail.tail.head?.bind fun v=>v.asBool.bind fun u=>c.tail.tail.tail.tail.head?.bind fun v=>(PV.asInt .i64 v).bind fun st=>K a s p.1 p.2.1 p.2.2 u st
theorem idxE_eq {R:Type}(x:Idx)(K:Int→List UInt8→Option Bool→Nat→List PV→Bool→Int→Option R):idxE (idxC x) K=K x.id x.name x.nl x.cols.length (colC x.cols) x.u x.st:=rfl
def hS12:Hints:=⟨[],[(4,⟨[(14,false),(15,false),(16,false),(56,false),(57,false),(58,false)],[]⟩),(2,⟨[(4,false),(14,false),(15,false),(16,false),(37,false),(38,false),(39,false)],[4]⟩),(0,⟨[(14,false),(15,false),(16,false)],[]⟩)]⟩
def frT (n0:Option Bool)(l0:Nat)(c0:List PV)(L i:Int):St:=frame 74 [(14,(.sl n0 4 l0 c0,0)),(15,(.int .i64 L,0)),(16,(.int .i64 i,0))] []
def frTc (n0:Option Bool)(l0:Nat)(c0:List PV)(L i:Int)(a:Int)(s:List UInt8)(nc:Option Bool)(lc:Nat)(cc:List PV)(ni:Option Bool)(li:Nat)(ci:List PV)(M j:Int):St :=
 frame 74 [(4,(.ptr 4 0,0)),(14,(.sl n0 4 l0 c0,0)),(15,(.int .i64 L,0)),(16,(.int .i64 i,0)),(37,(.sl nc 10 lc cc,0)),(38,(.int .i64 M,0)),(39,(.int .i64 j,0))] [(4,[(.int .i64 a,0),(.str s,0),(.sl nc 10 lc cc,0),(.sl ni 5 li ci,0)])]
def frTi (n0:Option Bool)(l0:Nat)(c0:List PV)(L i:Int)(ni:Option Bool)(li:Nat)(ci:List PV)(M j:Int):St :=
 frame 74 [(14,(.sl n0 4 l0 c0,0)),(15,(.int .i64 L,0)),(16,(.int .i64 i,0)),(56,(.sl ni 5 li ci,0)),(57,(.int .i64 M,0)),(58,(.int .i64 j,0))] []
noncomputable def fS12:Func:=Tryz.f5
noncomputable def s12L (fu n:Nat)(st:St):Option PV:=loopF (en []) hS12 fu false fS12 [1,1,0,1,0] 0 n st
noncomputable def s12C (fu:Nat)(K:St→Option PV)(n:Nat)(st:St):Option PV:=loopP (en []) hS12 fu false fS12 (fun st=>pnorm (hS12.loop.lookup 0) st K) [1,1,0,1,0,0,1,1,0,0,1,1,0,1,0] 2 n st
noncomputable def s12I (fu:Nat)(K:St→Option PV)(n:Nat)(st:St):Option PV:=loopP (en []) hS12 fu false fS12 (fun st=>pnorm (hS12.loop.lookup 0) st K) [1,1,0,1,0,0,1,1,0,0,1,1,1,1,0] 4 n st
theorem s12_raw (fu:Nat)(v w:Int)(n0:Option Bool)(l0:Nat)(c0:List PV):prun (en []) hS12 fu false fS12 [.agg [.int .i64 v,.int .i64 w,.sl n0 4 l0 c0]]=bif decide (20<(l0:Int)) then some (.bool false) else s12L fu fu (frT n0 l0 c0 (l0:Int) 0):=prunN_eq.trans (by kernel_rfl)
theorem s12_step (fu:Nat)(n0:Option Bool)(l0:Nat)(c0:List PV)(L i:Int)(K:St→Option PV) :
  stepF (en []) hS12 fu false fS12 [1,1,0,1,0] (frT n0 l0 c0 L i) (fun st=>pnorm (hS12.loop.lookup 0) st K) =
  bif decide (i<L) then atE 4 l0 c0 i fun e=>tblE e fun a s nc lc cc ni li ci=>bif bif bif decide (100<(s.length:Int)) then true else decide (20<(lc:Int)) then true else decide (20<(li:Int)) then some (.bool false)
   else s12C fu K fu (frTc n0 l0 c0 L i a s nc lc cc ni li ci (lc:Int) 0)
  else some (.bool true):=(stepF_eq (by kernel_rfl)).trans (by kernel_rfl)
theorem s12c_step (fu:Nat)(n0:Option Bool)(l0:Nat)(c0:List PV)(L i:Int)(a:Int)(s:List UInt8)(nc:Option Bool)(lc:Nat)(cc:List PV)(ni:Option Bool)(li:Nat)(ci:List PV)(M j:Int)(K K2:St→Option PV) :
  stepP (en []) hS12 fu false fS12 [1,1,0,1,0,0,1,1,0,0,1,1,0,1,0] (fun st=>pnorm (hS12.loop.lookup 0) st K) (frTc n0 l0 c0 L i a s nc lc cc ni li ci M j) (fun st=>pnorm (hS12.loop.lookup 2) st K2) =
  bif decide (j<M) then atE 10 lc cc j fun e=>colE e fun _ s2 _ _ _ _ _ _ t _=>bif bif decide (100<(s2.length:Int)) then true else decide (300<(t.length:Int)) then some (.bool false) else K2 (frTc n0 l0 c0 L i a s nc lc cc ni li ci M (IntKind.i64.wrap (j+1)))
  else s12I fu K fu (frTi n0 l0 c0 L i ni li ci (li:Int) 0):=(stepP_eq (by kernel_rfl)).trans (by kernel_rfl)
theorem s12i_step (fu:Nat)(n0:Option Bool)(l0:Nat)(c0:List PV)(L i:Int)(ni:Option Bool)(li:Nat)(ci:List PV)(M j:Int)(K K2:St→Option PV) :
  stepP (en []) hS12 fu false fS12 [1,1,0,1,0,0,1,1,0,0,1,1,1,1,0] (fun st=>pnorm (hS12.loop.lookup 0) st K) (frTi n0 l0 c0 L i ni li ci M j) (fun st=>pnorm (hS12.loop.lookup 4) st K2) =
  bif decide (j<M) then atE 5 li ci j fun e=>idxE e fun _ s2 _ lx _ _ _=>bif bif decide (100<(s2.length:Int)) then true else decide (20<(lx:Int)) then some (.bool false) else K2 (frTi n0 l0 c0 L i ni li ci M (IntKind.i64.wrap (j+1)))
  else K (frT n0 l0 c0 L (IntKind.i64.wrap (i+1))):=(stepP_eq (by kernel_rfl)).trans (by kernel_rfl)
def colSm (c:Col):Bool:=!(bif decide (100<(c.name.length:Int)) then true else decide (300<(c.d.s.length:Int)))
def idxSm (x:Idx):Bool:=!(bif decide (100<(x.name.length:Int)) then true else decide (20<(x.cols.length:Int)))
def tblH (t:Tbl):Bool:=!(bif bif decide (100<(t.name.length:Int)) then true else decide (20<(t.cols.length:Int)) then true else decide (20<(t.idx.length:Int)))
def tblSm (t:Tbl):Bool:=tblH t&&(t.cols.all colSm&&t.idx.all idxSm)
theorem tblH_len {t:Tbl}(h:tblH t=true):t.name.length≤100∧t.cols.length≤20∧t.idx.length≤20:=by
 unfold tblH at h
 by_cases h1:100<(t.name.length:Int)
 ·rw[decide_eq_true h1] at h;cases h
 ·rw[decide_eq_false h1,cond_false] at h
  by_cases h2:20<(t.cols.length:Int)
  ·rw[decide_eq_true h2] at h;cases h
  ·rw[decide_eq_false h2,cond_false] at h
   by_cases h3:20<(t.idx.length:Int)
   ·rw[decide_eq_true h3] at h;cases h
   ·omega
theorem s12i_loop (fu:Nat)(K:St→Option PV)(n0:Option Bool)(l0:Nat)(c0:List PV)(L i:Int)(ni:Option Bool)(xs:List Idx)(hl:xs.length≤1000):∀ (k j n:Nat),j+k=xs.length→k<n →
  s12I fu K n (frTi n0 l0 c0 L i ni xs.length (xs.flatMap idxC) (xs.length:Int) (j:Int))=bif (xs.drop j).all idxSm then K (frT n0 l0 c0 L (IntKind.i64.wrap (i+1))) else some (.bool false)
 |k,j,0,_,h=>by omega
 |0,j,n+1,hj,hn=>by
  unfold s12I
  rw[loopP_succ,s12i_step,cond_f (decide_eq_false (by omega)),List.drop_of_length_le (by omega)]
  rfl
 |k+1,j,n+1,hj,hn=>by
  have ih:=s12i_loop fu K n0 l0 c0 L i ni xs hl k (j+1) n (by omega) (by omega)
  have hc:=List.getElem?_eq_getElem (l:=xs) (i:=j) (by omega)
  unfold s12I at ih ⊢
  rw[loopP_succ,s12i_step,cond_t (decide_eq_true (by omega)),atE_eq idxC_len hc,idxE_eq,wrapI_of (x:=(j:Int)+1) (by omega) (by omega),List.drop_eq_getElem_cons (show j<xs.length by omega),List.all_cons]
  unfold idxSm at ih ⊢
  cases (bif decide (100<(xs[j].name.length:Int)) then true else decide (20<(xs[j].cols.length:Int)))
  ·exact ih
  ·rfl
theorem s12c_loop (fu:Nat)(hfu:1001<fu)(K:St→Option PV)(n0:Option Bool)(l0:Nat)(c0:List PV)(L i a:Int)(s:List UInt8)(nc:Option Bool)(cs:List Col)(hl:cs.length≤1000)(ni:Option Bool)(xs:List Idx)(hx:xs.length≤1000):∀ (k j n:Nat),j+k=cs.length→k<n →
  s12C fu K n (frTc n0 l0 c0 L i a s nc cs.length (cs.flatMap colC') ni xs.length (xs.flatMap idxC) (cs.length:Int) (j:Int))=bif (cs.drop j).all colSm&&xs.all idxSm then K (frT n0 l0 c0 L (IntKind.i64.wrap (i+1))) else some (.bool false)
 |k,j,0,_,h=>by omega
 |0,j,n+1,hj,hn=>by
  unfold s12C
  rw[loopP_succ,s12c_step,cond_f (decide_eq_false (by omega)),List.drop_of_length_le (by omega)]
  exact s12i_loop fu _ n0 l0 c0 L i ni xs hx xs.length 0 fu (by omega) (by omega)
 |k+1,j,n+1,hj,hn=>by
  have ih:=s12c_loop fu hfu K n0 l0 c0 L i a s nc cs hl ni xs hx k (j+1) n (by omega) (by omega)
  have hc:=List.getElem?_eq_getElem (l:=cs) (i:=j) (by omega)
  unfold s12C at ih ⊢
  rw[loopP_succ,s12c_step,cond_t (decide_eq_true (by omega)),atE_eq colC_len hc,colE_eq,wrapI_of (x:=(j:Int)+1) (by omega) (by omega),List.drop_eq_getElem_cons (show j<cs.length by omega),List.all_cons]
  unfold colSm at ih ⊢
  cases (bif decide (100<(cs[j].name.length:Int)) then true else decide (300<(cs[j].d.s.length:Int)))
  ·exact ih
  ·rfl
theorem s12_loop (fu:Nat)(hfu:1001<fu)(n0:Option Bool)(ts:List Tbl)(hl:ts.length≤1000000):∀ (k i n:Nat),i+k=ts.length→k<n→s12L fu n (frT n0 ts.length (ts.flatMap tblC) (ts.length:Int) (i:Int))=some (.bool ((ts.drop i).all tblSm))
 |k,i,0,_,h=>by omega
 |0,i,n+1,hi,hn=>by
  unfold s12L
  rw[loopF_succ,s12_step,cond_f (decide_eq_false (by omega)),List.drop_of_length_le (by omega)]
  rfl
 |k+1,i,n+1,hi,hn=>by
  have ih:=s12_loop fu hfu n0 ts hl k (i+1) n (by omega) (by omega)
  have hc:=List.getElem?_eq_getElem (l:=ts) (i:=i) (by omega)
  unfold s12L at ih ⊢
  rw[loopF_succ,s12_step,cond_t (decide_eq_true (by omega)),atE_eq tblC_len hc,tblE_eq,List.drop_eq_getElem_cons (show i<ts.length by omega),List.all_cons]
  have hh:tblSm ts[i]=(tblH ts[i]&&(ts[i].cols.all colSm&&ts[i].idx.all idxSm)):=rfl
  rw[hh]
  rcases h1:tblH ts[i] with _|_
  ·have h2:=h1
   unfold tblH at h2
   rw[Bool.not_eq_false'] at h2
   rw[h2]
   rfl
  ·obtain⟨_,g1,g2⟩:=tblH_len h1
   unfold tblH at h1
   rw[Bool.not_eq_true'] at h1
   rw[h1,cond_false]
   refine (s12c_loop fu hfu _ n0 ts.length (ts.flatMap tblC) (ts.length:Int) (i:Int) _ _ _ ts[i].cols (by omega) _ ts[i].idx (by omega) ts[i].cols.length 0 fu (by omega) (by omega)).trans ?_
   rw[List.drop_zero,wrapI_of (by omega) (by omega)]
   cases (ts[i].cols.all colSm&&ts[i].idx.all idxSm)
   ·rfl
   ·exact ih
def s12S (ts:List Tbl):Bool:=decide (ts.length≤20)&&ts.all tblSm
def p_S12:PFn:=⟨fun xs k=>match xs with|[.agg [.int .i64 _,.int .i64 _,.sl _ 4 n c]]=>(decG 4 tblG n c).bind fun ts=>bif decide (0≤ts.length) then k (.bool (s12S ts)) else none|_=>none,false⟩
theorem ok_S12:FOK NGk Tabs 5 p_S12:=by
 refine fok wokk allOK_nil (h:=hS12) Tryz.func5 rfl (by decide) ?_ ?_
 ·intro R xs k
  simp only[p_S12]
  split
  ·exact bindL_nat
  ·rfl
 ·intro xs r h
  simp only[p_S12] at h
  split at h
  ·rename_i v w nl n c
   obtain⟨ts,h1,hg,rfl⟩:=bindL_inv h
   obtain⟨rfl,rfl⟩:=decG_inv tblG_inv h1
   refine⟨ts.length+1010,(s12_raw _ v w nl _ _).trans ?_⟩
   unfold s12S
   by_cases h20:20<ts.length
   ·rw[cond_t (decide_eq_true (by omega)),decide_eq_false (by omega)];rfl
   ·rw[cond_f (decide_eq_false (by omega)),decide_eq_true (by omega),Bool.true_and]
    exact s12_loop _ (by omega) nl ts (by omega) ts.length 0 _ (by omega) (by omega)
  ·cases h
def hPv:Hints:=⟨[],[(0,⟨[(1,false),(5,true),(9,false),(10,false),(11,false)],[]⟩)]⟩
def frPv (n1:Option Bool)(l1:Nat)(c1:List PV)(n5:Option Bool)(l5:Nat)(c5:List PV)(n9:Option Bool)(l9:Nat)(c9:List PV)(L i:Int):St :=
 frame 27 [(1,(.sl n1 5 l1 c1,0)),(5,(.sl n5 4 l5 c5,34)),(9,(.sl n9 10 l9 c9,0)),(10,(.int .i64 L,0)),(11,(.int .i64 i,0))] []
def pvBody (l1:Nat)(c1:List PV)(n5:Option Bool)(l5:Nat)(c5:List PV)(l9:Nat)(c9:List PV)(L i:Int)(G:Option Bool→Nat→List PV→Int→Option PV):Option PV :=
 bif decide (i<L) then atE 10 l9 c9 i fun e=>colE e fun id _ _ _ _ _ _ _ _ st=>bif st==3 then getC l1 c1 id fun v=>roomV l5 1 (G (n5.map (· && false)) (l5+1) (c5++V4.cs v) (IntKind.i64.wrap (i+1))) else G n5 l5 c5 (IntKind.i64.wrap (i+1)) else some (.sl n5 4 l5 c5)
noncomputable def pvL2 (fu n:Nat)(st:St):Option PV:=loopF (en lVr) hPv fu false Tryz.f15 [1,1,0,1,0] 0 n st
theorem pv2_raw (fu:Nat)(a:Int)(s:List UInt8)(n9:Option Bool)(l9:Nat)(c9:List PV)(ni:Option Bool)(li:Nat)(ci:List PV)(n1:Option Bool)(l1:Nat)(c1:List PV) :
  prun (en lVr) hPv fu false Tryz.f15 [.agg [.int .i64 a,.str s,.sl n9 10 l9 c9,.sl ni 5 li ci],.sl n1 5 l1 c1]=pvL2 fu fu (frPv n1 l1 c1 (some true) 0 [] n9 l9 c9 (l9:Int) 0):=prunN_eq.trans (by kernel_rfl)
theorem pv2_step (fu:Nat)(n1:Option Bool)(l1:Nat)(c1:List PV)(n5:Option Bool)(l5:Nat)(c5:List PV)(n9:Option Bool)(l9:Nat)(c9:List PV)(L i:Int)(K:St→Option PV) :
  stepF (en lVr) hPv fu false Tryz.f15 [1,1,0,1,0] (frPv n1 l1 c1 n5 l5 c5 n9 l9 c9 L i) (fun st=>pnorm (hPv.loop.lookup 0) st K)=pvBody l1 c1 n5 l5 c5 l9 c9 L i (fun a b c d=>K (frPv n1 l1 c1 a b c n9 l9 c9 L d)):=by kernel_rfl
def pubI (cs:List Col):List Int:=(cs.filter fun c=>c.st==3).map (·.id)
theorem pubI_snoc (cs:List Col)(c:Col):pubI (cs++[c])=if c.st=3 then pubI cs++[c.id] else pubI cs:=by
 unfold pubI
 rw[List.filter_append,List.map_append]
 by_cases h:c.st=3
 ·rw[if_pos h,List.filter_cons_of_pos (by simpa using h)];rfl
 ·rw[if_neg h,List.filter_cons_of_neg (by simpa using h)];simp
theorem pubI_len (cs:List Col):(pubI cs).length≤cs.length:=by
 unfold pubI
 rw[List.length_map]
 exact List.length_filter_le _ _
def slV (vs:List Val):PV:=.sl (some vs.isEmpty) 4 vs.length (valsC vs)
theorem pv_loop (F:Nat→St→Option PV)(n1:Option Bool)(cels:List Cel)(hcl:cels.length≤1000000)(n9:Option Bool)(cs:List Col)(hco:cs.length≤1000000)
  (hF:∀ n n5 l5 c5 (i:Int),F (n+1) (frPv n1 cels.length (celsC cels) n5 l5 c5 n9 cs.length (cs.flatMap colC') (cs.length:Int) i)=pvBody cels.length (celsC cels) n5 l5 c5 cs.length (cs.flatMap colC') (cs.length:Int) i (fun a b c d=>F n (frPv n1 cels.length (celsC cels) a b c n9 cs.length (cs.flatMap colC') (cs.length:Int) d))) :
  ∀ (k i n:Nat) (vs:List Val),vs=valsOf (pubI (cs.take i)) cels→i+k=cs.length→k<n→F n (frPv n1 cels.length (celsC cels) (some vs.isEmpty) vs.length (valsC vs) n9 cs.length (cs.flatMap colC') (cs.length:Int) (i:Int))=some (slV (valsOf (pubI cs) cels))
 |k,i,0,vs,hv,_,h=>by omega
 |0,i,n+1,vs,hv,hi,hn=>by
  rw[hF]
  unfold pvBody
  rw[cond_f (decide_eq_false (by omega)),hv,List.take_of_length_le (by omega)]
  rfl
 |k+1,i,n+1,vs,hv,hi,hn=>by
  have hc:=List.getElem?_eq_getElem (l:=cs) (i:=i) (by omega)
  have hlen:vs.length≤i:=by
   rw[hv]
   unfold valsOf
   rw[List.length_map]
   refine Nat.le_trans (pubI_len _) ?_
   rw[List.length_take]
   omega
  have et:cs.take (i+1)=cs.take i++[cs[i]]:=by rw[List.take_add_one,hc];rfl
  have ep:=pubI_snoc (cs.take i) cs[i]
  rw[← et] at ep
  rw[hF]
  unfold pvBody
  rw[cond_t (decide_eq_true (by omega)),atE_eq colC_len hc,colE_eq,wrapI_of (by omega) (by omega)]
  by_cases h3:cs[i].st=3
  ·rw[cond_t (by simpa using h3),getC_eq hcl,roomV_eq (by omega),valsC_snoc]
   rw[if_pos h3] at ep
   have ih:=pv_loop F n1 cels hcl n9 cs hco hF k (i+1) n (vs++[colV cels cs[i].id]) (by rw[ep,hv];unfold valsOf;rw[List.map_append];rfl) (by omega) (by omega)
   have e2:(vs++[colV cels cs[i].id]).isEmpty=false:=by cases vs<;>rfl
   rw[e2,List.length_append] at ih
   simp only[Option.map_some,Bool.and_false]
   exact ih
  ·rw[cond_f (by simpa using h3)]
   rw[if_neg h3] at ep
   exact pv_loop F n1 cels hcl n9 cs hco hF k (i+1) n vs (by rw[ep];exact hv) (by omega) (by omega)
def pubK (n9:Nat)(c9:List PV)(n1:Nat)(c1:List PV):Option (List Col×List Cel):=(decG 10 colG n9 c9).bind fun cs=>(decG 5 celG n1 c1).bind fun l=>if cs.length≤1000000∧l.length≤1000000 then some (cs,l) else none
theorem pubK_inv {n9:Nat}{c9:List PV}{n1:Nat}{c1:List PV}{p:List Col×List Cel}(h:pubK n9 c9 n1 c1=some p):n9=p.1.length∧c9=p.1.flatMap colC'∧n1=p.2.length∧c1=celsC p.2∧p.1.length≤1000000∧p.2.length≤1000000:=by
 unfold pubK at h
 obtain⟨cols,h1,h⟩:=Option.bind_eq_some_iff.1 h
 obtain⟨l,h2,h⟩:=Option.bind_eq_some_iff.1 h
 split at h
 ·rename_i hl
  injection h with h
  subst h
  obtain⟨e1,e2⟩:=decG_inv colG_inv h1
  obtain⟨e3,e4⟩:=decG_inv celG_inv h2
  exact⟨e1,e2,e3,e4,hl⟩
 ·cases h
theorem pubK_of {cs:List Col}{l:List Cel}(h1:cs.length≤1000000)(h2:l.length≤1000000):pubK cs.length (cs.flatMap colC') l.length (celsC l)=some (cs,l):=by
 unfold pubK
 rw[decG_of colC_len colG_of,celsC,decG_of celC_len celG_of]
 exact if_pos ⟨h1,h2⟩
def p_Pub:PFn:=⟨fun xs k=>match xs with|[.agg [.int .i64 _,.str _,.sl _ 10 n9 c9,.sl _ 5 _ _],.sl _ 5 n1 c1]=>(pubK n9 c9 n1 c1).bind fun p=>k (slV (valsOf (pubI p.1) p.2))|_=>none,false⟩
theorem p_Pub_nat:p_Pub.nat:=by
 intro R xs k
 simp only[p_Pub]
 split
 ·cases pubK _ _ _ _<;>rfl
 ·rfl
theorem ok_Pub2:FOK NGk Tabs 15 p_Pub:=by
 refine fok wokk (allOK_cons ok_refGet allOK_nil) (h:=hPv) Tryz.func15 rfl (by decide) p_Pub_nat ?_
 intro xs r h
 simp only[p_Pub] at h
 split at h
 ·rename_i a s n9 l9 c9 ni li ci n1 l1 c1
  obtain⟨p,h1,h2⟩:=Option.bind_eq_some_iff.1 h
  obtain⟨rfl,rfl,rfl,rfl,g1,g2⟩:=pubK_inv h1
  refine⟨p.1.length+1,((pv2_raw _ a s n9 _ _ ni li ci n1 _ _).trans ?_).trans h2⟩
  exact pv_loop (fun n st=>pvL2 (p.1.length+1) n st) n1 p.2 g2 n9 p.1 g1 (fun n n5 l5 c5 i=>by unfold pvL2;rw[loopF_succ,pv2_step]) p.1.length 0 _ [] rfl (by omega) (by omega)
 ·cases h
def s12O {R:Type}(n:Nat)(c:List PV)(K:Bool→Option R):Option R:=(decG 4 tblG n c).bind fun ts=>bif decide (0≤ts.length) then K (s12S ts) else none
end Go.Proofs.YtegmldndflfohaaGreatDoor.SC
end
section
set_option maxRecDepth 100000
namespace Go.Proofs.YtegmldndflfohaaGreatDoor.SC
open Go.ChangeShapes Go.WideShapes Go.ChangeAt Go.RowKit Go.Deep
def inR (n:Int):Prop:=-9223372036854775808≤n∧n≤9223372036854775807
structure Scm where
 ver:Int
 next:Int
 nt:Option Bool
 tbls:List Tbl
def scmC (s:Scm):List PV:=[.int .i64 s.ver,.int .i64 s.next,.sl s.nt 4 s.tbls.length (tblsC s.tbls)]
structure Rng where
 ne:Option Bool
 eq:List Val
 nlo:Option Bool
 lo:List Val
 lout:Bool
 nhi:Option Bool
 hi:List Val
 hout:Bool
def rngC (r:Rng):List PV:=[.sl r.ne 4 r.eq.length (valsC r.eq),.sl r.nlo 4 r.lo.length (valsC r.lo),.bool r.lout,.sl r.nhi 4 r.hi.length (valsC r.hi),.bool r.hout]
def typC (t:Int×Int):List PV:=[.int .i64 t.1,.int .i64 t.2]
def PVal (v:Val):Prop:=inR v.kind∧inR v.n∧inR v.scale
def PTyp (t:Int×Int):Prop:=inR t.1∧inR t.2
def PCel (c:Cel):Prop:=inR c.1∧PVal c.2
def PRw (r:Rw):Prop:=inR r.1∧∀ c∈r.2.2,PCel c
def PIdx (x:Idx):Prop:=inR x.id∧(∀ c∈x.cols,inR c)∧inR x.st
def PCol (c:Col):Prop:=inR c.id∧PTyp (c.tk,c.ts)∧PVal c.d∧inR c.st
def PTbl (t:Tbl):Prop:=inR t.id∧(∀ c∈t.cols,PCol c)∧∀ x∈t.idx,PIdx x
def PScm (s:Scm):Prop:=inR s.ver∧inR s.next∧∀ t∈s.tbls,PTbl t
def ArgU (w:World)(p:PV)(v:Value):Prop:=∃ B:Nat,∀ U:Nat→Nat,(∀ b,B≤U b)→RelD (memU w U) p v
def ArgsU (w:World)(ps:List PV)(vs:List Value):Prop:=∃ B:Nat,∀ U:Nat→Nat,(∀ b,B≤U b)→RelT (memU w U) ps vs
theorem ArgsU.nil {w:World}:ArgsU w [] []:=⟨0,fun _ _=>rfl⟩
theorem ArgsU.cons {w:World}{p:PV}{v:Value}{ps:List PV}{vs:List Value}(h:ArgU w p v)(k:ArgsU w ps vs):ArgsU w (p::ps) (v::vs):=by
 obtain⟨A,h⟩:=h
 obtain⟨B,k⟩:=k
 exact⟨max A B,fun U hU=>⟨_,_,rfl,h U fun b=>Nat.le_trans (Nat.le_max_left _ _) (hU b),k U fun b=>Nat.le_trans (Nat.le_max_right _ _) (hU b)⟩⟩
theorem relU1 {w:World}{p:PV}{v:Value}(h1:v.oneCell'=true)(h:ArgU w p v):RelU w [p] [v]:=by
 obtain⟨B,h⟩:=h
 refine⟨B,fun U hU=>?_⟩
 simp only[RelL]
 exact⟨_,_,rfl,h1,h U hU,rfl⟩
theorem argS {w:World}{p:PV}{v:Value}(h:∀ M,RelD M p v):ArgU w p v:=⟨0,fun U _=>h _⟩
theorem law_runA {NG:Nat}{W:World→Prop}(hW:WOK NG W){l:List (FuncId×PFn)}(hl:AllOK NG W l){f:FuncId}{fn:Func}(hf:Tryz.prog.funcs[f]? = some fn){h:Hints}{w:World}{xs:List PV}{vs:List Value}
  (hw:W w) (hng:NG≤w.heap.size) (hr:ArgsU w xs vs) (hrun:∃ fuel,prun (en l) h fuel false fn xs=some (.bool true)) :
  Calls Tryz.prog f vs.toArray w fun e w'=>e=.returned (.bool true)∧Below w.heap.size w w':=by
 obtain⟨B,hB⟩:=hr
 obtain⟨fuel,hrun⟩:=hrun
 exact law_runU hW hl hf (U:=fun _=>B) hw hng (hB _ fun _=>Nat.le_refl _) hrun
section
variable {H:Type} {enc:TypeId × Value→H} {w:World} {base:Nat} {sp:Nat→Bool} {held:Bool}
theorem int_tr {t:TypeId}(ht:Tryz.prog.underlying t=some (.int .i64)){n:Nat}{v:Value}{x:DataW H×List MemPlace}(h:DataW.trod enc Tryz.prog w base sp held n t [v]=some x):∃ a:Int,inR a∧RelU w [.int .i64 a] [v]:=by
 obtain⟨a,e,_,hb⟩:=DataW.trod_int ht h
 obtain rfl:=List.head_eq_of_cons_eq e
 exact⟨a,bounds_i64 hb,relU1 rfl (argS fun M=>by simp only[RelD])⟩
theorem str_tr {t:TypeId}(ht:Tryz.prog.underlying t=some .string){n:Nat}{v:Value}{x:DataW H×List MemPlace}(h:DataW.trod enc Tryz.prog w base sp held n t [v]=some x):∃ s:List UInt8,RelU w [.str s] [v]:=by
 obtain⟨s,e,_,_⟩:=DataW.trod_string ht h
 obtain rfl:=List.head_eq_of_cons_eq e
 exact⟨s.data.toList,relU1 rfl (argS fun M=>by simp only[RelD])⟩
theorem bool_tr {t:TypeId}(ht:Tryz.prog.underlying t=some .bool){n:Nat}{v:Value}{x:DataW H×List MemPlace}(h:DataW.trod enc Tryz.prog w base sp held n t [v]=some x):∃ b:Bool,RelU w [.bool b] [v]:=by
 obtain⟨b,e,_⟩:=DataW.trod_bool ht h
 obtain rfl:=List.head_eq_of_cons_eq e
 exact⟨b,relU1 rfl (argS fun M=>by simp only[RelD])⟩
theorem sl_tr {t e:TypeId}{α:Type}{f:α→List PV}{Pa:α→Prop}{size n:Nat}{v:Value}{x:DataW H×List MemPlace}(hs0:0<size)(ht:Tryz.prog.underlying t=some (.slice e))(hsz:Tryz.prog.cellsOf e=size)(hf:∀ x,(f x).length=size)
  (he:∀ n cs' y,DataW.trod enc Tryz.prog w base sp held n e cs'=some y→∃ x,Pa x∧RelU w (f x) cs') (h:DataW.trod enc Tryz.prog w base sp held n t [v]=some x):∃ l:List α,(∀ x∈l,Pa x)∧v.oneCell'=true∧ArgU w (.sl none size l.length (l.flatMap f)) v:=by
 obtain⟨A,c,l,e,wl,B,hB⟩:=open_slR hs0 ht hsz hf (fun n cs' y _ h=>he n cs' y h) h
 obtain rfl:=List.head_eq_of_cons_eq e
 exact⟨l,wl,rfl,B,hB⟩
theorem ints_tr {t e:TypeId}{n:Nat}{v:Value}{x:DataW H×List MemPlace}(ht:Tryz.prog.underlying t=some (.slice e))(he:Tryz.prog.underlying e=some (.int .i64))(hsz:Tryz.prog.cellsOf e=1)(h:DataW.trod enc Tryz.prog w base sp held n t [v]=some x):∃ l:List Int,(∀ x∈l,inR x)∧v.oneCell'=true∧ArgU w (.sl none 1 l.length (colC l)) v :=
 sl_tr (f:=fun j=>[.int .i64 j]) (by omega) ht hsz (fun _=>rfl) (fun n cs' y h=>by
  obtain⟨a,e,_,hb⟩:=DataW.trod_int he h
  subst e
  exact⟨a,bounds_i64 hb,relU1 rfl (argS fun M=>by simp only[RelD])⟩) h
theorem Val_tr {fuel:Nat}{cs:List Value}{x:DataW H×List MemPlace}(h:DataW.trod enc Tryz.prog w base sp held fuel 68 cs=some x):∃ x:Val,PVal x∧RelU w (V4.cs x) cs:=by
 obtain⟨xs,k,_,_,hl,hxl,hf⟩:=DataW.trod_struct Tryz.underlying68 h
 rw[show Tryz.prog.cellsOf 68=4 by kernel_rfl] at hl
 match cs,hl with
 |[v0,v1,v2,v3],_ =>
  match xs,hxl with
  |[y0,y1,y2,y3],_ =>
   have g0:DataW.trod enc Tryz.prog w base sp held k 64 [v0]=some y0:=hf 0 _ rfl
   obtain⟨a0,p0,r0⟩:=int_tr (by kernel_rfl) g0
   have g1:DataW.trod enc Tryz.prog w base sp held k 3 [v1]=some y1:=hf 1 _ rfl
   obtain⟨a1,p1,r1⟩:=int_tr (by kernel_rfl) g1
   have g2:DataW.trod enc Tryz.prog w base sp held k 3 [v2]=some y2:=hf 2 _ rfl
   obtain⟨a2,p2,r2⟩:=int_tr (by kernel_rfl) g2
   have g3:DataW.trod enc Tryz.prog w base sp held k 9 [v3]=some y3:=hf 3 _ rfl
   obtain⟨a3,r3⟩:=str_tr (by kernel_rfl) g3
   exact⟨⟨a0,a1,a2,a3⟩,⟨p0,p1,p2⟩,(r0.append (r1.append (r2.append r3)))⟩
theorem Typ_tr {fuel:Nat}{cs:List Value}{x:DataW H×List MemPlace}(h:DataW.trod enc Tryz.prog w base sp held fuel 66 cs=some x):∃ x:(Int×Int),PTyp x∧RelU w (typC x) cs:=by
 obtain⟨xs,k,_,_,hl,hxl,hf⟩:=DataW.trod_struct Tryz.underlying66 h
 rw[show Tryz.prog.cellsOf 66=2 by kernel_rfl] at hl
 match cs,hl with
 |[v0,v1],_ =>
  match xs,hxl with
  |[y0,y1],_ =>
   have g0:DataW.trod enc Tryz.prog w base sp held k 64 [v0]=some y0:=hf 0 _ rfl
   obtain⟨a0,p0,r0⟩:=int_tr (by kernel_rfl) g0
   have g1:DataW.trod enc Tryz.prog w base sp held k 3 [v1]=some y1:=hf 1 _ rfl
   obtain⟨a1,p1,r1⟩:=int_tr (by kernel_rfl) g1
   exact⟨(a0,a1),⟨p0,p1⟩,(r0.append r1)⟩
theorem Cel_tr {fuel:Nat}{cs:List Value}{x:DataW H×List MemPlace}(h:DataW.trod enc Tryz.prog w base sp held fuel 80 cs=some x):∃ x:Cel,PCel x∧RelU w (celC x) cs:=by
 obtain⟨xs,k,_,_,hl,hxl,hf⟩:=DataW.trod_struct Tryz.underlying80 h
 rw[show Tryz.prog.cellsOf 80=5 by kernel_rfl] at hl
 match cs,hl with
 |[v0,v1,v2,v3,v4],_ =>
  match xs,hxl with
  |[y0,y1],_ =>
   have g0:DataW.trod enc Tryz.prog w base sp held k 3 [v0]=some y0:=hf 0 _ rfl
   obtain⟨a0,p0,r0⟩:=int_tr (by kernel_rfl) g0
   have g1:DataW.trod enc Tryz.prog w base sp held k 68 [v1,v2,v3,v4]=some y1:=hf 1 _ rfl
   obtain⟨a1,p1,r1⟩:=Val_tr g1
   exact⟨(a0,a1),⟨p0,p1⟩,(r0.append r1)⟩
theorem Rw_tr {fuel:Nat}{cs:List Value}{x:DataW H×List MemPlace}(h:DataW.trod enc Tryz.prog w base sp held fuel 53 cs=some x):∃ x:Rw,PRw x∧RelU w (rwC x) cs:=by
 obtain⟨xs,k,_,_,hl,hxl,hf⟩:=DataW.trod_struct Tryz.underlying53 h
 rw[show Tryz.prog.cellsOf 53=2 by kernel_rfl] at hl
 match cs,hl with
 |[v0,v1],_ =>
  match xs,hxl with
  |[y0,y1],_ =>
   have g0:DataW.trod enc Tryz.prog w base sp held k 3 [v0]=some y0:=hf 0 _ rfl
   obtain⟨a0,p0,r0⟩:=int_tr (by kernel_rfl) g0
   have g1:DataW.trod enc Tryz.prog w base sp held k 51 [v1]=some y1:=hf 1 _ rfl
   obtain⟨a1,p1,u1,r1'⟩:=sl_tr (f:=celC) (Pa:=PCel) (size:=5) (by omega) Tryz.underlying51 (by kernel_rfl) (celC_len) (fun n cs' y h=>Cel_tr h) g1
   have r1:=relU1 u1 r1'
   exact⟨(a0,none,a1),⟨p0,p1⟩,(r0.append r1)⟩
theorem Idx_tr {fuel:Nat}{cs:List Value}{x:DataW H×List MemPlace}(h:DataW.trod enc Tryz.prog w base sp held fuel 50 cs=some x):∃ x:Idx,PIdx x∧RelU w (idxC x) cs:=by
 obtain⟨xs,k,_,_,hl,hxl,hf⟩:=DataW.trod_struct Tryz.underlying50 h
 rw[show Tryz.prog.cellsOf 50=5 by kernel_rfl] at hl
 match cs,hl with
 |[v0,v1,v2,v3,v4],_ =>
  match xs,hxl with
  |[y0,y1,y2,y3,y4],_ =>
   have g0:DataW.trod enc Tryz.prog w base sp held k 3 [v0]=some y0:=hf 0 _ rfl
   obtain⟨a0,p0,r0⟩:=int_tr (by kernel_rfl) g0
   have g1:DataW.trod enc Tryz.prog w base sp held k 9 [v1]=some y1:=hf 1 _ rfl
   obtain⟨a1,r1⟩:=str_tr (by kernel_rfl) g1
   have g2:DataW.trod enc Tryz.prog w base sp held k 25 [v2]=some y2:=hf 2 _ rfl
   obtain⟨a2,p2,u2,r2'⟩:=ints_tr Tryz.underlying25 (by kernel_rfl) (by kernel_rfl) g2
   have r2:=relU1 u2 r2'
   have g3:DataW.trod enc Tryz.prog w base sp held k 4 [v3]=some y3:=hf 3 _ rfl
   obtain⟨a3,r3⟩:=bool_tr (by kernel_rfl) g3
   have g4:DataW.trod enc Tryz.prog w base sp held k 48 [v4]=some y4:=hf 4 _ rfl
   obtain⟨a4,p4,r4⟩:=int_tr (by kernel_rfl) g4
   exact⟨⟨a0,a1,none,a2,a3,a4⟩,⟨p0,p2,p4⟩,(r0.append (r1.append (r2.append (r3.append r4))))⟩
theorem Col_tr {fuel:Nat}{cs:List Value}{x:DataW H×List MemPlace}(h:DataW.trod enc Tryz.prog w base sp held fuel 70 cs=some x):∃ x:Col,PCol x∧RelU w (colC' x) cs:=by
 obtain⟨xs,k,_,_,hl,hxl,hf⟩:=DataW.trod_struct Tryz.underlying70 h
 rw[show Tryz.prog.cellsOf 70=10 by kernel_rfl] at hl
 match cs,hl with
 |[v0,v1,v2,v3,v4,v5,v6,v7,v8,v9],_ =>
  match xs,hxl with
  |[y0,y1,y2,y3,y4,y5],_ =>
   have g0:DataW.trod enc Tryz.prog w base sp held k 3 [v0]=some y0:=hf 0 _ rfl
   obtain⟨a0,p0,r0⟩:=int_tr (by kernel_rfl) g0
   have g1:DataW.trod enc Tryz.prog w base sp held k 9 [v1]=some y1:=hf 1 _ rfl
   obtain⟨a1,r1⟩:=str_tr (by kernel_rfl) g1
   have g2:DataW.trod enc Tryz.prog w base sp held k 66 [v2,v3]=some y2:=hf 2 _ rfl
   obtain⟨a2,p2,r2⟩:=Typ_tr g2
   have g3:DataW.trod enc Tryz.prog w base sp held k 4 [v4]=some y3:=hf 3 _ rfl
   obtain⟨a3,r3⟩:=bool_tr (by kernel_rfl) g3
   have g4:DataW.trod enc Tryz.prog w base sp held k 68 [v5,v6,v7,v8]=some y4:=hf 4 _ rfl
   obtain⟨a4,p4,r4⟩:=Val_tr g4
   have g5:DataW.trod enc Tryz.prog w base sp held k 48 [v9]=some y5:=hf 5 _ rfl
   obtain⟨a5,p5,r5⟩:=int_tr (by kernel_rfl) g5
   exact⟨⟨a0,a1,a2.1,a2.2,a3,a4,a5⟩,⟨p0,p2,p4,p5⟩,(r0.append (r1.append (r2.append (r3.append (r4.append r5)))))⟩
theorem Tbl_tr {fuel:Nat}{cs:List Value}{x:DataW H×List MemPlace}(h:DataW.trod enc Tryz.prog w base sp held fuel 47 cs=some x):∃ x:Tbl,PTbl x∧RelU w (tblC x) cs:=by
 obtain⟨xs,k,_,_,hl,hxl,hf⟩:=DataW.trod_struct Tryz.underlying47 h
 rw[show Tryz.prog.cellsOf 47=4 by kernel_rfl] at hl
 match cs,hl with
 |[v0,v1,v2,v3],_ =>
  match xs,hxl with
  |[y0,y1,y2,y3],_ =>
   have g0:DataW.trod enc Tryz.prog w base sp held k 3 [v0]=some y0:=hf 0 _ rfl
   obtain⟨a0,p0,r0⟩:=int_tr (by kernel_rfl) g0
   have g1:DataW.trod enc Tryz.prog w base sp held k 9 [v1]=some y1:=hf 1 _ rfl
   obtain⟨a1,r1⟩:=str_tr (by kernel_rfl) g1
   have g2:DataW.trod enc Tryz.prog w base sp held k 44 [v2]=some y2:=hf 2 _ rfl
   obtain⟨a2,p2,u2,r2'⟩:=sl_tr (f:=colC') (Pa:=PCol) (size:=10) (by omega) Tryz.underlying44 (by kernel_rfl) (colC_len) (fun n cs' y h=>Col_tr h) g2
   have r2:=relU1 u2 r2'
   have g3:DataW.trod enc Tryz.prog w base sp held k 45 [v3]=some y3:=hf 3 _ rfl
   obtain⟨a3,p3,u3,r3'⟩:=sl_tr (f:=idxC) (Pa:=PIdx) (size:=5) (by omega) Tryz.underlying45 (by kernel_rfl) (idxC_len) (fun n cs' y h=>Idx_tr h) g3
   have r3:=relU1 u3 r3'
   exact⟨⟨a0,a1,none,a2,none,a3⟩,⟨p0,p2,p3⟩,(r0.append (r1.append (r2.append r3)))⟩
theorem Scm_tr {fuel:Nat}{cs:List Value}{x:DataW H×List MemPlace}(h:DataW.trod enc Tryz.prog w base sp held fuel 24 cs=some x):∃ x:Scm,PScm x∧RelU w (scmC x) cs:=by
 obtain⟨xs,k,_,_,hl,hxl,hf⟩:=DataW.trod_struct Tryz.underlying24 h
 rw[show Tryz.prog.cellsOf 24=3 by kernel_rfl] at hl
 match cs,hl with
 |[v0,v1,v2],_ =>
  match xs,hxl with
  |[y0,y1,y2],_ =>
   have g0:DataW.trod enc Tryz.prog w base sp held k 3 [v0]=some y0:=hf 0 _ rfl
   obtain⟨a0,p0,r0⟩:=int_tr (by kernel_rfl) g0
   have g1:DataW.trod enc Tryz.prog w base sp held k 3 [v1]=some y1:=hf 1 _ rfl
   obtain⟨a1,p1,r1⟩:=int_tr (by kernel_rfl) g1
   have g2:DataW.trod enc Tryz.prog w base sp held k 22 [v2]=some y2:=hf 2 _ rfl
   obtain⟨a2,p2,u2,r2'⟩:=sl_tr (f:=tblC) (Pa:=PTbl) (size:=4) (by omega) Tryz.underlying22 (by kernel_rfl) (tblC_len) (fun n cs' y h=>Tbl_tr h) g2
   have r2:=relU1 u2 r2'
   exact⟨⟨a0,a1,none,a2⟩,⟨p0,p1,p2⟩,(r0.append (r1.append r2))⟩
end
theorem arg_agg {H:Type}{enc:TypeId×Value→H}{W W0:World}{r:Reach}{b0 base:Nat}{sp:Nat→Bool}{held:Bool}{t:TypeId}{fs:Array Field}{v:Value}{d:DataW H}{ps:List MemPlace}{α:Type}{f:α→List PV}{Pa:α→Prop}(ht:Tryz.prog.underlying t=some (.struct fs))
  (hval:Value.okWide Tryz.prog W0 r b0 t v) (hd:DataW.Trod enc Tryz.prog W base sp held t v d ps) (he:∀ n cs' y,DataW.trod enc Tryz.prog W base sp held n t cs'=some y→∃ x,Pa x∧RelU W (f x) cs'):∃ x,Pa x∧ArgU W (.agg (f x)) v:=by
 simp only[Value.okWide,ht] at hval
 obtain⟨cs,rfl,hs,_⟩:=hval
 obtain⟨l⟩:=cs
 obtain⟨fuel,hf⟩:=hd
 obtain⟨x,hx,B,hB⟩:=he fuel l _ hf
 exact⟨x,hx,B,fun U hU=>by rw[RelD];exact⟨l,rfl,hB U hU⟩⟩
theorem arg_sl {H:Type}{enc:TypeId×Value→H}{W W0:World}{r:Reach}{b0 base:Nat}{sp:Nat→Bool}{held:Bool}{t e:TypeId}{v:Value}{d:DataW H}{ps:List MemPlace}{α:Type}{f:α→List PV}{Pa:α→Prop}{size:Nat}(hs0:0<size)(ht:Tryz.prog.underlying t=some (.slice e))(hsz:Tryz.prog.cellsOf e=size)(hfl:∀ x,(f x).length=size)
  (hval:Value.okWide Tryz.prog W0 r b0 t v) (hd:DataW.Trod enc Tryz.prog W base sp held t v d ps) (he:∀ n cs' y,DataW.trod enc Tryz.prog W base sp held n e cs'=some y→∃ x,Pa x∧RelU W (f x) cs'):∃ l:List α,(∀ x∈l,Pa x)∧ArgU W (.sl none size l.length (l.flatMap f)) v:=by
 obtain⟨A,n,c,rfl⟩:=okWide_slice ht hval
 obtain⟨fuel,hf⟩:=hd
 obtain⟨l,h1,_,h2⟩:=sl_tr hs0 ht hsz hfl he (by simpa [Value.cells] using hf)
 exact⟨l,h1,h2⟩
end Go.Proofs.YtegmldndflfohaaGreatDoor.SC
end
section
namespace Go.Proofs.YtegmldndflfohaaGreatDoor.SC
open Go.RowKit
abbrev NGd:Nat:=NGk
abbrev Wd:World→Prop:=Tabs
theorem wokd:WOK NGd Wd:=wokk
def cmpI (a b:Int):Int:=bif decide (a<b) then -1 else bif decide (b<a) then 1 else 0
def tenI (n:Int):Int:=((10^(min n 13).toNat:Nat):Int)
theorem tenI_le (n:Int):1≤tenI n∧tenI n≤10000000000000:=by
 unfold tenI
 have h:(min n 13).toNat≤13:=by omega
 have h1:=Nat.pow_le_pow_right (n:=10) (by decide) h
 have h2:=Nat.pow_pos (a:=10) (n:=(min n 13).toNat) (by decide)
 omega
def inI (x:Int):Bool:=decide (-9223372036854775808≤x)&&decide (x≤9223372036854775807)
theorem inI_iff {x:Int}:inI x=true ↔ -9223372036854775808≤x∧x≤9223372036854775807:=by
 simp only[inI,Bool.and_eq_true,decide_eq_true_eq]
def scaleB (s:Int):Bool:=decide (0≤s)&&decide (s≤6)
theorem scaleB_iff {s:Int}:scaleB s=true↔0≤s∧s≤6:=by simp only[scaleB,Bool.and_eq_true,decide_eq_true_eq]
def p_Scale:PFn:=⟨fun xs k=>match xs with|[.int .i64 s]=>k (.bool (scaleB s))|_=>none,false⟩
theorem scale_raw (l:List (FuncId×PFn))(s:Int)(fuel:Nat):prun (en l) ⟨[],[]⟩ fuel false Tryz.f84 [.int .i64 s]=some (.bool (decide (0≤s)&&decide (s≤6))):=by kernel_rfl
theorem ok_Scale:FOK NGd Wd 84 p_Scale:=by
 refine fok wokd allOK_nil (h:=⟨[],[]⟩) Tryz.func84 rfl (by decide) ?_ ?_
 ·intro R xs k
  simp only[p_Scale]
  split<;>rfl
 ·intro xs r h
  simp only[p_Scale] at h
  split at h
  ·exact⟨0,(scale_raw [] _ 0).trans h⟩
  ·cases h
theorem cmpI_lt {a b:Int}(h:a<b):cmpI a b=-1:=by unfold cmpI;rw[decide_eq_true h];rfl
theorem cmpI_gt {a b:Int}(h:b<a):cmpI a b=1:=by unfold cmpI;rw[decide_eq_false (by omega),decide_eq_true h];rfl
theorem cmpI_self (a:Int):cmpI a a=0:=by unfold cmpI;rw[decide_eq_false (by omega)];rfl
theorem cmpI_cases (a b:Int):(a<b∧cmpI a b=-1)∨(a=b∧cmpI a b=0)∨(b<a∧cmpI a b=1):=by
 rcases Int.lt_trichotomy a b with h|h|h
 ·exact .inl ⟨h,cmpI_lt h⟩
 ·subst h;exact .inr (.inl ⟨rfl,cmpI_self _⟩)
 ·exact .inr (.inr ⟨h,cmpI_gt h⟩)
def dcmp (a sa b sb:Int):Int:=bif scaleB sa&&scaleB sb then cmpI (a * tenI sb) (b * tenI sa) else 0
def ixIk {R:Type}(len:Nat)(c:List PV)(i:Int)(K:Int→Option R):Option R :=
 bif decide (0≤i)&&decide (i<(len:Int)) then ((c.drop (i.toNat * 1)).take 1).head?.bind fun v=>(PV.asInt .i64 v).bind K else none
theorem ixIk_eq {R:Type}{len:Nat}{l:List Nat}{i:Int}{d:Nat}{K:Int→Option R}(h0:0≤i)(hl:i<(len:Int))(hd:l[i.toNat]? = some d):ixIk len (cellsD l) i K=K d:=by
 unfold ixIk
 rw[cond_t (by rw[decide_eq_true h0,decide_eq_true hl];rfl),Nat.mul_one]
 have:(((cellsD l).drop i.toNat).take 1).head? = some (cellD d):=by
  rw[List.head?_take,if_neg (by decide),List.head?_drop,cellsD,List.getElem?_map,hd]
  rfl
 rw[this]
 rfl
theorem ixI_dgs {R:Type}{n:Nat}{i:Int}{K:Int→Option R}(h0:0≤i)(hl:i<(dlen n:Int)):ixIk (dlen n) (cellsN n) i K=K ((n/10^i.toNat%10:Nat):Int) :=
 ixIk_eq h0 hl (dg_get _ _ _ (by omega))
def room {R:Type}(l m:Nat)(x:Option R):Option R:=bif decide (l+m≤9223372036854775807)&&decide ((l+m) * 8≤140737488355328) then x else none
theorem room_eq {R:Type}{l m:Nat}{x:Option R}(h:l+m≤1000):room l m x=x:=by
 unfold room
 exact cond_t (by rw[decide_eq_true (by omega),decide_eq_true (by omega)];rfl)
theorem big_nl (n:Nat):(n==0)=(dlen n==0):=by
 by_cases h:n=0
 ·subst h;rw[dlen_zero]
 ·rw[beq_eq_false_iff_ne.2 h,dlen_pos h];rfl
theorem div0 {n i:Nat}:n/10^i=0↔dlen n≤i:=by rw[dlen_le,Nat.div_eq_zero_iff_lt (Nat.pow_pos (by decide))]
def hOf:Hints:=⟨[],[(0,⟨[(0,false),(3,true)],[]⟩)]⟩
def frOf (x:Int)(nl:Option Bool)(l:Nat)(c:List PV):St:=frame 20 [(0,(.int .i64 x,0)),(3,(.sl nl 1 l c,25))] []
noncomputable def ofLoop (fu n:Nat)(st:St):Option PV:=loopF (en []) hOf fu false Tryz.f88 [1,1,0,0] 0 n st
theorem of_raw (fu:Nat)(n:Int):prun (en []) hOf fu false Tryz.f88 [.int .i64 n]=ofLoop fu fu (frOf n (some true) 0 []):=by kernel_rfl
def ofBody (x:Int)(nl:Option Bool)(l:Nat)(c:List PV)(G:Int→Option Bool→Nat→List PV→Option PV):Option PV :=
 bif !(x==0) then
  bif decide (x.tmod 10<0) then room l 1 (G (IntKind.i64.wrap (x.tdiv 10)) (nl.map (· && false)) (l+1) (c++[.int .i64 (IntKind.i64.wrap (0-x.tmod 10))]))
  else room l 1 (G (IntKind.i64.wrap (x.tdiv 10)) (nl.map (· && false)) (l+1) (c++[.int .i64 (x.tmod 10)]))
 else some (.sl nl 1 l c)
theorem of_step (fu:Nat)(x:Int)(nl:Option Bool)(l:Nat)(c:List PV)(K:St→Option PV):stepF (en []) hOf fu false Tryz.f88 [1,1,0,0] (frOf x nl l c) (fun st=>pnorm (hOf.loop.lookup 0) st K) =
  ofBody x nl l c (fun a b d e=>K (frOf a b d e)):=by kernel_rfl
theorem of_loop (fu N:Nat):∀ (m i n:Nat) (x:Int),x.natAbs=N/10^i→dlen (N/10^i)=m→m<n→i+m≤900→-9223372036854775808≤x→x≤9223372036854775807 →
  ofLoop fu n (frOf x (some (i==0)) i (cellsD (dg i N)))=some (.sl (some (i+m==0)) 1 (i+m) (cellsD (dg (i+m) N)))
 |m,i,0,x,_,_,h,_,_,_=>by omega
 |m,i,n+1,x,hx,hm,hn,hi,h0,h1=>by
  unfold ofLoop
  rw[loopF_succ,of_step,ofBody]
  by_cases h:x=0
  ·subst h
   have hz:N/10^i=0:=by rw[← hx];rfl
   rw[hz,dlen_zero] at hm
   subst hm
   rfl
  ·rw[cond_t (by simpa using h)]
   have hz:N/10^i≠0:=by rw[← hx];omega
   have hm':=dlen_pos hz
   rw[← div_div10] at hm'
   have e1:=Int.natAbs_tmod x 10
   have e2:(x.tdiv 10).natAbs=N/10^(i+1):=by rw[div_div10,← hx];exact Int.natAbs_tdiv x 10
   rw[hx,show (10:Int).natAbs=10 from rfl] at e1
   have hq:-9223372036854775808≤x.tdiv 10∧x.tdiv 10≤9223372036854775807:=by
    have hle:(x.tdiv 10).natAbs * 10≤x.natAbs:=by rw[e2,hx,div_div10];exact Nat.div_mul_le_self _ _
    clear e1 e2
    generalize x.tdiv 10=q at *
    omega
   have ih:=of_loop fu N (m-1) (i+1) n (x.tdiv 10) e2 (by omega) (by omega) (by omega) hq.1 hq.2
   unfold ofLoop at ih
   rw[show i+1+(m-1)=i+m by omega,dg_snoc,show (i+1==0)=false from rfl] at ih
   have hd:∀ y:Int,y=((N/10^i%10:Nat):Int)→cellsD (dg i N)++[PV.int .i64 y]=cellsD (dg i N++[N/10^i%10]):=by
    intro y hy;rw[hy];simp[cellsD,cellD]
   have hnl:(some (i==0)).map (fun b:Bool=>b&&false)=some false:=by simp
   rw[room_eq (by omega),room_eq (by omega),wrapI_of hq.1 hq.2,hnl]
   by_cases hs:x.tmod 10<0
   ·rw[cond_t (decide_eq_true hs),wrapI_of (by omega) (by omega),hd _ (by omega)]
    exact ih
   ·rw[cond_f (decide_eq_false hs),hd _ (by omega)]
    exact ih
def p_Of:PFn:=⟨fun xs k=>match xs with|[.int .i64 n]=>bif inI n then k (big n.natAbs) else none|_=>none,false⟩
theorem ok_Of:FOK NGd Wd 88 p_Of:=by
 refine fok wokd allOK_nil (h:=hOf) Tryz.func88 rfl (by decide) ?_ ?_
 ·intro R xs k
  simp only[p_Of]
  split
  ·exact cond_nat
  ·rfl
 ·intro xs r h
  simp only[p_Of] at h
  split at h
  ·rename_i n
   rcases hb:inI n with _|_<;>rw[hb] at h
   ·cases h
   ·simp only[cond_true,Option.some.injEq] at h
    subst h
    rw[inI_iff] at hb
    refine⟨1000,(of_raw 1000 n).trans ?_⟩
    have hl:dlen n.natAbs≤20:=(dlen_le _ _).2 (by omega)
    have:=of_loop 1000 n.natAbs (dlen n.natAbs) 0 1000 n (by simp) (by simp) (by omega) (by omega) hb.1 hb.2
    rw[Nat.zero_add,← big_nl] at this
    exact this
  ·cases h
def hCmp:Hints:=⟨[],[(0,⟨[(0,false),(1,false),(5,false)],[]⟩)]⟩
def frCmp (n0:Option Bool)(l0:Nat)(c0:List PV)(n1:Option Bool)(l1:Nat)(c1:List PV)(i:Int):St:=frame 41 [(0,(.sl n0 1 l0 c0,0)),(1,(.sl n1 1 l1 c1,0)),(5,(.int .i64 i,0))] []
noncomputable def cmpLoop (fu n:Nat)(st:St):Option PV:=loopF (en []) hCmp fu false Tryz.f86 [1,1,0,1,0] 0 n st
theorem cmp_raw (fu:Nat)(n0:Option Bool)(l0:Nat)(c0:List PV)(n1:Option Bool)(l1:Nat)(c1:List PV):prun (en []) hCmp fu false Tryz.f86 [.sl n0 1 l0 c0,.sl n1 1 l1 c1] =
  bif !((l0:Int)==(l1:Int)) then bif decide ((l0:Int)<(l1:Int)) then some (.int .i64 (-1)) else some (.int .i64 1) else cmpLoop fu fu (frCmp n0 l0 c0 n1 l1 c1 (IntKind.i64.wrap ((l0:Int)-1))):=by kernel_rfl
def cmpBody (l0:Nat)(c0:List PV)(l1:Nat)(c1:List PV)(i:Int)(G:Int→Option PV):Option PV :=
 bif decide (0≤i) then ixIk l0 c0 i fun a=>ixIk l1 c1 i fun b=>bif decide (a<b) then some (.int .i64 (-1)) else ixIk l0 c0 i fun a=>ixIk l1 c1 i fun b=>bif decide (b<a) then some (.int .i64 1) else G (IntKind.i64.wrap (i-1))
 else some (.int .i64 0)
theorem cmp_step (fu:Nat)(n0:Option Bool)(l0:Nat)(c0:List PV)(n1:Option Bool)(l1:Nat)(c1:List PV)(i:Int)(K:St→Option PV) :
  stepF (en []) hCmp fu false Tryz.f86 [1,1,0,1,0] (frCmp n0 l0 c0 n1 l1 c1 i) (fun st=>pnorm (hCmp.loop.lookup 0) st K)=cmpBody l0 c0 l1 c1 i (fun j=>K (frCmp n0 l0 c0 n1 l1 c1 j)):=by kernel_rfl
theorem cmp_loop (fu:Nat){A B:Nat}(hl:dlen A=dlen B)(n0 n1:Option Bool):∀ (m n:Nat),m≤dlen A→m<n→m≤900→A/10^m=B/10^m →
  cmpLoop fu n (frCmp n0 (dlen A) (cellsN A) n1 (dlen B) (cellsN B) ((m:Int)-1))=some (.int .i64 (cmpI A B))
 |m,0,_,h,_,_=>by omega
 |0,n+1,_,_,_,h=>by
  unfold cmpLoop
  rw[loopF_succ,cmp_step,cmpBody,cond_f (by decide)]
  simp only[Nat.pow_zero,Nat.div_one] at h
  rw[h,cmpI_self]
 |m+1,n+1,hm,hn,hb,h=>by
  unfold cmpLoop
  rw[loopF_succ,cmp_step,cmpBody]
  have e:((m+1:Nat):Int)-1=(m:Int):=by omega
  rw[e,cond_t (decide_eq_true (by omega)),ixI_dgs (by omega) (by omega),ixI_dgs (by omega) (by omega),ixI_dgs (by omega) (by omega),ixI_dgs (by omega) (by omega),Int.toNat_natCast,wrapI_of (by omega) (by omega)]
  rw[div_div10,div_div10] at h
  have up:∀ {X Y:Nat},X/10^m<Y/10^m→X<Y:=by
   intro X Y k
   rcases Nat.lt_or_ge X Y with q|q
   ·exact q
   ·have:=Nat.div_le_div_right (c:=10^m) q
    omega
  by_cases k1:A/10^m<B/10^m
  ·rw[cond_t (decide_eq_true (by omega)),cmpI_lt (by have:=up k1;omega)]
  ·rw[cond_f (decide_eq_false (by omega))]
   by_cases k2:B/10^m<A/10^m
   ·rw[cond_t (decide_eq_true (by omega)),cmpI_gt (by have:=up k2;omega)]
   ·rw[cond_f (decide_eq_false (by omega))]
    have:=cmp_loop fu hl n0 n1 m n (by omega) (by omega) (by omega) (by omega)
    unfold cmpLoop at this
    exact this
def p_Cmp:PFn:=⟨fun xs k=>match xs with|[.sl _ 1 l0 c0,.sl _ 1 l1 c1]=>(decN l0 c0).bind fun A=>(decN l1 c1).bind fun B=>bif decide (dlen A≤500)&&decide (dlen B≤500) then k (.int .i64 (cmpI A B)) else none|_=>none,false⟩
theorem bind2_nat {R:Type}{a b:Option Nat}{g:Nat→Nat→Bool}{v:Nat→Nat→PV}{k:PV→Option R} :
  (a.bind fun A=>b.bind fun B=>bif g A B then k (v A B) else none)=(a.bind fun A=>b.bind fun B=>bif g A B then some (v A B) else none).bind k:=by
 cases a with
 |none=>rfl
 |some a=>cases b with
  |none=>rfl
  |some b=>exact cond_nat
theorem bind2_inv {a b:Option Nat}{g:Nat→Nat→Bool}{v:Nat→Nat→PV}{r:PV}(h:(a.bind fun A=>b.bind fun B=>bif g A B then some (v A B) else none)=some r):∃ A B,a=some A∧b=some B∧g A B=true∧r=v A B:=by
 obtain⟨A,h1,h⟩:=Option.bind_eq_some_iff.1 h
 obtain⟨B,h2,h⟩:=Option.bind_eq_some_iff.1 h
 cases hg:g A B<;>rw[hg] at h
 ·cases h
 ·injection h with h
  exact⟨A,B,h1,h2,hg,h.symm⟩
theorem ok_Cmp:FOK NGd Wd 86 p_Cmp:=by
 refine fok wokd allOK_nil (h:=hCmp) Tryz.func86 rfl (by decide) ?_ ?_
 ·intro R xs k
  simp only[p_Cmp]
  split
  ·exact bind2_nat
  ·rfl
 ·intro xs r h
  simp only[p_Cmp] at h
  split at h
  ·rename_i n0 l0 c0 n1 l1 c1
   obtain⟨A,B,h1,h2,hg,rfl⟩:=bind2_inv h
   obtain⟨rfl,rfl⟩:=decN_inv h1
   obtain⟨rfl,rfl⟩:=decN_inv h2
   simp only[Bool.and_eq_true,decide_eq_true_eq] at hg
   refine⟨1000,(cmp_raw 1000 n0 _ _ n1 _ _).trans ?_⟩
   have up:∀ {X Y:Nat},dlen X<dlen Y→X<Y:=by
    intro X Y k
    rcases Nat.lt_or_ge X Y with q|q
    ·exact q
    ·have:=dlen_mono q;omega
   by_cases e:dlen A=dlen B
   ·rw[cond_f (by simp[e]),wrapI_of (by omega) (by omega)]
    exact cmp_loop 1000 e n0 n1 (dlen A) 1000 (Nat.le_refl _) (by omega) (by omega) (by rw[div0.2 (Nat.le_refl _),e,div0.2 (Nat.le_refl _)])
   ·rw[cond_t (by simp;omega)]
    by_cases k:dlen A<dlen B
    ·rw[cond_t (decide_eq_true (by omega)),cmpI_lt (by have:=up k;omega)]
    ·rw[cond_f (decide_eq_false (by omega)),cmpI_gt (by have:=up (show dlen B<dlen A by omega);omega)]
  ·cases h
def p_Shift:PFn:=⟨fun xs k=>match xs with|[.sl _ 1 l0 c0,.int .i64 j]=>(decN l0 c0).bind fun A=>bif decide (dlen A≤500)&&(decide (0≤j)&&decide (j≤100)) then k (big (A * 10^j.toNat)) else none|_=>none,false⟩
theorem shift_raw (n0:Option Bool)(l0:Nat)(c0:List PV)(j:Int):prun (en []) ⟨[],[]⟩ 0 false Tryz.f87 [.sl n0 1 l0 c0,.int .i64 j] =
  bif (l0:Int)==0 then some (.sl (some true) 1 0 []) else
  bif decide (0≤j)&&decide (j≤j)&&decide (j * ((8:Nat):Int)≤((140737488355328:Nat):Int))&&decide (j≤9223372036854775807) then
   room j.toNat l0 (some (.sl ((some false).map (· && (l0==0))) 1 (j.toNat+l0) ((List.replicate j.toNat [.int .i64 0]).flatten++c0))) else none:=by kernel_rfl
theorem ok_Shift:FOK NGd Wd 87 p_Shift:=by
 refine fok wokd allOK_nil (h:=⟨[],[]⟩) Tryz.func87 rfl (by decide) ?_ ?_
 ·intro R xs k
  simp only[p_Shift]
  split
  ·rename_i l0 c0 j
   cases decN l0 c0 with
   |none=>rfl
   |some A=>exact cond_nat
  ·rfl
 ·intro xs r h
  simp only[p_Shift] at h
  split at h
  ·rename_i n0 l0 c0 j
   obtain⟨A,h1,g⟩:=Option.bind_eq_some_iff.1 h
   obtain⟨rfl,rfl⟩:=decN_inv h1
   rcases hb:(decide (dlen A≤500)&&(decide (0≤j)&&decide (j≤100))) with _|_<;>rw[hb] at g
   ·cases g
   ·simp only[cond_true,Option.some.injEq] at g
    subst g
    simp only[Bool.and_eq_true,decide_eq_true_eq] at hb
    refine⟨0,(shift_raw n0 _ _ j).trans ?_⟩
    by_cases e:A=0
    ·subst e
     rw[cond_t (by rw[dlen_zero];rfl)]
     unfold big cellsN dgs
     rw[Nat.zero_mul,dlen_zero];rfl
    ·rw[cond_f (by rw[dlen_pos e];simp;omega),cond_t (by simp only[Bool.and_eq_true,decide_eq_true_eq];omega),room_eq (by omega)]
     unfold big cellsN
     have hne:A * 10^j.toNat≠0:=Nat.mul_ne_zero e (by have:=Nat.pow_pos (a:=10) (n:=j.toNat) (by decide);omega)
     rw[dlen_shift e,beq_eq_false_iff_ne.2 hne]
     have:cellsD (dgs (A * 10^j.toNat))=(List.replicate j.toNat [PV.int .i64 0]).flatten++cellsD (dgs A):=by
      rw[dgs,dlen_shift e,← dg_shift]
      simp only[cellsD,List.map_append,List.map_replicate]
      congr 1
      generalize j.toNat=t
      induction t with
      |zero=>rfl
      |succ t ih=>rw[List.replicate_succ,List.replicate_succ,List.flatten_cons,ih];rfl
     rw[this]
     simp
  ·cases h
def cmpO {R:Type}(l0:Nat)(c0:List PV)(l1:Nat)(c1:List PV)(k:Int→Option R):Option R:=(decN l0 c0).bind fun A=>(decN l1 c1).bind fun B=>bif decide (dlen A≤500)&&decide (dlen B≤500) then k (cmpI A B) else none
theorem cmpO_eq {R:Type}{A B:Nat}{k:Int→Option R}(hA:dlen A≤500)(hB:dlen B≤500):cmpO (dlen A) (cellsN A) (dlen B) (cellsN B) k=k (cmpI A B):=by
 unfold cmpO
 rw[decN_big,decN_big]
 exact cond_t (by rw[decide_eq_true hA,decide_eq_true hB];rfl)
theorem dlen_small {n:Nat}(h:n<10^20):dlen n≤20:=(dlen_le _ _).2 h
theorem dlen_abs {n:Int}(h:inI n=true):dlen n.natAbs≤20:=dlen_small (by rw[inI_iff] at h;omega)
def shiftO {R:Type}(l0:Nat)(c0:List PV)(j:Int)(k:Nat→Option R):Option R:=(decN l0 c0).bind fun A=>bif decide (dlen A≤500)&&(decide (0≤j)&&decide (j≤100)) then k (A * 10^j.toNat) else none
theorem shiftO_eq {R:Type}{A:Nat}{j:Int}{k:Nat→Option R}(hA:dlen A≤500)(h0:0≤j)(h1:j≤100):shiftO (dlen A) (cellsN A) j k=k (A * 10^j.toNat):=by
 unfold shiftO
 rw[decN_big]
 exact cond_t (by rw[decide_eq_true hA,decide_eq_true h0,decide_eq_true h1];rfl)
theorem dlen_shift_le {A k:Nat}{m:Nat}(h:dlen A≤m):dlen (A * 10^k)≤m+k:=by
 by_cases e:A=0
 ·subst e;rw[Nat.zero_mul,dlen_zero];omega
 ·rw[dlen_shift e];omega
noncomputable def lRC:List (FuncId×PFn):=[(88,p_Of),(87,p_Shift),(86,p_Cmp),(84,p_Scale)]
theorem ok_lRC:AllOK NGd Wd lRC:=allOK_cons ok_Of (allOK_cons ok_Shift (allOK_cons ok_Cmp (allOK_cons ok_Scale allOK_nil)))
def rcBody (a sa b sb:Int):Option PV :=
 bif !!scaleB sa then bif !scaleB sb then some (.int .i64 0) else
  bif decide (a<0)&&decide (0≤b) then some (.int .i64 (-1)) else
  bif decide (0≤a)&&decide (b<0) then some (.int .i64 1) else
  bif inI a then shiftO (dlen a.natAbs) (cellsN a.natAbs) sb fun X=>bif inI b then shiftO (dlen b.natAbs) (cellsN b.natAbs) sa fun Y=>cmpO (dlen X) (cellsN X) (dlen Y) (cellsN Y) fun z =>
   bif decide (a<0) then some (.int .i64 (IntKind.i64.wrap (0-z))) else some (.int .i64 z)
  else none else none
 else some (.int .i64 0)
theorem rc_raw (a sa b sb:Int):prun (en lRC) ⟨[],[]⟩ 0 false Tryz.f67 [.int .i64 a,.int .i64 sa,.int .i64 b,.int .i64 sb]=rcBody a sa b sb:=by kernel_rfl
theorem tenI_pow {k:Int}(h0:0≤k)(h1:k≤13):tenI k=((10^k.toNat:Nat):Int):=by
 unfold tenI
 rw[show min k 13=k by omega]
theorem rc_body {a sa b sb:Int}(ha:inI a=true)(hb:inI b=true):rcBody a sa b sb=some (.int .i64 (dcmp a sa b sb)):=by
 unfold rcBody dcmp
 cases h1:scaleB sa
 ·rfl
 ·cases h2:scaleB sb
  ·rfl
  ·rw[scaleB_iff] at h1 h2
   have t1:=tenI_le sa
   have t2:=tenI_le sb
   simp only[Bool.not_true,Bool.not_false,cond_true,cond_false,Bool.and_self]
   by_cases ka:a<0
   ·have q1:a * tenI sb<0:=Int.mul_neg_of_neg_of_pos ka (by omega)
    by_cases kb:b<0
    ·rw[decide_eq_true ka,decide_eq_false (show ¬ 0≤b by omega),decide_eq_false (show ¬ 0≤a by omega),ha,hb,shiftO_eq (by have:=dlen_abs ha;omega) h2.1 (by omega),cond_true]
     simp only[Bool.and_false,Bool.false_and,cond_false,cond_true]
     rw[shiftO_eq (by have:=dlen_abs hb;omega) h1.1 (by omega),cmpO_eq (by have:=dlen_shift_le (k:=sb.toNat) (dlen_abs ha);omega) (by have:=dlen_shift_le (k:=sa.toNat) (dlen_abs hb);omega)]
     rw[Int.natCast_mul,Int.natCast_mul,← tenI_pow h2.1 (by omega),← tenI_pow h1.1 (by omega),show ((a.natAbs:Nat):Int)=-a by omega,show ((b.natAbs:Nat):Int)=-b by omega,Int.neg_mul,Int.neg_mul]
     have e:IntKind.i64.wrap (0-cmpI (-(a * tenI sb)) (-(b * tenI sa)))=cmpI (a * tenI sb) (b * tenI sa):=by
      rcases cmpI_cases (a * tenI sb) (b * tenI sa) with ⟨k,e⟩|⟨k,e⟩|⟨k,e⟩
      ·rw[e,cmpI_gt (by omega)];decide
      ·rw[e,k,cmpI_self];decide
      ·rw[e,cmpI_lt (by omega)];decide
     rw[e]
    ·have q2:0≤b * tenI sa:=Int.mul_nonneg (by omega) (by omega)
     rw[decide_eq_true ka,decide_eq_true (show 0≤b by omega),cmpI_lt (by omega)]
     rfl
   ·have q1:0≤a * tenI sb:=Int.mul_nonneg (by omega) (by omega)
    by_cases kb:b<0
    ·have q2:b * tenI sa<0:=Int.mul_neg_of_neg_of_pos kb (by omega)
     rw[decide_eq_false ka,decide_eq_true (show 0≤a by omega),decide_eq_true kb,cmpI_gt (by omega)]
     rfl
    ·rw[decide_eq_false ka,decide_eq_false kb,ha,hb]
     simp only[Bool.and_false,Bool.false_and,cond_false,cond_true]
     rw[shiftO_eq (by have:=dlen_abs ha;omega) h2.1 (by omega),shiftO_eq (by have:=dlen_abs hb;omega) h1.1 (by omega),cmpO_eq (by have:=dlen_shift_le (k:=sb.toNat) (dlen_abs ha);omega) (by have:=dlen_shift_le (k:=sa.toNat) (dlen_abs hb);omega)]
     rw[Int.natCast_mul,Int.natCast_mul,← tenI_pow h2.1 (by omega),← tenI_pow h1.1 (by omega),show ((a.natAbs:Nat):Int)=a by omega,show ((b.natAbs:Nat):Int)=b by omega]
def p_RCompare:PFn:=⟨fun xs k=>match xs with|[.int .i64 a,.int .i64 sa,.int .i64 b,.int .i64 sb]=>bif inI a&&inI b then k (.int .i64 (dcmp a sa b sb)) else none|_=>none,false⟩
theorem ok_RCompare:FOK NGd Wd 67 p_RCompare:=by
 refine fok wokd ok_lRC (h:=⟨[],[]⟩) Tryz.func67 rfl (by decide) ?_ ?_
 ·intro R xs k
  simp only[p_RCompare]
  split
  ·exact cond_nat
  ·rfl
 ·intro xs r h
  simp only[p_RCompare] at h
  split at h
  ·rename_i a sa b sb
   rcases hb:(inI a&&inI b) with _|_<;>rw[hb] at h
   ·cases h
   ·simp only[Bool.and_eq_true] at hb
    exact⟨0,(rc_raw a sa b sb).trans ((rc_body hb.1 hb.2).trans h)⟩
  ·cases h
end Go.Proofs.YtegmldndflfohaaGreatDoor.SC
end
section
set_option maxRecDepth 100000
namespace Go.Proofs.YtegmldndflfohaaGreatDoor.SC
open Go.RowKit
def cmV (x y:Val):Int:=bif (x.kind==2||x.kind==3)&&(y.kind==2||y.kind==3) then dcmp x.n x.scale y.n y.scale else bif x.kind==0||!(x.kind==y.kind) then 0 else bif x.kind==1 then numI x.n y.n else txtL x.s y.s
def cmB (x y:Val):Bool:=(x.kind==2||x.kind==3)&&(y.kind==2||y.kind==3)||!(x.kind==0||!(x.kind==y.kind))
def okV (x:Val):Bool:=decide (x.s.length≤1000000)&&(inI x.n&&right x)
theorem okV_iff {x:Val}:okV x=true↔x.s.length≤1000000∧inI x.n=true∧right x=true:=by simp only[okV,Bool.and_eq_true,decide_eq_true_eq]
def txtO {R:Type}(s t:List UInt8)(K:Int→Option R):Option R:=bif decide (s.length≤1000000) then K (txtL s t) else none
noncomputable def lC3:List (FuncId×PFn):=[(48,p_plain),(67,p_RCompare),(50,p_numbers),(29,p_Texts)]
theorem ok_lC3:AllOK NGk Tabs lC3:=allOK_cons ok_plain (allOK_cons ok_RCompare (allOK_cons ok_numbers (allOK_cons ok_Texts allOK_nil)))
def c3Body (a n c:Int)(s:List UInt8)(a' n' c':Int)(s':List UInt8):Option PV :=
 bif (a==2||a==3)&&(a'==2||a'==3) then bif inI n&&inI n' then some (.tuple [.int .i64 (dcmp n c n' c'),.bool true]) else none
 else bif a==0||!(a==a') then some (.tuple [.int .i64 0,.bool false])
 else bif a==1 then some (.tuple [.int .i64 (numI n n'),.bool true])
 else txtO s s' fun z=>some (.tuple [.int .i64 z,.bool true])
theorem c3_raw (a n c:Int)(s:List UInt8)(a' n' c':Int)(s':List UInt8):prun (en lC3) ⟨[],[]⟩ 0 false Tryz.f49 [.agg [.int .i64 a,.int .i64 n,.int .i64 c,.str s],.agg [.int .i64 a',.int .i64 n',.int .i64 c',.str s']] =
  plainO s (plainO s' (c3Body (bif rightB a n c s then a else 0) (bif rightB a n c s then n else 0) (bif rightB a n c s then c else 0) (bif rightB a n c s then s else [])
   (bif rightB a' n' c' s' then a' else 0) (bif rightB a' n' c' s' then n' else 0) (bif rightB a' n' c' s' then c' else 0) (bif rightB a' n' c' s' then s' else []))):=by kernel_rfl
def p_C3:PFn:=⟨fun xs k=>match xs with|[.agg [.int .i64 a,.int .i64 n,.int .i64 c,.str s],.agg [.int .i64 a',.int .i64 n',.int .i64 c',.str s']]=>bif okV ⟨a,n,c,s⟩&&okV ⟨a',n',c',s'⟩ then k (.tuple [.int .i64 (cmV ⟨a,n,c,s⟩ ⟨a',n',c',s'⟩),.bool (cmB ⟨a,n,c,s⟩ ⟨a',n',c',s'⟩)]) else none|_=>none,false⟩
theorem ok_C3:FOK NGk Tabs 49 p_C3:=by
 refine fok wokk ok_lC3 (h:=⟨[],[]⟩) Tryz.func49 rfl (by decide) ?_ ?_
 ·intro R xs k
  simp only[p_C3]
  split
  ·exact cond_nat
  ·rfl
 ·intro xs r h
  simp only[p_C3] at h
  split at h
  ·rename_i a n c s a' n' c' s'
   rcases hb:(okV ⟨a,n,c,s⟩&&okV ⟨a',n',c',s'⟩) with _|_<;>rw[hb] at h
   ·cases h
   ·simp only[Bool.and_eq_true,okV_iff] at hb
    obtain⟨⟨h1,h2,h3⟩,h4,h5,h6⟩:=hb
    have r1:rightB a n c s=true:=(right_B ⟨a,n,c,s⟩).trans h3
    have r2:rightB a' n' c' s'=true:=(right_B ⟨a',n',c',s'⟩).trans h6
    refine⟨0,(c3_raw a n c s a' n' c' s').trans ?_⟩
    rw[← h,r1,r2,plainO,plainO,cond_t (decide_eq_true h1),cond_t (decide_eq_true h4)]
    simp only[cond_true]
    unfold c3Body cmV cmB txtO
    rw[show inI n=true from h2,show inI n'=true from h5,show decide (s.length≤1000000)=true from decide_eq_true h1]
    simp only[Bool.and_self,cond_true]
    cases (a==2||a==3)&&(a'==2||a'==3)
    ·cases a==0||!(a==a')
     ·cases a==1<;>rfl
     ·rfl
    ·rfl
  ·cases h
noncomputable def lOr:List (FuncId×PFn):=[(48,p_plain),(49,p_C3),(50,p_numbers)]
theorem ok_lOr:AllOK NGk Tabs lOr:=allOK_cons ok_plain (allOK_cons ok_C3 (allOK_cons ok_numbers allOK_nil))
def c3O (x y:Val)(K:Int→Bool→Option PV):Option PV:=bif okV x&&okV y then K (cmV x y) (cmB x y) else none
def orBody (x y:Val):Option PV :=
 c3O x y fun c ok=>bif ok&&!(c==0) then some (.int .i64 c) else bif !ok||!(x.kind==y.kind) then some (.int .i64 (numI x.kind y.kind)) else some (.int .i64 (numI x.scale y.scale))
theorem or_raw (a n c:Int)(s:List UInt8)(a' n' c':Int)(s':List UInt8):prun (en lOr) ⟨[],[]⟩ 0 false Tryz.f28 [.agg [.int .i64 a,.int .i64 n,.int .i64 c,.str s],.agg [.int .i64 a',.int .i64 n',.int .i64 c',.str s']] =
  plainO s (plainO s' (orBody ⟨bif rightB a n c s then a else 0,bif rightB a n c s then n else 0,bif rightB a n c s then c else 0,bif rightB a n c s then s else []⟩
   ⟨bif rightB a' n' c' s' then a' else 0,bif rightB a' n' c' s' then n' else 0,bif rightB a' n' c' s' then c' else 0,bif rightB a' n' c' s' then s' else []⟩)):=by kernel_rfl
theorem dcmp_same {n n' s:Int}(hs:scaleB s=true):dcmp n s n' s=numI n n':=by
 unfold dcmp
 rw[hs]
 simp only[Bool.and_self,cond_true]
 have ht:=(tenI_le s).1
 generalize tenI s=t at ht
 rcases Int.lt_trichotomy n n' with h|h|h
 ·rw[numI_lt h,cmpI_lt (Int.mul_lt_mul_of_pos_right h (by omega))]
 ·rw[h,numI_self,cmpI_self]
 ·rw[numI_gt h,cmpI_gt (Int.mul_lt_mul_of_pos_right h (by omega))]
theorem or_body {x y:Val} (hx:okV x=true) (hy:okV y=true) (hm:mates x y):orBody x y=some (.int .i64 (ordV x y)):=by
  unfold orBody c3O
  rw [hx,hy]
  rw [okV_iff] at hx hy
  have kx:=right_kind hx.2.2
  have ky:=right_kind hy.2.2
  simp only [Bool.and_self,cond_true]
  unfold ordV cmB cmV
  by_cases hk:x.kind=y.kind
  · have hk':(x.kind == y.kind)=true:=by simpa using hk
    rw [if_neg (by simpa using hk),hk',← hk]
    by_cases h0:x.kind=0
    · rw [h0];rfl
    · have hs : x.scale=y.scale:=by
        rcases hm with h | h | h
        · exact absurd h h0
        · rw [← hk] at h;exact absurd h h0
        · exact h.2
      have h0':(x.kind == 0)=false:=by simpa using h0
      rw [if_neg h0,h0',← hs,numI_self]
      by_cases h1:x.kind=1
      · rw [if_pos (.inl h1),h1]
        simp only [Int.reduceBEq,Bool.or_self,Bool.and_self,cond_false,Bool.not_true,Bool.or_false,Bool.not_false,cond_true,Bool.true_and,Bool.false_or,Bool.or_true]
        by_cases hz:numI x.n y.n=0
        · rw [hz,numI_self];rfl
        · rw [cond_t (by simpa using hz)]
      · by_cases h23:x.kind=2∨x.kind=3
        · rw [if_pos (.inr h23)]
          have hsc:scaleB x.scale=true:=by
            have hr:=hx.2.2
            unfold right at hr
            rw [if_neg h0,if_neg h1] at hr
            rw [scaleB_iff]
            rcases h23 with h | h
            · rw [if_pos h] at hr
              simp only [decide_eq_true_eq] at hr
              omega
            · rw [if_neg (by omega),if_pos h] at hr
              simp only [decide_eq_true_eq] at hr
              omega
          have e:(x.kind == 2 || x.kind == 3)=true:=by simpa using h23
          rw [e,dcmp_same hsc]
          simp only [Bool.and_self,cond_true,Bool.true_or,Bool.not_true,Bool.or_false,Bool.true_and,Bool.false_or,cond_false]
          by_cases hz:numI x.n y.n=0
          · rw [hz,numI_self];rfl
          · rw [cond_t (by simpa using hz)]
        · have e:(x.kind == 2 || x.kind == 3)=false:=by simpa using h23
          have e1:(x.kind == 1)=false:=by simpa using h1
          rw [if_neg (by omega),e,e1]
          simp only [Bool.and_self,cond_false,Bool.not_true,Bool.or_false,Bool.not_false,Bool.true_and,Bool.false_or]
          by_cases hz:txtL x.s y.s=0
          · rw [hz,numI_self];rfl
          · rw [cond_t (by simpa using hz)]
  · have hk':(x.kind == y.kind)=false:=by simpa using hk
    have e:((x.kind == 2 || x.kind == 3) && (y.kind == 2 || y.kind == 3))=false:=by
      rw [Bool.eq_false_iff]
      simp only [ne_eq,Bool.and_eq_true,Bool.or_eq_true,beq_iff_eq]
      rcases hm with h | h | h
      · omega
      · omega
      · exact absurd h.1 hk
    rw [if_pos hk,hk',e]
    simp
def ordG (x y:Val):Int:=match orBody x y with|some (.int _ z)=>z|_=>0
theorem orBody_eq {x y:Val}(hx:okV x=true)(hy:okV y=true):orBody x y=some (.int .i64 (ordG x y)):=by
 unfold ordG
 have h:∃ z,orBody x y=some (.int .i64 z):=by
  unfold orBody c3O
  rw[hx,hy]
  simp only[Bool.and_self,cond_true]
  cases cmB x y&&!(cmV x y==0)
  ·cases !cmB x y||!(x.kind==y.kind)<;>exact⟨_,rfl⟩
  ·exact⟨_,rfl⟩
 obtain⟨z,h⟩:=h
 rw[h]
theorem numI_eq0 {a b:Int}(h:numI a b=0):a=b:=by
 by_cases e:a=b
 ·exact e
 ·exact absurd h (numI_ne e)
theorem okV_in64 {x:Val}(h:okV x=true):x.in64:=by
 have:=(okV_iff.1 h).2.1
 exact inI_iff.1 this
theorem ordG_zero {x y:Val}(hx:okV x=true)(hy:okV y=true):ordG x y=0↔x=y:=by
 have rx:=(okV_iff.1 hx).2.2
 have ry:=(okV_iff.1 hy).2.2
 by_cases hm:mates x y
 ·have e:ordG x y=ordV x y:=by
   unfold ordG
   rw[or_body hx hy hm]
  rw[e]
  rcases enc_dif rx ry (okV_in64 hx) (okV_in64 hy) hm with ⟨h1,h2⟩|h
  ·exact⟨fun _=>h1,fun _=>h2⟩
  ·refine⟨fun h0=>absurd h0 h.ne,fun e=>?_⟩
   subst e
   have:=h.txt
   rw[txt_self] at this
   exact this.symm
 ·have hne:x≠y:=fun e=>hm (by subst e;exact .inr (.inr ⟨rfl,rfl⟩))
  refine⟨fun h0=>?_,fun e=>absurd e hne⟩
  exfalso
  have h1:=orBody_eq hx hy
  rw[h0] at h1
  unfold orBody c3O at h1
  rw[hx,hy] at h1
  simp only[Bool.and_self,cond_true] at h1
  unfold mates at hm
  rcases hc:cmB x y&&!(cmV x y==0) with _|_<;>rw[hc] at h1
  ·rcases hk:!cmB x y||!(x.kind==y.kind) with _|_<;>rw[hk] at h1
   ·simp only[cond_false,Option.some.injEq,PV.int.injEq,true_and] at h1
    have h2:=numI_eq0 h1
    simp only[Bool.or_eq_false_iff,Bool.not_eq_false',beq_iff_eq] at hk
    exact hm (.inr (.inr ⟨hk.2,h2⟩))
   ·simp only[cond_false,cond_true,Option.some.injEq,PV.int.injEq,true_and] at h1
    have h2:=numI_eq0 h1
    simp only[Bool.or_eq_true,Bool.not_eq_true',beq_eq_false_iff_ne] at hk
    rcases hk with hk|hk
    ·unfold cmB at hk
     simp only[Bool.or_eq_false_iff,Bool.not_eq_false',Bool.or_eq_true,beq_iff_eq,Bool.not_eq_true',beq_eq_false_iff_ne] at hk
     rcases hk.2 with h|h
     ·exact hm (.inl h)
     ·exact h h2
    ·exact hk h2
  ·simp only[cond_true,Option.some.injEq,PV.int.injEq,true_and] at h1
   simp only[Bool.and_eq_true,Bool.not_eq_true',beq_eq_false_iff_ne] at hc
   exact hc.2 h1
def hLg:Hints:=⟨[],[(2,⟨[(44,false),(45,false),(46,false),(50,false),(51,false),(52,false)],[]⟩),(0,⟨[(44,false),(45,false),(46,false)],[]⟩)]⟩
def rngG:List PV→Option Rng
 |[.sl ne 4 le ce,.sl nl 4 ll cl,.bool lo,.sl nh 4 lh ch,.bool ho]=>(decV le ce).bind fun e=>(decV ll cl).bind fun l=>(decV lh ch).map fun h=>⟨ne,e,nl,l,lo,nh,h,ho⟩
 |_=>none
theorem rngG_of (r:Rng):rngG (rngC r)=some r:=by
 simp only[rngC,rngG,decV_vals,Option.bind_some,Option.map_some]
theorem rngG_inv (c:List PV)(r:Rng)(h:rngG c=some r):c=rngC r:=by
 unfold rngG at h
 split at h
 ·obtain⟨e,h1,h⟩:=Option.bind_eq_some_iff.1 h
  obtain⟨l,h2,h⟩:=Option.bind_eq_some_iff.1 h
  obtain⟨g,h3,rfl⟩:=Option.map_eq_some_iff.1 h
  obtain⟨rfl,rfl⟩:=decV_inv h1
  obtain⟨rfl,rfl⟩:=decV_inv h2
  obtain⟨rfl,rfl⟩:=decV_inv h3
  rfl
 ·cases h
def bndS (r:Rng):Nat:=r.eq.length+if 0<r.lo.length+r.hi.length then 1 else 0
def bndI (le ll lh:Nat)(K:Int→Option PV):Option PV:=bif decide (0<IntKind.i64.wrap ((ll:Int)+(lh:Int))) then K (IntKind.i64.wrap ((le:Int)+1)) else K (le:Int)
theorem bndI_eq (r:Rng)(h:r.eq.length≤1000000∧r.lo.length≤1000000∧r.hi.length≤1000000)(K:Int→Option PV):bndI r.eq.length r.lo.length r.hi.length K=K ((bndS r:Nat):Int):=by
 unfold bndI bndS
 rw[wrapI_of (x:=(r.lo.length:Int)+(r.hi.length:Int)) (by omega) (by omega),wrapI_of (by omega) (by omega)]
 by_cases h0:0<r.lo.length+r.hi.length
 ·rw[cond_t (decide_eq_true (by omega)),if_pos h0];rfl
 ·rw[cond_f (decide_eq_false (by omega)),if_neg h0];rfl
theorem ft_raw (x0:Int)(x1:List UInt8)(nx:Option Bool)(lx:Nat)(cx:List PV)(x3:Bool)(x4:Int)(ne:Option Bool)(le:Nat)(ce:List PV)(nl:Option Bool)(ll:Nat)(cl:List PV)(lo:Bool)(nh:Option Bool)(lh:Nat)(ch:List PV)(ho:Bool) :
  prun (en []) ⟨[],[]⟩ 0 false Tryz.f12 [.agg [.int .i64 x0,.str x1,.sl nx 1 lx cx,.bool x3,.int .i64 x4],.agg [.sl ne 4 le ce,.sl nl 4 ll cl,.bool lo,.sl nh 4 lh ch,.bool ho]]=bndI le ll lh fun n=>some (.bool (decide (n≤(lx:Int)))):=by kernel_rfl
def rngB (r:Rng):Bool:=decide (r.eq.length≤1000)&&(decide (r.lo.length≤1000)&&decide (r.hi.length≤1000))
theorem rngB_iff {r:Rng}:rngB r=true↔r.eq.length≤1000∧r.lo.length≤1000∧r.hi.length≤1000:=by simp only[rngB,Bool.and_eq_true,decide_eq_true_eq]
def rngO {R:Type}(rc:List PV)(K:Rng→Option R):Option R:=(rngG rc).bind fun r=>bif rngB r then K r else none
theorem rngO_nat {R S:Type}(rc:List PV)(f:Rng→Option R)(k:R→Option S):rngO rc (fun r=>(f r).bind k)=(rngO rc f).bind k:=by
 unfold rngO
 rw[Option.bind_assoc]
 congr 1
 funext r
 cases rngB r<;>rfl
theorem rngO_inv {R:Type}{rc:List PV}{K:Rng→Option R}{v:R}(h:rngO rc K=some v):∃ r,rc=rngC r∧(r.eq.length≤1000∧r.lo.length≤1000∧r.hi.length≤1000)∧K r=some v:=by
 unfold rngO at h
 obtain⟨r,h1,ha⟩:=Option.bind_eq_some_iff.1 h
 clear h
 obtain rfl:=rngG_inv _ _ h1
 have h:=ha
 clear ha
 rcases hb:rngB r with _|_<;>rw[hb] at h
 ·cases h
 ·exact⟨r,rfl,rngB_iff.1 hb,h⟩
theorem rngO_of {R:Type}{r:Rng}(h:r.eq.length≤1000∧r.lo.length≤1000∧r.hi.length≤1000)(K:Rng→Option R):rngO (rngC r) K=K r:=by
 unfold rngO
 rw[rngG_of,Option.bind_some,rngB_iff.2 h,cond_true]
def fitS (x:Idx)(r:Rng):Bool:=decide (bndS r≤x.cols.length)
def p_Fits:PFn:=⟨fun xs k=>match xs with|[.agg xc,.agg rc]=>(idxG xc).bind fun x=>rngO rc fun r=>k (.bool (fitS x r))|_=>none,false⟩
theorem ok_Fits:FOK NGk Tabs 12 p_Fits:=by
 refine fok wokk allOK_nil (h:=⟨[],[]⟩) Tryz.func12 rfl (by decide) ?_ ?_
 ·intro R xs k
  simp only[p_Fits]
  split
  ·rw[Option.bind_assoc]
   congr 1
   funext x
   exact rngO_nat _ (fun r=>some _) k
  ·rfl
 ·intro xs v h
  simp only[p_Fits] at h
  split at h
  ·obtain⟨x,h1,ha⟩:=Option.bind_eq_some_iff.1 h
   clear h
   obtain rfl:=idxG_inv _ _ h1
   obtain⟨r,hr,hl,h⟩:=rngO_inv ha
   clear ha
   subst hr
   refine⟨0,((ft_raw x.id x.name x.nl x.cols.length (colC x.cols) x.u x.st r.ne r.eq.length (valsC r.eq) r.nlo r.lo.length (valsC r.lo) r.lout r.nhi r.hi.length (valsC r.hi) r.hout).trans (bndI_eq r (by omega) _)).trans (Eq.trans ?_ h)⟩
   unfold fitS
   congr 3
   simp only[eq_iff_iff]
   omega
  ·cases h
theorem oneO_eq {R:Type}{a n c:Int}{s:List UInt8}{K:List UInt8→Option R}(h:s.length≤1000000):oneO a n c s K=K (enc ⟨a,n,c,s⟩):=cond_t (decide_eq_true h)
def hIn:Hints:=⟨[],[(0,⟨[(0,false),(3,false),(11,false),(12,false),(13,false)],[3]⟩)]⟩
noncomputable def fIn:Func:=Tryz.f13
def frIn (n0:Option Bool)(l0:Nat)(c0:List PV)(ne:Option Bool)(le:Nat)(ce:List PV)(nl:Option Bool)(ll:Nat)(cl:List PV)(lo:Bool)(nh:Option Bool)(lh:Nat)(ch:List PV)(ho:Bool)(L i:Int):St :=
 frame 87 [(0,(.sl n0 4 l0 c0,0)),(3,(.ptr 3 0,0)),(11,(.sl ne 4 le ce,0)),(12,(.int .i64 L,0)),(13,(.int .i64 i,0))] [(3,[(.sl ne 4 le ce,0),(.sl nl 4 ll cl,0),(.bool lo,0),(.sl nh 4 lh ch,0),(.bool ho,0)])]
def txtO2 {R:Type}(s t:List UInt8)(K:Int→Option R):Option R:=bif decide (s.length≤1000000) then K (txtL s t) else none
def side {R:Type}(a n b:Int)(s:List UInt8)(ll:Nat)(cl:List PV)(K:Int→Option R):Option R:=oneO a n b s fun y=>ixV ll cl 0 fun a1 n1 b1 s1=>oneO a1 n1 b1 s1 fun y1=>txtO2 y y1 K
def inTail (l0:Nat)(c0:List PV)(le ll:Nat)(cl:List PV)(lo:Bool)(lh:Nat)(ch:List PV)(ho:Bool):Option PV :=
 bif IntKind.i64.wrap ((ll:Int)+(lh:Int))==0 then some (.bool true) else ixV l0 c0 (le:Int) fun a n b s=>bif a==0 then some (.bool false) else
  bif decide (0<(ll:Int)) then
   side a n b s ll cl fun c=>bif (bif decide (c<0) then true else (bif c==0 then lo else false)) then some (.bool false) else
    bif decide (0<(lh:Int)) then side a n b s lh ch fun c=>bif (bif decide (0<c) then true else (bif c==0 then ho else false)) then some (.bool false) else some (.bool true) else some (.bool true)
  else bif decide (0<(lh:Int)) then side a n b s lh ch fun c=>bif (bif decide (0<c) then true else (bif c==0 then ho else false)) then some (.bool false) else some (.bool true) else some (.bool true)
end Go.Proofs.YtegmldndflfohaaGreatDoor.SC
end
section
set_option maxRecDepth 100000
namespace Go.Proofs.YtegmldndflfohaaGreatDoor.SC
open Go.RowKit
open TS (kl_irr kl_trans kl_tri kl_asym kl_le_lt kl_lt_le)
def loOK (v:Val)(r:Rng):Bool:=match r.lo with|[]=>true|w::_=>!(decide (txtL (enc v) (enc w)<0)||(decide (txtL (enc v) (enc w)=0)&&r.lout))
def hiOK (v:Val)(r:Rng):Bool:=match r.hi with|[]=>true|w::_=>!(decide (0<txtL (enc v) (enc w))||(decide (txtL (enc v) (enc w)=0)&&r.hout))
end Go.Proofs.YtegmldndflfohaaGreatDoor.SC
end
section
set_option maxRecDepth 100000
namespace Go.Proofs.YtegmldndflfohaaGreatDoor.SC
open Go.RowKit
def valL (v:Val):Bool:=decide (v.s.length≤1000000)
theorem side_eq {R:Type}{v:Val}{l:List Val}{w:Val}{t:List Val}(hv:v.s.length≤1000000)(hl:l=w::t)(hw:w.s.length≤1000000)(K:Int→Option R):side v.kind v.n v.scale v.s l.length (valsC l) K=K (txtL (enc v) (enc w)):=by
 unfold side
 rw[oneO_eq hv]
 refine (ixV_eq (vs:=l) (i:=0) (v:=w) (by rw[hl];rfl)).trans ?_
 rw[oneO_eq hw]
 unfold txtO2
 have:=enc_length v
 exact cond_t (decide_eq_true (by show (enc v).length≤_;omega))
end Go.Proofs.YtegmldndflfohaaGreatDoor.SC
end
