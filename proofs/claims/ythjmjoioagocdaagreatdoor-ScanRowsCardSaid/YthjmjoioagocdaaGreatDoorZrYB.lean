/-
  Lemmas, part Y2: what the claim needs of the texts of wip/tpl.
-/
import Derived.Test.YthjmjoioagocdaaGreatDoorZrYA
set_option linter.unusedVariables false
set_option linter.unusedSimpArgs false
section
set_option maxRecDepth 100000
namespace Go.Proofs.YthjmjoioagocdaaGreatDoor
open Go.RowKit
noncomputable def fLi:Func:=Tryz.f13
def hLi:Hints:=⟨[],[(0,⟨[(4,true),(7,false),(8,false),(9,false)],[]⟩)]⟩
def frLi (no:Option Bool)(lo:Nat)(co:List PV)(nl:Option Bool)(n:Nat)(c:List PV)(L i:Int):St:=frame 26 [(4,(.sl no 2 lo co,32)),(7,(.sl nl 3 n c,0)),(8,(.int .i64 L,0)),(9,(.int .i64 i,0))] []
noncomputable def liLoop (fu n:Nat)(st:St):Option PV:=loopF (en []) hLi fu false fLi [1,1,0,1,0] 0 n st
def fnR {R:Type}(n:Nat)(c:List PV)(i:Int)(K:Int→Option Bool→Nat→List PV→Int→Option R):Option R :=
 bif decide (0≤i)&&decide (i<(n:Int)) then
  ((c.drop (i.toNat * 3)).take 3).head?.bind fun v=>(PV.asInt .i64 v).bind fun q=>((c.drop (i.toNat * 3)).take 3).tail.head?.bind fun v=>(PV.asSl 5 v).bind fun p=>((c.drop (i.toNat * 3)).take 3).tail.tail.head?.bind fun v=>(PV.asInt .i64 v).bind fun e=>K q p.1 p.2.1 p.2.2 e else none
noncomputable def roomW {S:Type}(lo:Nat)(k:Option S):Option S:=bif decide (lo+1≤9223372036854775807)&&decide ((lo+1) * bytesOf Tryz.prog 50≤roomB) then k else none
theorem li_raw (fu:Nat)(nl:Option Bool)(n:Nat)(c:List PV):prun (en []) hLi fu false fLi [.sl nl 3 n c]=liLoop fu fu (frLi (some true) 0 [] nl n c (n:Int) 0):=prunN_eq.trans (by kernel_rfl)
theorem li_step (fu:Nat)(no:Option Bool)(lo:Nat)(co:List PV)(nl:Option Bool)(n:Nat)(c:List PV)(L i:Int)(K:St→Option PV) :
  stepF (en []) hLi fu false fLi [1,1,0,1,0] (frLi no lo co nl n c L i) (fun st=>pnorm (hLi.loop.lookup 0) st K) =
  bif decide (i<L) then fnR n c i fun q f m d e=>bif e != 0 then some (.tuple [.sl no 2 lo co,.int .i64 e])
   else roomW lo (K (frLi (no.map (· && (1==0))) (lo+1) (co++[.int .i64 q,.sl f 5 m d]) nl n c L (IntKind.i64.wrap (i+1))))
  else some (.tuple [.sl no 2 lo co,.int .i64 0]):=by kernel_rfl
theorem roomW_t {S:Type}{lo:Nat}(h:lo≤1000000)(k:Option S):roomW lo k=k:=by
 unfold roomW
 rw[show bytesOf Tryz.prog 50=32 by kernel_rfl]
 exact cond_t (by rw[decide_eq_true (by omega),decide_eq_true (by unfold roomB;omega)];rfl)
def fnC (x:Rw×Int):List PV:=rwC x.1++[.int .i64 x.2]
def fnsC (l:List (Rw×Int)):List PV:=l.flatMap fnC
theorem fnC_len (x:Rw×Int):(fnC x).length=3:=rfl
def fnG:List PV→Option (Rw×Int)
 |[.int .i64 i,.sl fl 5 n c,.int .i64 e]=>(decG 5 celG n c).map fun cs=>((i,fl,cs),e)
 |_=>none
theorem fnG_inv (l:List PV)(x:Rw×Int)(h:fnG l=some x):l=fnC x:=by
 unfold fnG at h
 split at h
 ·obtain⟨cs,h1,rfl⟩:=Option.map_eq_some_iff.1 h
  obtain⟨rfl,rfl⟩:=decG_inv celG_inv h1
  rfl
 ·cases h
def liF:List (Rw×Int)→List Rw×Int
 |[]=>([],0)
 |x::l=>if x.2=0 then (x.1::(liF l).1,(liF l).2) else ([],x.2)
def liV (p:List Rw×Int):PV:=.tuple [.sl (some p.1.isEmpty) 2 p.1.length (rwsC p.1),.int .i64 p.2]
theorem fnR_eq {R:Type}{l:List (Rw×Int)}{i:Nat}{x:Rw×Int}{K:Int→Option Bool→Nat→List PV→Int→Option R}(h:l[i]? = some x):fnR l.length (fnsC l) (i:Int) K=K x.1.1 x.1.2.1 x.1.2.2.length (celsC x.1.2.2) x.2:=by
 have:=(List.getElem?_eq_some_iff.1 h).1
 unfold fnR
 rw[cond_t (by rw[decide_eq_true (by omega),decide_eq_true (by omega)];rfl),Int.toNat_natCast,fnsC,flat_at fnC_len h]
 rfl
theorem li_loop (fu:Nat)(nl:Option Bool)(l:List (Rw×Int))(hl:l.length≤1000000):∀ (k i n:Nat) (o:List Rw),i+k=l.length→k<n→o.length≤i →
  liLoop fu n (frLi (some o.isEmpty) o.length (rwsC o) nl l.length (fnsC l) (l.length:Int) (i:Int))=some (liV (o++(liF (l.drop i)).1,(liF (l.drop i)).2))
 |k,i,0,o,_,h,_=>by omega
 |0,i,n+1,o,hi,hn,ho=>by
  unfold liLoop
  rw[loopF_succ,li_step,cond_f (decide_eq_false (by omega)),List.drop_of_length_le (by omega)]
  show _=some (liV (o++[],0))
  rw[List.append_nil]
  rfl
 |k+1,i,n+1,o,hi,hn,ho=>by
  have hc:=List.getElem?_eq_getElem (l:=l) (i:=i) (by omega)
  rw[List.drop_eq_getElem_cons (show i<l.length by omega)]
  generalize l[i]=x at hc
  have ih:=li_loop fu nl l hl k (i+1) n (o++[x.1]) (by omega) (by omega) (by rw[List.length_append];show o.length+1≤_;omega)
  unfold liLoop at ih ⊢
  rw[loopF_succ,li_step,cond_t (decide_eq_true (by omega)),fnR_eq hc,wrapI_of (by omega) (by omega),liF]
  by_cases he:x.2=0
  ·rw[cond_f (by rw[bne_eq_false_iff_eq];exact he),if_pos he,roomW_t (by omega)]
   have e1:(some o.isEmpty).map (· && ((1:Nat)==0))=some (o++[x.1]).isEmpty:=by cases o<;>rfl
   have e2:rwsC o++rwC x.1=rwsC (o++[x.1]):=by simp[rwsC]
   rw[e1]
   rw[List.length_append,← e2] at ih
   exact ih.trans (by rw[List.append_assoc];rfl)
  ·rw[cond_t (by rw[bne_iff_ne];exact he),if_neg he]
   show _=some (liV (o++[],x.2))
   rw[List.append_nil]
   rfl
def p_Li:PFn:=⟨fun xs k=>match xs with|[.sl _ 3 n c]=>(decG 3 fnG n c).bind fun l=>bif decide (l.length≤1000000) then k (liV (liF l)) else none|_=>none,false⟩
theorem ok_Li:FOK NGk Tabs 13 p_Li:=by
 refine fok wokk allOK_nil (h:=hLi) Tryz.func13 rfl (by decide) ?_ ?_
 ·intro R xs k
  simp only[p_Li]
  split
  ·exact bindL_nat
  ·rfl
 ·intro xs r h
  simp only[p_Li] at h
  split at h
  ·rename_i nl n c
   obtain⟨l,h1,hg,rfl⟩:=bindL_inv h
   obtain⟨rfl,rfl⟩:=decG_inv fnG_inv h1
   simp only[decide_eq_true_eq] at hg
   refine⟨l.length+1,(li_raw _ nl _ _).trans ?_⟩
   have:=li_loop (l.length+1) nl l hg l.length 0 (l.length+1) [] (by omega) (by omega) (by simp)
   rw[List.nil_append] at this
   exact this
  ·cases h
def zRw:Option PV:=some (.tuple [.int .i64 0,.int .i64 0,.bool false])
def rwT (n:Nat)(c:List PV)(ok:Bool):Option PV :=
 bif !(!ok) then bif !((n:Int) != 2) then fldI n c 0 0 fun k0=>bif !(k0 != 2) then fldI n c 1 0 fun k1=>bif k1 != 2 then zRw else
  fldI n c 0 1 fun x=>fldI n c 1 1 fun y=>some (.tuple [.int .i64 x,.int .i64 y,.bool true]) else zRw else zRw else zRw
def rwS (l:List UInt8):Option PV:=bif decide (l.length≤100000) then rwT ((getV l).getD []).length (valsC ((getV l).getD [])) (getV l).isSome else none
theorem r13_raw (b:UInt8)(s:List UInt8):prun (en [(45,p_RGet)]) ⟨[],[]⟩ 0 false Tryz.f41 [.str (b::s)] =
  bif decide ((0:Int)≤0)&&decide ((0:Int)<((b::s).length:Int)) then (bif (b.toNat:Int) != 114 then zRw else bif decide ((0:Int)≤1)&&decide ((1:Int)≤((b::s).length:Int)) then rwS (((b::s).take (b::s).length).drop (1:Int).toNat) else none) else none:=by kernel_rfl
theorem r13_nil:prun (en [(45,p_RGet)]) ⟨[],[]⟩ 0 false Tryz.f41 [.str []]=zRw:=by kernel_rfl
theorem rwT_eq:∀ (o:Option (List Val)),rwT (o.getD []).length (valsC (o.getD [])) o.isSome=some (rowP3 (rowO o))
 |none=>rfl
 |some []=>rfl
 |some [a]=>rfl
 |some (a::b::c::l)=>by
  unfold rwT
  rw[cond_t (by rfl),cond_f (by simp only[Option.getD_some,List.length_cons,Bool.not_eq_false'];rw[bne_iff_ne];omega)]
  rfl
 |some [a,b]=>by
  unfold rwT
  have e0:([a,b]:List Val)[0]? = some a:=rfl
  have e1:([a,b]:List Val)[1]? = some b:=rfl
  rw[cond_t (by rfl),cond_t (by rfl)]
  refine (fldI_kind (l:=[a,b]) (i:=0) e0).trans ?_
  show _=some (rowP3 (if a.kind=2∧b.kind=2 then (a.n,b.n,true) else (0,0,false)))
  by_cases ha:a.kind=2
  ·rw[cond_t (by rw[ha];rfl)]
   refine (fldI_kind (l:=[a,b]) (i:=1) e1).trans ?_
   by_cases hb:b.kind=2
   ·rw[cond_f (by rw[hb];rfl),if_pos ⟨ha,hb⟩]
    refine (fldI_n (l:=[a,b]) (i:=0) e0).trans ?_
    exact fldI_n (l:=[a,b]) (i:=1) e1
   ·rw[cond_t (by rw[bne_iff_ne];exact hb),if_neg (fun q=>hb q.2)]
    rfl
  ·rw[cond_f (by rw[Bool.not_eq_false',bne_iff_ne];exact ha),if_neg (fun q=>ha q.1)]
   rfl
theorem ok_R13:FOK NGk Tabs 41 (TS.tRow fun s=>bif decide (s.length≤100000) then some (rowK s) else none):=by
 refine fok wokk (allOK_cons ok_RGet allOK_nil) (h:=⟨[],[]⟩) Tryz.func41 rfl (by decide) (TS.tRow_nat _) ?_
 intro xs r h
 simp only[TS.tRow] at h
 split at h
 ·rename_i s
  rcases hb:decide (s.length≤100000) with _|_<;>rw[hb] at h
  ·cases h
  ·have hs:s.length≤100000:=of_decide_eq_true hb
   rw[cond_true,Option.bind_some] at h
   refine⟨0,Eq.trans ?_ h⟩
   show _=some (rowP3 (rowK s))
   match s,hs with
   |[],_=>exact r13_nil
   |b::s,hs =>
    refine (r13_raw b s).trans ?_
    rw[cond_t (by rw[decide_eq_true (by omega),decide_eq_true (by rw[List.length_cons];omega)];rfl)]
    unfold rowK mkV
    by_cases hb:b=114
    ·subst hb
     rw[cond_f (by rfl),cond_t (by rw[decide_eq_true (by omega),decide_eq_true (by rw[List.length_cons];omega)];rfl),List.take_length]
     show rwS s=some (rowP3 (rowO (getV s)))
     unfold rwS
     rw[List.length_cons] at hs
     rw[cond_t (decide_eq_true (by omega))]
     exact rwT_eq _
    ·have hn:(b.toNat:Int)≠114:=fun e=>hb (UInt8.toNat_inj.1 (by show b.toNat=114;omega))
     rw[cond_t (by rw[bne_iff_ne];exact hn),cond_f (by show ([b]==[114])=false;rw[beq_eq_false_iff_ne];intro e;injection e with e;exact hb e)]
     rfl
 ·cases h
end Go.Proofs.YthjmjoioagocdaaGreatDoor
end
section
set_option maxRecDepth 100000
namespace Go.Proofs.YthjmjoioagocdaaGreatDoor.TS
open Go.RowKit
noncomputable def fRs:Func:=Tryz.f14
def gK13 (s:Ky):Option (Int×Int×Bool):=bif decide (s.length≤100000) then some (rowK s) else none
noncomputable def lRs:List (FuncId×PFn):=[(41,tRow gK13),(42,p_Of)]
theorem ok_lRs:AllOK NGt Wt lRs:=allOK_cons ok_R13 (allOK_cons ok_Of allOK_nil)
def hRs:Hints:=⟨[],[(0,⟨[(1,false),(5,true),(11,false),(12,false),(13,false)],[]⟩)]⟩
def frRs (t:Int)(no:Option Bool)(lo:Nat)(co:List PV)(nl:Option Bool)(n:Nat)(c:List PV)(L i:Int):St :=
 frame 40 [(1,(.int .i64 t,0)),(5,(.sl no 3 lo co,47)),(11,(.sl nl 2 n c,0)),(12,(.int .i64 L,0)),(13,(.int .i64 i,0))] []
noncomputable def rsLoop (fu n:Nat)(st:St):Option PV:=loopF (en lRs) hRs fu false fRs [1,1,0,1,0] 0 n st
noncomputable def roomF {S:Type}(lo:Nat)(k:Option S):Option S:=bif decide (lo+1≤9223372036854775807)&&decide ((lo+1) * bytesOf Tryz.prog 99≤roomB) then k else none
theorem rs_raw (fu:Nat)(nl:Option Bool)(n:Nat)(c:List PV)(t:Int):prun (en lRs) hRs fu false fRs [.sl nl 2 n c,.int .i64 t]=rsLoop fu fu (frRs t (some true) 0 [] nl n c (n:Int) 0):=prunN_eq.trans (by kernel_rfl)
theorem rs_step (fu:Nat)(t:Int)(no:Option Bool)(lo:Nat)(co:List PV)(nl:Option Bool)(n:Nat)(c:List PV)(L i:Int)(K:St→Option PV) :
  stepF (en lRs) hRs fu false fRs [1,1,0,1,0] (frRs t no lo co nl n c L i) (fun st=>pnorm (hRs.loop.lookup 0) st K) =
  bif decide (i<L) then ixP n c i fun a b=>(gK13 a).bind fun r=>bif (bif !r.2.2 then true else r.1 != t) then K (frRs t no lo co nl n c L (IntKind.i64.wrap (i+1)))
   else bif decide (b.length≤1000000) then roomF lo (K (frRs t (no.map (· && (1==0))) (lo+1) (co++[.int .i64 (rowG r.2.1 b).1.1,.sl (rowG r.2.1 b).1.2.1 5 (rowG r.2.1 b).1.2.2.1 (rowG r.2.1 b).1.2.2.2,.int .i64 (rowG r.2.1 b).2]) nl n c L (IntKind.i64.wrap (i+1)))) else none
  else some (.sl no 3 lo co):=by kernel_rfl
theorem roomF_t {S:Type}{lo:Nat}(h:lo≤1000000)(k:Option S):roomF lo k=k:=by
 unfold roomF
 rw[show bytesOf Tryz.prog 99=40 by kernel_rfl]
 exact cond_t (by rw[decide_eq_true (by omega),decide_eq_true (by unfold roomB;omega)];rfl)
def fndR (i:Int)(b:Ky):Rw×Int:=match parseR b with|some cs=>((i,some cs.isEmpty,cs),0)|none=>((i,some true,[]),50)
theorem fndR_C (i:Int)(b:Ky):fnC (fndR i b)=[.int .i64 (rowG i b).1.1,.sl (rowG i b).1.2.1 5 (rowG i b).1.2.2.1 (rowG i b).1.2.2.2,.int .i64 (rowG i b).2]:=by
 unfold fndR rowG
 cases parseR b<;>rfl
def rsF (t:Int):List (Ky×Ky)→List (Rw×Int)
 |[]=>[]
 |p::l=>bif (bif !(rowK p.1).2.2 then true else (rowK p.1).1 != t) then rsF t l else fndR (rowK p.1).2.1 p.2::rsF t l
def rsV (l:List (Rw×Int)):PV:=.sl (some l.isEmpty) 3 l.length (fnsC l)
theorem rs_loop (fu:Nat)(t:Int)(nl:Option Bool)(l:List (Ky×Ky))(hl:l.length≤1000000)(h1:∀ p∈l,p.1.length≤100000∧p.2.length≤1000000):∀ (k i n:Nat) (o:List (Rw×Int)),i+k=l.length→k<n→o.length≤i →
  rsLoop fu n (frRs t (some o.isEmpty) o.length (fnsC o) nl l.length (prsC l) (l.length:Int) (i:Int))=some (rsV (o++rsF t (l.drop i)))
 |k,i,0,o,_,h,_=>by omega
 |0,i,n+1,o,hi,hn,ho=>by
  unfold rsLoop
  rw[loopF_succ,rs_step,cond_f (decide_eq_false (by omega)),List.drop_of_length_le (by omega)]
  show _=some (rsV (o++[]))
  rw[List.append_nil]
  rfl
 |k+1,i,n+1,o,hi,hn,ho=>by
  have hc:=List.getElem?_eq_getElem (l:=l) (i:=i) (by omega)
  have hp:=h1 l[i] (List.getElem_mem _)
  rw[List.drop_eq_getElem_cons (show i<l.length by omega)]
  generalize l[i]=p at hc hp
  have ih:=fun o=>rs_loop fu t nl l hl h1 k (i+1) n o (by omega) (by omega)
  unfold rsLoop at ih ⊢
  rw[loopF_succ,rs_step,cond_t (decide_eq_true (by omega)),ixP_eq hc,wrapI_of (by omega) (by omega),rsF]
  unfold gK13
  rw[cond_t (decide_eq_true hp.1),Option.bind_some]
  cases (bif !(rowK p.1).2.2 then true else (rowK p.1).1 != t)
  ·rw[cond_false,cond_false,cond_t (decide_eq_true hp.2),roomF_t (by omega)]
   have e1:(some o.isEmpty).map (· && ((1:Nat)==0))=some (o++[fndR (rowK p.1).2.1 p.2]).isEmpty:=by cases o<;>rfl
   have e2:fnsC o++fnC (fndR (rowK p.1).2.1 p.2)=fnsC (o++[fndR (rowK p.1).2.1 p.2]):=by simp[fnsC]
   have h:=ih (o++[fndR (rowK p.1).2.1 p.2]) (by rw[List.length_append];show o.length+1≤_;omega)
   rw[List.length_append,← e2,fndR_C,List.append_assoc] at h
   rw[e1]
   exact h
  ·rw[cond_true,cond_true]
   exact ih o (by omega)
def p_Rs:PFn:=⟨fun xs k=>match xs with
 |[.sl _ 2 n c,.int .i64 t]=>(decG 2 prG n c).bind fun l=>bif decide (l.length≤1000000)&&l.all (fun p=>decide (p.1.length≤100000)&&decide (p.2.length≤1000000)) then k (rsV (rsF t l)) else none
 |_=>none,false⟩
theorem ok_Rs:FOK NGt Wt 14 p_Rs:=by
 refine fok wokt ok_lRs (h:=hRs) Tryz.func14 rfl (by decide) ?_ ?_
 ·intro R xs k
  simp only[p_Rs]
  split
  ·exact bindL_nat
  ·rfl
 ·intro xs r h
  simp only[p_Rs] at h
  split at h
  ·rename_i nl n c t
   obtain⟨l,h1,hg,rfl⟩:=bindL_inv h
   obtain⟨rfl,rfl⟩:=decG_inv prG_inv h1
   simp only[Bool.and_eq_true,decide_eq_true_eq,List.all_eq_true] at hg
   refine⟨l.length+1,(rs_raw _ nl _ _ t).trans ?_⟩
   exact rs_loop _ t nl l hg.1 hg.2 l.length 0 (l.length+1) [] (by omega) (by omega) (by simp)
  ·cases h
end Go.Proofs.YthjmjoioagocdaaGreatDoor.TS
end
section
set_option maxRecDepth 100000
namespace Go.Proofs.YthjmjoioagocdaaGreatDoor
open Go.RowKit
noncomputable def lLg:List (FuncId×PFn):=[(25,p_Small)]
def hLg:Hints:=⟨[],[(2,⟨[(44,false),(45,false),(46,false),(50,false),(51,false),(52,false)],[]⟩),(0,⟨[(44,false),(45,false),(46,false)],[]⟩)]⟩
noncomputable def fLg:Func:=Tryz.f8
def frLg (cs:List PV)(L i:Int):St:=frame 62 [(44,(.sl (some false) 1 3 cs,0)),(45,(.int .i64 L,0)),(46,(.int .i64 i,0))] []
def frLgI (cs:List PV)(L i:Int)(n1:Option Bool)(l1:Nat)(c1:List PV)(M j:Int):St:=frame 62 [(44,(.sl (some false) 1 3 cs,0)),(45,(.int .i64 L,0)),(46,(.int .i64 i,0)),(50,(.sl n1 4 l1 c1,0)),(51,(.int .i64 M,0)),(52,(.int .i64 j,0))] []
noncomputable def lgL (fu n:Nat)(st:St):Option PV:=loopF (en lLg) hLg fu false fLg [1,1,0,1,0] 0 n st
noncomputable def lgI (fu:Nat)(K:St→Option PV)(n:Nat)(st:St):Option PV:=loopP (en lLg) hLg fu false fLg (fun st=>pnorm (hLg.loop.lookup 0) st K) [1,1,0,1,0,0,1,1,0,0,1,1,0] 2 n st
def lgB (b:Bool)(lx le ll lh:Nat):Bool:=bif (bif (bif (bif !b then true else decide (6<(lx:Int))) then true else decide (6<(le:Int))) then true else decide (1<(ll:Int))) then true else decide (1<(lh:Int))
theorem lg_raw (fu:Nat)(nr:Option Bool)(lr:Nat)(cr:List PV)(x0:Int)(x1:List UInt8)(nx:Option Bool)(lx:Nat)(cx:List PV)(x3:Bool)(x4:Int)(ne:Option Bool)(le:Nat)(ce:List PV)(nl:Option Bool)(ll:Nat)(cl:List PV)(lo:Bool)(nh:Option Bool)(lh:Nat)(ch:List PV)(ho:Bool) :
  prun (en lLg) hLg fu false fLg [.sl nr 2 lr cr,.agg [.int .i64 x0,.str x1,.sl nx 1 lx cx,.bool x3,.int .i64 x4],.agg [.sl ne 4 le ce,.sl nl 4 ll cl,.bool lo,.sl nh 4 lh ch,.bool ho]] =
   smO lr cr fun b=>bif lgB b lx le ll lh then some (.bool true) else lgL fu fu (frLg [.sl ne 4 le ce,.sl nl 4 ll cl,.sl nh 4 lh ch] 3 0):=prunN_eq.trans (by kernel_rfl)
theorem lg_step (fu:Nat)(cs:List PV)(L i:Int)(K:St→Option PV) :
  stepF (en lLg) hLg fu false fLg [1,1,0,1,0] (frLg cs L i) (fun st=>pnorm (hLg.loop.lookup 0) st K) =
  bif decide (i<L) then (bif decide (0≤i)&&decide (i<((3:Nat):Int)) then ((cs.drop (i.toNat * 1)).take 1).head?.bind fun v=>(PV.asSl 4 v).bind fun p=>lgI fu K fu (frLgI cs L i p.1 p.2.1 p.2.2 ((p.2.1:Nat):Int) 0) else none)
  else some (.bool false):=(stepF_eq (by kernel_rfl)).trans (by kernel_rfl)
theorem lgI_step (fu:Nat)(cs:List PV)(L i:Int)(n1:Option Bool)(l1:Nat)(c1:List PV)(M j:Int)(K K2:St→Option PV) :
  stepP (en lLg) hLg fu false fLg [1,1,0,1,0,0,1,1,0,0,1,1,0] (fun st=>pnorm (hLg.loop.lookup 0) st K) (frLgI cs L i n1 l1 c1 M j) (fun st=>pnorm (hLg.loop.lookup 2) st K2) =
  bif decide (j<M) then ixV l1 c1 j fun _ _ _ s=>bif decide (200<(s.length:Int)) then some (.bool true) else K2 (frLgI cs L i n1 l1 c1 M (IntKind.i64.wrap (j+1)))
  else K (frLg cs L (IntKind.i64.wrap (i+1))):=(stepP_eq (by kernel_rfl)).trans (by kernel_rfl)
def valSm (v:Val):Bool:=decide (v.s.length≤200)
theorem lgI_loop (fu:Nat)(K:St→Option PV)(cs:List PV)(L i:Int)(n1:Option Bool)(vs:List Val)(hl:vs.length≤1000):∀ (k j n:Nat),j+k=vs.length→k<n →
  lgI fu K n (frLgI cs L i n1 vs.length (valsC vs) (vs.length:Int) (j:Int))=bif (vs.drop j).all valSm then K (frLg cs L (IntKind.i64.wrap (i+1))) else some (.bool true)
 |k,j,0,_,h=>by omega
 |0,j,n+1,hj,hn=>by
  unfold lgI
  rw[loopP_succ,lgI_step,cond_f (decide_eq_false (by omega)),List.drop_of_length_le (by omega)]
  rfl
 |k+1,j,n+1,hj,hn=>by
  have ih:=lgI_loop fu K cs L i n1 vs hl k (j+1) n (by omega) (by omega)
  have hc:=List.getElem?_eq_getElem (l:=vs) (i:=j) (by omega)
  unfold lgI at ih ⊢
  rw[loopP_succ,lgI_step,cond_t (decide_eq_true (by omega)),ixV_eq hc,wrapI_of (x:=(j:Int)+1) (by omega) (by omega),List.drop_eq_getElem_cons (show j<vs.length by omega),List.all_cons]
  by_cases hx:200<vs[j].s.length
  ·rw[cond_t (decide_eq_true (by omega)),show valSm vs[j]=false from decide_eq_false (by omega)]
   rfl
  ·rw[cond_f (decide_eq_false (by omega)),show valSm vs[j]=true from decide_eq_true (by omega),Bool.true_and]
   exact ih
theorem lgB_false {b:Bool}{lx le ll lh:Nat}(h:lgB b lx le ll lh=false):b=true∧lx≤6∧le≤6∧ll≤1∧lh≤1:=by
 unfold lgB at h
 cases b with
 |false=>cases h
 |true =>
  by_cases h1:6<(lx:Int)
  ·rw[decide_eq_true h1] at h;cases h
  ·by_cases h2:6<(le:Int)
   ·rw[decide_eq_false h1,decide_eq_true h2] at h;cases h
   ·by_cases h3:1<(ll:Int)
    ·rw[decide_eq_false h1,decide_eq_false h2,decide_eq_true h3] at h;cases h
    ·by_cases h4:1<(lh:Int)
     ·rw[decide_eq_false h1,decide_eq_false h2,decide_eq_false h3,decide_eq_true h4] at h;cases h
     ·exact⟨rfl,by omega,by omega,by omega,by omega⟩
def longS (rs:List Rw)(x:Idx)(r:Rng):Bool:=lgB (smS rs) x.cols.length r.eq.length r.lo.length r.hi.length||!(r.eq.all valSm&&(r.lo.all valSm&&r.hi.all valSm))
theorem longS_not {rs:List Rw}{x:Idx}{r:Rng}(h:longS rs x r=false):smS rs=true∧x.cols.length≤6∧r.eq.length≤6∧r.lo.length≤1∧r.hi.length≤1∧(∀ v∈r.eq,v.s.length≤200)∧(∀ v∈r.lo,v.s.length≤200)∧∀ v∈r.hi,v.s.length≤200:=by
 unfold longS at h
 simp only[Bool.or_eq_false_iff,Bool.not_eq_false',Bool.and_eq_true,List.all_eq_true] at h
 obtain⟨h1,h2,h3,h4⟩:=h
 obtain⟨a,b,c,d,e⟩:=lgB_false h1
 exact⟨a,b,c,d,e,fun v hv=>of_decide_eq_true (h2 v hv),fun v hv=>of_decide_eq_true (h3 v hv),fun v hv=>of_decide_eq_true (h4 v hv)⟩
def rngG:List PV→Option Rng
 |[.sl ne 4 le ce,.sl nl 4 ll cl,.bool lo,.sl nh 4 lh ch,.bool ho]=>(decV le ce).bind fun e=>(decV ll cl).bind fun l=>(decV lh ch).map fun h=>⟨ne,e,nl,l,lo,nh,h,ho⟩
 |_=>none
theorem rngG_of (r:Rng):rngG (rngC r)=some r:=by
 simp only[rngC,rngG,decV_vals,Option.bind_some,Option.map_some]
theorem rngG_inv (c:List PV)(r:Rng)(h:rngG c=some r):c=rngC r:=by
 unfold rngG at h
 split at h
 ·obtain⟨e,h1,h⟩:=Option.bind_eq_some_iff.1 h
  obtain⟨l,h2,h⟩:=Option.bind_eq_some_iff.1 h
  obtain⟨g,h3,rfl⟩:=Option.map_eq_some_iff.1 h
  obtain⟨rfl,rfl⟩:=decV_inv h1
  obtain⟨rfl,rfl⟩:=decV_inv h2
  obtain⟨rfl,rfl⟩:=decV_inv h3
  rfl
 ·cases h
theorem lg_loop (fu:Nat)(hfu:1001<fu)(r:Rng)(h1:r.eq.length≤6)(h2:r.lo.length≤1)(h3:r.hi.length≤1) :
  lgL fu fu (frLg [.sl r.ne 4 r.eq.length (valsC r.eq),.sl r.nlo 4 r.lo.length (valsC r.lo),.sl r.nhi 4 r.hi.length (valsC r.hi)] 3 0)=some (.bool (!(r.eq.all valSm&&(r.lo.all valSm&&r.hi.all valSm)))):=by
 obtain⟨n,rfl⟩:∃ n,fu=n+4:=⟨fu-4,by omega⟩
 generalize hcs:[PV.sl r.ne 4 r.eq.length (valsC r.eq),.sl r.nlo 4 r.lo.length (valsC r.lo),.sl r.nhi 4 r.hi.length (valsC r.hi)]=cs
 have s0:∀ (G:St→Option PV),(fun st=>stepF (en lLg) hLg (n+4) false fLg [1,1,0,1,0] st (fun st=>pnorm (hLg.loop.lookup 0) st G)) (frLg cs 3 0)=lgI (n+4) G (n+4) (frLgI cs 3 0 r.ne r.eq.length (valsC r.eq) (r.eq.length:Int) 0):=fun G=>by
  show stepF _ _ _ _ _ _ _ _=_
  rw[lg_step,← hcs];rfl
 have s1:∀ (G:St→Option PV),(fun st=>stepF (en lLg) hLg (n+4) false fLg [1,1,0,1,0] st (fun st=>pnorm (hLg.loop.lookup 0) st G)) (frLg cs 3 1)=lgI (n+4) G (n+4) (frLgI cs 3 1 r.nlo r.lo.length (valsC r.lo) (r.lo.length:Int) 0):=fun G=>by
  show stepF _ _ _ _ _ _ _ _=_
  rw[lg_step,← hcs];rfl
 have s2:∀ (G:St→Option PV),(fun st=>stepF (en lLg) hLg (n+4) false fLg [1,1,0,1,0] st (fun st=>pnorm (hLg.loop.lookup 0) st G)) (frLg cs 3 2)=lgI (n+4) G (n+4) (frLgI cs 3 2 r.nhi r.hi.length (valsC r.hi) (r.hi.length:Int) 0):=fun G=>by
  show stepF _ _ _ _ _ _ _ _=_
  rw[lg_step,← hcs];rfl
 have s3:∀ (G:St→Option PV),(fun st=>stepF (en lLg) hLg (n+4) false fLg [1,1,0,1,0] st (fun st=>pnorm (hLg.loop.lookup 0) st G)) (frLg cs 3 3)=some (.bool false):=fun G=>by
  show stepF _ _ _ _ _ _ _ _=_
  rw[lg_step];rfl
 have w1:IntKind.i64.wrap ((0:Int)+1)=1:=by rw[wrapI_of (by omega) (by omega)];rfl
 have w2:IntKind.i64.wrap ((1:Int)+1)=2:=by rw[wrapI_of (by omega) (by omega)];rfl
 have w3:IntKind.i64.wrap ((2:Int)+1)=3:=by rw[wrapI_of (by omega) (by omega)];rfl
 unfold lgL
 rw[loopF_succ]
 refine (s0 _).trans ?_
 refine (lgI_loop (n+4) _ cs 3 0 r.ne r.eq (by omega) r.eq.length 0 (n+4) (by omega) (by omega)).trans ?_
 rw[List.drop_zero,w1]
 rcases r.eq.all valSm with _|_
 ·rfl
 rw[cond_true,loopF_succ]
 refine (s1 _).trans ?_
 refine (lgI_loop (n+4) _ cs 3 1 r.nlo r.lo (by omega) r.lo.length 0 (n+4) (by omega) (by omega)).trans ?_
 rw[List.drop_zero,w2]
 rcases r.lo.all valSm with _|_
 ·rfl
 rw[cond_true,loopF_succ]
 refine (s2 _).trans ?_
 refine (lgI_loop (n+4) _ cs 3 2 r.nhi r.hi (by omega) r.hi.length 0 (n+4) (by omega) (by omega)).trans ?_
 rw[List.drop_zero,w3]
 rcases r.hi.all valSm with _|_
 ·rfl
 rw[cond_true,loopF_succ]
 exact s3 _
def p_long23:PFn:=⟨fun xs k=>match xs with|[.sl _ 2 lr cr,.agg xc,.agg rc]=>(decG 2 rwG lr cr).bind fun rs=>(idxG xc).bind fun x=>(rngG rc).bind fun r=>bif decide (rs.length≤1000000) then k (.bool (longS rs x r)) else none|_=>none,false⟩
theorem ok_long23:FOK NGk Tabs 8 p_long23:=by
 refine fok wokk (allOK_cons ok_Small allOK_nil) (h:=hLg) Tryz.func8 rfl (by decide) ?_ ?_
 ·intro R xs k
  simp only[p_long23]
  split
  ·simp only[Option.bind_assoc]
   congr 1;funext rs;congr 1;funext x;congr 1;funext r
   cases decide (rs.length≤1000000)<;>rfl
  ·rfl
 ·intro xs r h
  simp only[p_long23] at h
  split at h
  ·rename_i nl lr cr xc rc
   obtain⟨rs,h1,ha⟩:=Option.bind_eq_some_iff.1 h
   obtain⟨x,h2,hd⟩:=Option.bind_eq_some_iff.1 ha
   obtain⟨g,h3,he⟩:=Option.bind_eq_some_iff.1 hd
   clear h ha hd
   obtain⟨rfl,rfl⟩:=decG_inv rwG_inv h1
   obtain rfl:=idxG_inv _ _ h2
   obtain rfl:=rngG_inv _ _ h3
   have h:=he
   clear he
   rcases hb:decide (rs.length≤1000000) with _|_<;>rw[hb] at h
   ·cases h
   refine⟨1010,(lg_raw 1010 nl _ _ x.id x.name x.nl x.cols.length (colC x.cols) x.u x.st g.ne g.eq.length (valsC g.eq) g.nlo g.lo.length (valsC g.lo) g.lout g.nhi g.hi.length (valsC g.hi) g.hout).trans ?_⟩
   rw[← h]
   unfold smO
   rw[decG_of rwC_len rwG_of,Option.bind_some,hb,cond_true,cond_true]
   unfold longS
   show (bif lgB (smS rs) x.cols.length g.eq.length g.lo.length g.hi.length then some (PV.bool true) else _)=_
   rcases hl:lgB (smS rs) x.cols.length g.eq.length g.lo.length g.hi.length with _|_
   ·obtain⟨_,_,q1,q2,q3⟩:=lgB_false hl
    rw[cond_false,Bool.false_or]
    exact lg_loop 1010 (by omega) g q1 q2 q3
   ·rfl
  ·cases h
theorem n13_raw (n:Int):prun (en []) ⟨[],[]⟩ 0 false Tryz.f51 [.int .i64 n]=some (.agg [.int .i64 2,.int .i64 n,.int .i64 0,.str []]):=by kernel_rfl
theorem ok_num13:FOK NGk Tabs 51 p_numV:=by
 refine fok wokk allOK_nil (h:=⟨[],[]⟩) Tryz.func51 rfl (by decide) ?_ ?_
 ·intro R xs k
  simp only[p_numV]
  split<;>rfl
 ·intro xs r h
  simp only[p_numV] at h
  split at h
  ·exact⟨0,(n13_raw _).trans h⟩
  ·cases h
theorem oneO_eq {R:Type}{a n c:Int}{s:List UInt8}{K:List UInt8→Option R}(h:s.length≤1000000):oneO a n c s K=K (enc ⟨a,n,c,s⟩):=cond_t (decide_eq_true h)
noncomputable def lRe:List (FuncId×PFn):=[(51,p_numV),(46,p_One),(22,p_Values)]
theorem ok_lRe:AllOK NGk Tabs lRe:=allOK_cons ok_num13 (allOK_cons ok_One (allOK_cons (ok_Values ok_refGet) allOK_nil))
def hRe:Hints:=⟨[],[(0,⟨[(5,false),(7,false),(22,false),(23,false),(24,false)],[5]⟩)]⟩
noncomputable def fRe:Func:=Tryz.f20
def frRe (r0:Int)(n1:Option Bool)(l1:Nat)(c1:List PV)(s:List UInt8)(nv:Option Bool)(lv:Nat)(cv:List PV)(L i:Int):St :=
 frame 39 [(5,(.ptr 5 0,0)),(7,(.str s,0)),(22,(.sl nv 4 lv cv,0)),(23,(.int .i64 L,0)),(24,(.int .i64 i,0))] [(5,[(.int .i64 r0,0),(.sl n1 5 l1 c1,0)])]
noncomputable def reLoop (fu n:Nat)(st:St):Option PV:=loopF (en lRe) hRe fu false fRe [1,1,0,1,0] 0 n st
theorem re_raw (fu:Nat)(t x0:Int)(x1:List UInt8)(n9:Option Bool)(l9:Nat)(c9:List PV)(x3:Bool)(x4:Int)(r0:Int)(n1:Option Bool)(l1:Nat)(c1:List PV) :
  prun (en lRe) hRe fu false fRe [.int .i64 t,.agg [.int .i64 x0,.str x1,.sl n9 1 l9 c9,.bool x3,.int .i64 x4],.agg [.int .i64 r0,.sl n1 5 l1 c1]] =
  oneO 2 t 0 [] fun y1=>catO [105] y1 (oneO 2 x0 0 [] fun y2=>catO (105::y1) y2 (valsO l9 c9 l1 c1 fun p=>reLoop fu fu (frRe r0 n1 l1 c1 (105::(y1++y2)) (some p.1.isEmpty) p.1.length (valsC (valsOf p.1 p.2)) (p.1.length:Int) 0))):=prunN_eq.trans (by kernel_rfl)
theorem re_step (fu:Nat)(r0:Int)(n1:Option Bool)(l1:Nat)(c1:List PV)(s:List UInt8)(nv:Option Bool)(lv:Nat)(cv:List PV)(L i:Int)(K:St→Option PV) :
  stepF (en lRe) hRe fu false fRe [1,1,0,1,0] (frRe r0 n1 l1 c1 s nv lv cv L i) (fun st=>pnorm (hRe.loop.lookup 0) st K) =
  bif decide (i<L) then ixV lv cv i fun a n b t=>oneO a n b t fun y=>catO s y (K (frRe r0 n1 l1 c1 (s++y) nv lv cv L (IntKind.i64.wrap (i+1))))
  else oneO 2 r0 0 [] fun y=>catO s y (some (.str (s++y))):=by kernel_rfl
theorem re_loop (fu:Nat)(r0:Int)(n1:Option Bool)(l1:Nat)(c1:List PV)(nv:Option Bool)(vs:List Val)(hl:vs.length≤90000)(hs:∀ v∈vs,v.s.length≤1000000)(t x:Int):∀ (k i n:Nat),i+k=vs.length→k<n →
  reLoop fu n (frRe r0 n1 l1 c1 (105::encs (numV t::numV x::vs.take i)) nv vs.length (valsC vs) (vs.length:Int) (i:Int))=some (.str (105::encs (numV t::numV x::(vs++[numV r0]))))
 |k,i,0,_,h=>by omega
 |0,i,n+1,hi,hn=>by
  have hle:=encs_length (numV t::numV x::vs.take i)
  have hlo:=enc_length (numV r0)
  unfold reLoop
  rw[loopF_succ,re_step,cond_f (decide_eq_false (by omega))]
  have e:encs (numV t::numV x::(vs++[numV r0]))=encs (numV t::numV x::vs.take i)++enc (numV r0):=by
   rw[List.take_of_length_le (by omega)]
   simp[encs]
  rw[oneO_eq (by simp),catO_eq (by simp only[List.length_cons,List.length_take] at hle ⊢;show _+(enc (numV r0)).length≤_;omega),e]
  rfl
 |k+1,i,n+1,hi,hn=>by
  have hc:=List.getElem?_eq_getElem (l:=vs) (i:=i) (by omega)
  have hsv:=hs vs[i] (List.getElem_mem _)
  have ih:=re_loop fu r0 n1 l1 c1 nv vs hl hs t x k (i+1) n (by omega) (by omega)
  have hle:=encs_length (numV t::numV x::vs.take i)
  have hlo:=enc_length vs[i]
  have e:encs (numV t::numV x::vs.take (i+1))=encs (numV t::numV x::vs.take i)++enc vs[i]:=by
   rw[List.take_add_one,hc]
   simp only[encs,Option.toList_some,List.flatMap_cons,List.flatMap_append,List.flatMap_nil,List.append_nil,List.append_assoc]
  rw[e] at ih
  unfold reLoop at ih ⊢
  rw[loopF_succ,re_step,cond_t (decide_eq_true (by omega)),ixV_eq hc,oneO_eq hsv,catO_eq (by simp only[List.length_cons,List.length_take] at hle ⊢;show _+(enc vs[i]).length≤_;omega),wrapI_of (by omega) (by omega)]
  exact ih
def celsSm (l:List Cel):Bool:=l.all fun c=>decide (c.2.s.length≤1000000)
theorem colV_sm {l:List Cel}(h:celsSm l=true)(j:Int):(colV l j).s.length≤1000000:=by
 induction l with
 |nil=>simp[colV,vnull]
 |cons c l ih =>
  unfold celsSm at h ih
  rw[List.all_cons,Bool.and_eq_true] at h
  simp only[colV]
  split
  ·exact of_decide_eq_true h.1
  ·exact ih h.2
def p_REnt:PFn:=⟨fun xs k=>match xs with|[.int .i64 t,.agg [.int .i64 x0,.str _,.sl _ 1 n9 c9,.bool _,.int .i64 _],.agg [.int .i64 r0,.sl _ 5 n1 c1]]=>(entK n9 c9 n1 c1).bind fun p=>bif celsSm p.2 then k (.str (entL t x0 p.1 p.2 r0)) else none|_=>none,false⟩
theorem ok_REnt:FOK NGk Tabs 20 p_REnt:=by
 refine fok wokk ok_lRe (h:=hRe) Tryz.func20 rfl (by decide) ?_ ?_
 ·intro R xs k
  simp only[p_REnt]
  split
  ·rw[Option.bind_assoc]
   congr 1
   funext p
   exact cond_nat
  ·rfl
 ·intro xs r h
  simp only[p_REnt] at h
  split at h
  ·rename_i t x0 x1 n9 l9 c9 x3 x4 r0 n1 l1 c1
   obtain⟨p,h1,h⟩:=Option.bind_eq_some_iff.1 h
   rcases hb:celsSm p.2 with _|_<;>rw[hb] at h
   ·cases h
   rw[cond_true] at h
   unfold entK at h1
   obtain⟨q,h4,h3⟩:=Option.bind_eq_some_iff.1 h1
   split at h3
   ·rename_i hl
    injection h3 with h3
    subst h3
    refine⟨q.1.length+1,(re_raw _ t x0 x1 n9 l9 c9 x3 x4 r0 n1 l1 c1).trans ?_⟩
    have g1:=enc_length (numV t)
    have g2:=enc_length (numV x0)
    rw[oneO_eq (by simp),catO_eq (by simp only[List.length_cons,List.length_nil];show _+(enc (numV t)).length≤_;omega),oneO_eq (by simp),catO_eq (by simp only[List.length_cons];show (enc (numV t)).length+1+(enc (numV x0)).length≤_;omega)]
    unfold valsO
    rw[h4,Option.bind_some]
    have:=re_loop (q.1.length+1) r0 n1 l1 c1 (some q.1.isEmpty) (valsOf q.1 q.2) (by rw[valsOf_len];exact hl) (fun v hv=>by
     obtain⟨j,_,rfl⟩:=List.mem_map.1 hv
     exact colV_sm hb j) t x0 q.1.length 0 (q.1.length+1) (by rw[valsOf_len];omega) (by omega)
    rw[valsOf_len] at this
    refine Eq.trans ?_ (this.trans h)
    have e:encs (numV t::numV x0::(valsOf q.1 q.2).take 0)=enc (numV t)++enc (numV x0):=by simp[encs]
    rw[e]
    rfl
   ·cases h3
  ·cases h
def hIn:Hints:=⟨[],[(0,⟨[(0,false),(3,false),(11,false),(12,false),(13,false)],[3]⟩)]⟩
end Go.Proofs.YthjmjoioagocdaaGreatDoor
end
section
set_option maxRecDepth 100000
namespace Go.Proofs.YthjmjoioagocdaaGreatDoor
open Go.RowKit
open TS (kl_irr kl_trans kl_tri kl_asym kl_le_lt kl_lt_le)
def leK (a b:List UInt8):Bool:=!Op.bytesLess b a
theorem leK_or (a b:List UInt8):(Op.bytesLess a b||a==b)=leK a b:=by
 unfold leK
 rcases h:Op.bytesLess a b with _|_
 ·rcases h2:Op.bytesLess b a with _|_
  ·have:=kl_tri h h2
   subst this
   simp
  ·have:a≠b:=by rintro rfl;rw[kl_irr] at h2;cases h2
   simp[this]
 ·simp[kl_asym h]
theorem lt_above (b r:List UInt8)(h:aboveL b≠[]):Op.bytesLess (b++r) (aboveL b)=true:=by
 rw[lss_txt]
 have:=(above_law b r h).1
 rw[textCmp_txt] at this
 exact decide_eq_true this
end Go.Proofs.YthjmjoioagocdaaGreatDoor
end
section
set_option maxRecDepth 100000
namespace Go.Proofs.YthjmjoioagocdaaGreatDoor
open Go.RowKit
def rentO {R:Type}(t x0:Int)(n9:Nat)(c9:List PV)(r0:Int)(n1:Nat)(c1:List PV)(K:List UInt8→Option R):Option R:=(entK n9 c9 n1 c1).bind fun p=>bif celsSm p.2 then K (entL t x0 p.1 p.2 r0) else none
theorem rentO_eq {R:Type}{t x0 r0:Int}{cols:List Int}{l:List Cel}(h1:cols.length≤90000)(h2:l.length≤1000000)(h3:celsSm l=true){K:List UInt8→Option R}:rentO t x0 cols.length (colC cols) r0 l.length (celsC l) K=K (entL t x0 cols l r0):=by
 unfold rentO entK
 rw[valsK_of (by omega) h2,Option.bind_some,if_pos h1,Option.bind_some]
 exact cond_t h3
theorem k13_raw (t i:Int):prun (en [(51,p_numV),(60,p_RPut)]) ⟨[],[]⟩ 0 false Tryz.f31 [.int .i64 t,.int .i64 i] =
  catO [114] (encs [numV t,numV i]) (some (.str ([114]++encs [numV t,numV i]))):=by kernel_rfl
def p_K13:PFn:=⟨fun xs k=>match xs with|[.int .i64 t,.int .i64 i]=>bif decide ((encs [numV t,numV i]).length≤1000000) then k (.str (keyL t i)) else none|_=>none,false⟩
theorem ok_K13:FOK NGk Tabs 31 p_K13:=by
 refine fok wokk (allOK_cons ok_num13 (allOK_cons ok_RPut allOK_nil)) (h:=⟨[],[]⟩) Tryz.func31 rfl (by decide) ?_ ?_
 ·intro R xs k
  simp only[p_K13]
  split
  ·rename_i t i
   cases decide ((encs [numV t,numV i]).length≤1000000)<;>rfl
  ·rfl
 ·intro xs r h
  simp only[p_K13] at h
  split at h
  ·rename_i t i
   rcases hb:decide ((encs [numV t,numV i]).length≤1000000) with _|_<;>rw[hb] at h
   ·cases h
   ·have hs:(encs [numV t,numV i]).length≤1000000:=of_decide_eq_true hb
    exact⟨0,(k13_raw t i).trans ((catO_eq (by simp only[List.length_cons,List.length_nil];omega)).trans h)⟩
  ·cases h
end Go.Proofs.YthjmjoioagocdaaGreatDoor
end
section
set_option maxRecDepth 100000
namespace Go.Proofs.YthjmjoioagocdaaGreatDoor
open Go.RowKit
open TS (insK Srt Ky p_Kp ok_Kp prG prC prsC kpV putW putW_ins NGt Wt wokt prsC prC_len prG_of prG_inv)
noncomputable def lSt:List (FuncId×PFn):=[(32,p_RPt),(31,p_K13),(30,p_Kp),(20,p_REnt)]
theorem ok_lSt:AllOK NGt Wt lSt:=allOK_cons (ok_RPt ok_RT) (allOK_cons ok_K13 (allOK_cons ok_Kp (allOK_cons ok_REnt allOK_nil)))
noncomputable def fSt:Func:=Tryz.f9
def hSt:Hints:=⟨[],[(0,⟨[(2,false),(4,false),(7,false),(11,false),(12,false),(13,false)],[4]⟩)]⟩
def frSt (sp x0:Int)(x1:List UInt8)(nx:Option Bool)(lx:Nat)(cx:List PV)(x3:Bool)(x4:Int)(nl:Option Bool)(n:Nat)(c:List PV)(L i:Int)(l:List (Ky×Ky)):St :=
 frame 58 [(2,(.int .u8 sp,0)),(4,(.ptr 4 0,0)),(7,(.sl (some l.isEmpty) 2 l.length (prsC l),0)),(11,(.sl nl 2 n c,0)),(12,(.int .i64 L,0)),(13,(.int .i64 i,0))]
  [(4,[(.int .i64 x0,0),(.str x1,0),(.sl nx 1 lx cx,0),(.bool x3,0),(.int .i64 x4,0)])]
def frSt0 (sp x0:Int)(x1:List UInt8)(nx:Option Bool)(lx:Nat)(cx:List PV)(x3:Bool)(x4:Int)(nl:Option Bool)(n:Nat)(c:List PV)(L i:Int)(no:Option Bool)(lo:Nat)(co:List PV):St :=
 frame 58 [(2,(.int .u8 sp,0)),(4,(.ptr 4 0,0)),(7,(.sl no 2 lo co,0)),(11,(.sl nl 2 n c,0)),(12,(.int .i64 L,0)),(13,(.int .i64 i,0))]
  [(4,[(.int .i64 x0,0),(.str x1,0),(.sl nx 1 lx cx,0),(.bool x3,0),(.int .i64 x4,0)])]
noncomputable def stLoop (fu n:Nat)(st:St):Option PV:=loopF (en lSt) hSt fu false fSt [1,1,0,1,0] 0 n st
def ixW {R:Type}(n:Nat)(c:List PV)(i:Int)(K:Int→Option Bool→Nat→List PV→Option R):Option R :=
 bif decide (0≤i)&&decide (i<(n:Int)) then
  ((c.drop (i.toNat * 2)).take 2).head?.bind fun v=>(PV.asInt .i64 v).bind fun q=>((c.drop (i.toNat * 2)).take 2).tail.head?.bind fun v=>(PV.asSl 5 v).bind fun p=>K q p.1 p.2.1 p.2.2 else none
theorem ixW_eq {R:Type}{l:List Rw}{i:Nat}{x:Rw}{K:Int→Option Bool→Nat→List PV→Option R}(h:l[i]? = some x):ixW l.length (l.flatMap rwC) (i:Int) K=K x.1 x.2.1 x.2.2.length (celsC x.2.2):=by
 have:=(List.getElem?_eq_some_iff.1 h).1
 unfold ixW
 rw[cond_t (by rw[decide_eq_true (by omega),decide_eq_true (by omega)];rfl),Int.toNat_natCast,flat_at rwC_len h]
 rfl
def rptO {R:Type}(n:Nat)(c:List PV)(K:Ky→Option R):Option R:=(decG 5 celG n c).bind fun l=>bif decide (l.length≤1000000)&&l.all cGood then K (putB l) else none
def k13O {R:Type}(t i:Int)(K:Ky→Option R):Option R:=bif decide ((encs [numV t,numV i]).length≤1000000) then K (keyL t i) else none
def kpO {R:Type}(n:Nat)(c:List PV)(k v:Ky)(K:List (Ky×Ky)→Option R):Option R:=(decG 2 prG n c).bind fun l=>bif decide (l.length≤1000000) then K (putW k v false l) else none
def remO {R:Type}(i sp:Int)(K:Int→Option R):Option R:=bif IntKind.i64.wrap sp==0 then none else K (i.tmod (IntKind.i64.wrap sp))
section
variable {R:Type} (sp x0:Int) (lx:Nat) (cx:List PV) (q:Int) (m:Nat) (d:List PV) (i:Int) (G:List (Ky × Ky)→Option R)
def stD (lo:Nat)(co:List PV):Option R:=rentO 3 x0 lx cx q m d fun e=>kpO lo co e [] G
def stB (lo:Nat)(co:List PV)(v:Ky):Option R:=k13O 3 q fun k=>kpO lo co k v fun l=>stD x0 lx cx q m d G l.length (prsC l)
def stA (lo:Nat)(co:List PV)(v:Ky):Option R:=bif !(sp==0) then remO i sp fun z=>bif z != 1 then stB x0 lx cx q m d G lo co v else stD x0 lx cx q m d G lo co else stB x0 lx cx q m d G lo co v
def stR (lo:Nat)(co:List PV)(v:Ky):Option R:=bif decide (0<sp) then remO i sp fun z=>bif z==2 then catO v [63] (stA sp x0 lx cx q m d i G lo co (v++[63])) else stA sp x0 lx cx q m d i G lo co v else stA sp x0 lx cx q m d i G lo co v
end
def stEnd (lo:Nat)(co:List PV):Option PV:=k13O 4 1 fun k=>kpO lo co k [111,116,104,101,114] fun l=>kpO l.length (prsC l) [115] [115,99,104,101,109,97] fun l=>some (kpV l)
theorem st_raw (fu:Nat)(sp x0:Int)(x1:List UInt8)(nx:Option Bool)(lx:Nat)(cx:List PV)(x3:Bool)(x4:Int)(nl:Option Bool)(n:Nat)(c:List PV) :
  prun (en lSt) hSt fu false fSt [.sl nl 2 n c,.agg [.int .i64 x0,.str x1,.sl nx 1 lx cx,.bool x3,.int .i64 x4],.int .u8 sp]=stLoop fu fu (frSt sp x0 x1 nx lx cx x3 x4 nl n c (n:Int) 0 []):=prunN_eq.trans (by kernel_rfl)
theorem st_step (fu:Nat)(sp x0:Int)(x1:List UInt8)(nx:Option Bool)(lx:Nat)(cx:List PV)(x3:Bool)(x4:Int)(nl:Option Bool)(n:Nat)(c:List PV)(L i:Int)(no:Option Bool)(lo:Nat)(co:List PV)(K:St→Option PV) :
  stepF (en lSt) hSt fu false fSt [1,1,0,1,0] (frSt0 sp x0 x1 nx lx cx x3 x4 nl n c L i no lo co) (fun st=>pnorm (hSt.loop.lookup 0) st K) =
  bif decide (i<L) then ixW n c i fun q fl m d=>rptO m d fun v=>stR sp x0 lx cx q m d i (fun l=>K (frSt sp x0 x1 nx lx cx x3 x4 nl n c L (IntKind.i64.wrap (i+1)) l)) lo co v
  else stEnd lo co:=by kernel_rfl
def stV (sp i:Int)(r:Rw):Ky:=if 0<sp∧i.tmod sp=2 then putB r.2.2++[63] else putB r.2.2
def stPut (sp i:Int)(r:Rw)(v:Ky)(l:List (Ky×Ky)):List (Ky×Ky):=if sp=0∨i.tmod sp≠1 then insK (keyL 3 r.1) v l else l
def stOne (sp i:Int)(x:Idx)(r:Rw)(l:List (Ky×Ky)):List (Ky×Ky):=insK (entL 3 x.id x.cols r.2.2 r.1) [] (stPut sp i r (stV sp i r) l)
def stAll (sp:Int)(x:Idx):Nat→List Rw→List (Ky×Ky)→List (Ky×Ky)
 |_,[],l=>l
 |i,r::rs,l=>stAll sp x (i+1) rs (stOne sp i x r l)
def stFin (l:List (Ky×Ky)):List (Ky×Ky):=insK [115] [115,99,104,101,109,97] (insK (keyL 4 1) [111,116,104,101,114] l)
def storeS (sp:Int)(x:Idx)(rs:List Rw):List (Ky×Ky):=stFin (stAll sp x 0 rs [])
theorem insK_lenG {β:Type}{k:Ky}{v:β}:∀ (l:List (Ky×β)),(insK k v l).length≤l.length+1
 |[]=>Nat.le_refl _
 |p::r=>by
  rw[insK]
  split
  ·exact Nat.le_succ _
  ·split
   ·exact Nat.le_refl _
   ·have:=insK_lenG (k:=k) (v:=v) r
    rw[List.length_cons,List.length_cons]
    omega
theorem encs_len:∀ l:List Val,(encs l).length≤500 * l.length
 |[]=>Nat.le_refl _
 |v::l=>by
  have h1:=enc_length v
  have h2:=encs_len l
  show (enc v++encs l).length≤_
  rw[List.length_append,List.length_cons]
  omega
theorem k13O_eq {R:Type}{t i:Int}{K:Ky→Option R}:k13O t i K=K (keyL t i):=by
 unfold k13O
 have:=encs_len [numV t,numV i]
 exact cond_t (decide_eq_true (by simp only[List.length_cons,List.length_nil] at this;omega))
theorem kpO_eq {R:Type}{l:List (Ky×Ky)}(h:l.length≤1000000)(hs:Srt l){k v:Ky}{K:List (Ky×Ky)→Option R}:kpO l.length (prsC l) k v K=K (insK k v l):=by
 unfold kpO prsC
 rw[decG_of prC_len prG_of,Option.bind_some,cond_t (decide_eq_true h),putW_ins hs]
theorem rptO_eq {R:Type}{l:List Cel}(h:l.length≤1000000)(hg:l.all cGood=true){K:Ky→Option R}:rptO l.length (celsC l) K=K (putB l):=by
 unfold rptO celsC
 rw[decG_of celC_len celG_of,Option.bind_some,cond_t (by rw[decide_eq_true h,hg];rfl)]
theorem remO_eq {R:Type}{i sp:Int}(h:0<sp∧sp≤255){K:Int→Option R}:remO i sp K=K (i.tmod sp):=by
 unfold remO
 rw[wrapI_of (by omega) (by omega),cond_f (beq_eq_false_iff_ne.2 (by omega))]
section
variable {R:Type} {sp:Int} {x:Idx} {r:Rw} {G:List (Ky × Ky)→Option R} {l:List (Ky × Ky)}
def rwGd (r:Rw):Bool:=(decide (r.2.2.length≤20)&&r.2.2.all celSm)&&r.2.2.all cGood
theorem rwGd_sm (h:rwGd r=true):r.2.2.length≤20∧celsSm r.2.2=true∧r.2.2.all cGood=true:=by
 unfold rwGd at h
 simp only[Bool.and_eq_true,decide_eq_true_eq] at h
 refine⟨h.1.1,?_,h.2⟩
 unfold celsSm
 rw[List.all_eq_true]
 intro c hc
 have:=of_decide_eq_true (List.all_eq_true.1 h.1.2 c hc)
 exact decide_eq_true (by omega)
theorem stD_eq (hx:x.cols.length≤6)(hr:rwGd r=true)(hl:l.length≤900000)(hs:Srt l):stD x.id x.cols.length (colC x.cols) r.1 r.2.2.length (celsC r.2.2) G l.length (prsC l)=G (insK (entL 3 x.id x.cols r.2.2 r.1) [] l):=by
 obtain⟨h1,h2,h3⟩:=rwGd_sm hr
 unfold stD
 rw[rentO_eq (by omega) (by omega) h2,kpO_eq (by omega) hs]
theorem stB_eq (hx:x.cols.length≤6)(hr:rwGd r=true)(hl:l.length≤800000)(hs:Srt l){v:Ky}:stB x.id x.cols.length (colC x.cols) r.1 r.2.2.length (celsC r.2.2) G l.length (prsC l) v=G (insK (entL 3 x.id x.cols r.2.2 r.1) [] (insK (keyL 3 r.1) v l)):=by
 unfold stB
 have:=insK_lenG (k:=keyL 3 r.1) (v:=v) l
 rw[k13O_eq,kpO_eq (by omega) hs,stD_eq hx hr (by omega) hs.ins]
theorem stA_eq (hsp:0≤sp∧sp≤255)(i:Nat)(hx:x.cols.length≤6)(hr:rwGd r=true)(hl:l.length≤800000)(hs:Srt l){v:Ky}:stA sp x.id x.cols.length (colC x.cols) r.1 r.2.2.length (celsC r.2.2) (i:Int) G l.length (prsC l) v=G (insK (entL 3 x.id x.cols r.2.2 r.1) [] (stPut sp i r v l)):=by
 unfold stA stPut
 by_cases h0:sp=0
 ·rw[cond_f (by rw[h0];rfl),stB_eq hx hr hl hs,if_pos (.inl h0)]
 ·rw[cond_t (by rw[beq_eq_false_iff_ne.2 h0];rfl),remO_eq (by omega)]
  by_cases h1:(i:Int).tmod sp=1
  ·rw[cond_f (by rw[h1];rfl),stD_eq hx hr (by omega) hs,if_neg (fun q=>q.elim h0 (fun e=>e h1))]
  ·rw[cond_t (bne_iff_ne.2 h1),stB_eq hx hr hl hs,if_pos (.inr h1)]
theorem celB_len2 {c:Cel}(h:celSm c=true)(hg:cGood c=true):(celB c).length≤300:=by
 have h0:c.2.s.length≤250:=of_decide_eq_true h
 have h1:=numB_len c.1
 have h2:=numB_len c.2.kind
 have h3:=numB_len c.2.n
 have h4:=numB_len c.2.scale
 have h5:=numB_len c.2.s.length
 unfold celB vlB txB
 rw[List.length_append,List.length_append]
 split
 ·omega
 ·split
  ·rw[List.length_append];omega
  ·rw[List.length_append];omega
theorem putB_len2 {l:List Cel}(hl:l.length≤20)(h:l.all celSm=true)(hg:l.all cGood=true):(putB l).length≤6009:=by
 have h1:=numB_len l.length
 have:∀ l:List Cel,l.all celSm=true→l.all cGood=true→(putC l).length≤300 * l.length:=by
  intro l
  induction l with
  |nil=>intro _ _;exact Nat.le_refl _
  |cons c l ih =>
   intro a b
   rw[List.all_cons,Bool.and_eq_true] at a b
   have e1:=ih a.2 b.2
   have e2:=celB_len2 a.1 b.1
   show (celB c++putC l).length≤_
   rw[List.length_append,List.length_cons]
   omega
 have:=this l h hg
 unfold putB
 rw[List.length_append]
 omega
theorem stR_eq (hsp:0≤sp∧sp≤255)(i:Nat)(hx:x.cols.length≤6)(hr:rwGd r=true)(hl:l.length≤800000)(hs:Srt l):stR sp x.id x.cols.length (colC x.cols) r.1 r.2.2.length (celsC r.2.2) (i:Int) G l.length (prsC l) (putB r.2.2)=G (stOne sp i x r l):=by
 have hb:(putB r.2.2).length≤6009:=by
  unfold rwGd at hr
  simp only[Bool.and_eq_true,decide_eq_true_eq] at hr
  exact putB_len2 hr.1.1 hr.1.2 hr.2
 unfold stR stOne stV
 by_cases h0:0<sp
 ·rw[cond_t (decide_eq_true h0),remO_eq (by omega)]
  by_cases h1:(i:Int).tmod sp=2
  ·rw[cond_t (by rw[h1];rfl),catO_eq (by simp only[List.length_cons,List.length_nil];omega),stA_eq hsp i hx hr hl hs,if_pos ⟨h0,h1⟩]
  ·rw[cond_f (beq_eq_false_iff_ne.2 h1),stA_eq hsp i hx hr hl hs,if_neg (fun q=>h1 q.2)]
 ·rw[cond_f (decide_eq_false h0),stA_eq hsp i hx hr hl hs,if_neg (fun q=>h0 q.1)]
end
theorem stPut_srt {sp i:Int}{r:Rw}{v:Ky}{l:List (Ky×Ky)}(hs:Srt l):Srt (stPut sp i r v l):=by
 unfold stPut
 split
 ·exact hs.ins
 ·exact hs
theorem stOne_srt {sp i:Int}{x:Idx}{r:Rw}{l:List (Ky×Ky)}(hs:Srt l):Srt (stOne sp i x r l):=(stPut_srt hs).ins
theorem stOne_len {sp i:Int}{x:Idx}{r:Rw}{l:List (Ky×Ky)}:(stOne sp i x r l).length≤l.length+2:=by
 have h1:=insK_lenG (k:=entL 3 x.id x.cols r.2.2 r.1) (v:=([]:Ky)) (stPut sp i r (stV sp i r) l)
 have h2:=insK_lenG (k:=keyL 3 r.1) (v:=stV sp i r) l
 unfold stOne
 refine Nat.le_trans h1 ?_
 unfold stPut
 split<;>omega
theorem stAll_srt {sp:Int}{x:Idx}:∀ {rs:List Rw} {i:Nat} {l:List (Ky×Ky)},Srt l→Srt (stAll sp x i rs l)
 |[],_,_,h=>h
 |r::rs,i,l,h=>stAll_srt (rs:=rs) (stOne_srt h)
theorem stAll_len {sp:Int}{x:Idx}:∀ {rs:List Rw} {i:Nat} {l:List (Ky×Ky)},(stAll sp x i rs l).length≤l.length+2 * rs.length
 |[],_,_=>Nat.le_add_right _ _
 |r::rs,i,l=>by
  have h1:=stAll_len (sp:=sp) (x:=x) (rs:=rs) (i:=i+1) (l:=stOne sp i x r l)
  have h2:=stOne_len (sp:=sp) (i:=i) (x:=x) (r:=r) (l:=l)
  rw[stAll,List.length_cons]
  omega
theorem stEnd_eq {l:List (Ky×Ky)}(hl:l.length≤800000)(hs:Srt l):stEnd l.length (prsC l)=some (kpV (stFin l)):=by
 unfold stEnd
 have:=insK_lenG (k:=keyL 4 1) (v:=([111,116,104,101,114]:Ky)) l
 rw[k13O_eq,kpO_eq (by omega) hs,kpO_eq (by omega) hs.ins]
 rfl
theorem st_loop (fu:Nat){sp:Int}(hsp:0≤sp∧sp≤255){x:Idx}(hx:x.cols.length≤6)(nl:Option Bool)(rs:List Rw)(hn:rs.length≤60)(hr:rs.all rwGd=true):∀ (k i n:Nat) (l:List (Ky×Ky)),i+k=rs.length→k<n→l.length≤2 * i→Srt l →
  stLoop fu n (frSt sp x.id x.name x.nl x.cols.length (colC x.cols) x.u x.st nl rs.length (rs.flatMap rwC) (rs.length:Int) (i:Int) l)=some (kpV (stFin (stAll sp x i (rs.drop i) l)))
 |k,i,0,l,_,h,_,_=>by omega
 |0,i,n+1,l,hi,hn1,hl,hs=>by
  unfold stLoop
  rw[loopF_succ]
  refine (st_step fu sp x.id x.name x.nl x.cols.length (colC x.cols) x.u x.st nl rs.length (rs.flatMap rwC) (rs.length:Int) (i:Int) (some l.isEmpty) l.length (prsC l) _).trans ?_
  rw[cond_f (decide_eq_false (by omega)),List.drop_of_length_le (by omega)]
  exact stEnd_eq (by omega) hs
 |k+1,i,n+1,l,hi,hn1,hl,hs=>by
  have hc:=List.getElem?_eq_getElem (l:=rs) (i:=i) (by omega)
  have hg:rwGd rs[i]=true:=List.all_eq_true.1 hr _ (List.getElem_mem _)
  rw[List.drop_eq_getElem_cons (show i<rs.length by omega)]
  generalize rs[i]=r at hc hg
  have h2:=stOne_len (sp:=sp) (i:=i) (x:=x) (r:=r) (l:=l)
  have ih:=st_loop fu hsp hx nl rs hn hr k (i+1) n (stOne sp i x r l) (by omega) (by omega) (by omega) (stOne_srt hs)
  unfold stLoop at ih ⊢
  rw[loopF_succ]
  refine (st_step fu sp x.id x.name x.nl x.cols.length (colC x.cols) x.u x.st nl rs.length (rs.flatMap rwC) (rs.length:Int) (i:Int) (some l.isEmpty) l.length (prsC l) _).trans ?_
  obtain⟨g1,g2,g3⟩:=rwGd_sm hg
  rw[cond_t (decide_eq_true (by omega)),ixW_eq hc,rptO_eq (by omega) g3,stR_eq hsp i hx hg (by omega) hs,wrapI_of (by omega) (by omega)]
  exact ih
def p_St:PFn:=⟨fun xs k=>match xs with
 |[.sl _ 2 n c,.agg xc,.int .u8 sp]=>(decG 2 rwG n c).bind fun rs=>(idxG xc).bind fun x=>bif ((decide (0≤sp)&&decide (sp≤255))&&decide (x.cols.length≤6))&&(decide (rs.length≤60)&&rs.all rwGd) then k (kpV (storeS sp x rs)) else none
 |_=>none,false⟩
theorem ok_St:FOK NGt Wt 9 p_St:=by
 refine fok wokt ok_lSt (h:=hSt) Tryz.func9 rfl (by decide) ?_ ?_
 ·intro R xs k
  simp only[p_St]
  split
  ·rename_i nl n c xc sp
   rw[Option.bind_assoc]
   congr 1
   funext rs
   rw[Option.bind_assoc]
   congr 1
   funext x
   cases ((decide (0≤sp)&&decide (sp≤255))&&decide (x.cols.length≤6))&&(decide (rs.length≤60)&&rs.all rwGd)<;>rfl
  ·rfl
 ·intro xs r h
  simp only[p_St] at h
  split at h
  ·rename_i nl n c xc sp
   obtain⟨rs,h1,h2⟩:=Option.bind_eq_some_iff.1 h
   obtain⟨x,h3,h4⟩:=Option.bind_eq_some_iff.1 h2
   obtain⟨hg,h5⟩:=bif_inv h4
   clear h h2 h4
   injection h5 with h5
   subst h5
   obtain⟨rfl,rfl⟩:=decG_inv rwG_inv h1
   obtain rfl:=idxG_inv _ _ h3
   simp only[Bool.and_eq_true,decide_eq_true_eq] at hg
   obtain⟨⟨hsp,hx⟩,hn,hr⟩:=hg
   refine⟨rs.length+1,(st_raw _ sp x.id x.name x.nl x.cols.length (colC x.cols) x.u x.st nl _ _).trans ?_⟩
   exact st_loop _ hsp hx nl rs hn hr rs.length 0 (rs.length+1) [] (by omega) (by omega) (by simp) List.Pairwise.nil
  ·cases h
end Go.Proofs.YthjmjoioagocdaaGreatDoor
end
section
set_option maxRecDepth 100000
namespace Go.Proofs.YthjmjoioagocdaaGreatDoor.TS
open Go.RowKit
theorem ld_loop2 (l:List (Ky×Ky))(hl:l.length≤20000):∀ (m i:Nat) (x:PV) (o:List (Ky×PV)),i+m=l.length→RootIs x o→o.length≤i →
  ∃ x',RootIs x' (insAll (l.drop i) o)∧∀ (R:Type) (fu:Nat) (kk:List (List PV)→PV→Option R) (nl:Option Bool) (n:Nat),m<n→ldLoop fu kk n (frLd x nl l.length (prsC l) (l.length:Int) (i:Int))=kk [[x']] (.ptr 0 0)
 |0,i,x,o,hi,hx,ho=>by
  refine⟨x,by rw[List.drop_of_length_le (by omega)];exact hx,fun R fu kk nl n hn=>?_⟩
  obtain⟨n,rfl⟩:∃ k,n=k+1:=⟨n-1,by omega⟩
  unfold ldLoop
  rw[loopK_succ,ld_step fu kk hx.isR,cond_f (decide_eq_false (by omega))]
 |m+1,i,x,o,hi,hx,ho=>by
  have hc:=List.getElem?_eq_getElem (l:=l) (i:=i) (by omega)
  rw[List.drop_eq_getElem_cons (show i<l.length by omega)]
  generalize l[i]=p at hc
  obtain⟨x1,h1,h2⟩:=put_law hx (by omega) p.1 p.2
  have:=insK_len1 (k:=p.1) (v:=.str p.2) o
  obtain⟨x',h3,h4⟩:=ld_loop2 l hl m (i+1) x1 _ (by omega) h1 (by omega)
  refine⟨x',h3,fun R fu kk nl n hn=>?_⟩
  obtain⟨n,rfl⟩:∃ k,n=k+1:=⟨n-1,by omega⟩
  have h4:=h4 R fu kk nl n (by omega)
  unfold ldLoop at h4 ⊢
  rw[loopK_succ,ld_step fu kk hx.isR,cond_t (decide_eq_true (by omega)),ixP_eq hc,h2,wrapI_of (by omega) (by omega)]
  exact h4
theorem ld_ex (l:List (Ky×Ky))(hl:l.length≤20000)(hs:Srt l) :
  ∃ x,RootIs x (l.map prV)∧∀ (R:Type) (fu:Nat) (kk:List (List PV)→PV→Option R) (nl:Option Bool),l.length<fu→prunH enLd hLd fu fLd [] [.sl nl 2 l.length (prsC l)] kk=kk [[x]] (.ptr 0 0):=by
 obtain⟨x,h1,h2⟩:=ld_loop2 l hl l.length 0 .nilptr [] (by omega) (.inl ⟨rfl,rfl⟩) (by simp)
 rw[List.drop_zero,insAll_srt l [] hs (fun p _ q hq=>by cases hq),List.nil_append] at h1
 exact⟨x,h1,fun R fu kk nl hf=>(ld_raw fu kk nl _ _).trans (h2 R fu kk nl fu hf)⟩
noncomputable def ldG (l:List (Ky×Ky)):Bool:=@decide (l.length≤20000∧Srt l) (Classical.propDecidable _)
theorem ldG_iff {l:List (Ky×Ky)}:ldG l=true↔l.length≤20000∧Srt l:=by unfold ldG;exact @decide_eq_true_iff _ (Classical.propDecidable _)
noncomputable def rootOf (l:List (Ky×Ky)):PV:=@dite PV (l.length≤20000∧Srt l) (Classical.propDecidable _) (fun h=>Classical.choose (ld_ex l h.1 h.2)) (fun _=>.nilptr)
theorem rootOf_spec {l:List (Ky×Ky)}(h:l.length≤20000∧Srt l):RootIs (rootOf l) (l.map prV)∧∀ (R:Type) (fu:Nat) (kk:List (List PV)→PV→Option R) (nl:Option Bool),l.length<fu→prunH enLd hLd fu fLd [] [.sl nl 2 l.length (prsC l)] kk=kk [[rootOf l]] (.ptr 0 0):=by
 unfold rootOf
 rw[dif_pos h]
 exact Classical.choose_spec (ld_ex l h.1 h.2)
def rootK {S:Type}(x:PV)(k:PV→Option S):Option S:=match x with|.nilptr=>k .nilptr|.eptr cs=>k (.eptr cs)|_=>none
theorem rootK_eq {S:Type}{x:PV}(hx:IsR x)(k:PV→Option S):rootK x k=k x:=by rcases hx with rfl|⟨cs,rfl⟩<;>rfl
theorem rootK_nat {S T:Type}(x:PV)(f:PV→Option S)(k:S→Option T):rootK x (fun x=>(f x).bind k)=(rootK x f).bind k:=by cases x<;>rfl
noncomputable def hLaidS:HFn:=⟨fun bs xs k=>match bs,xs with
 |[],[.sl _ 2 n c]=>(decG 2 prG n c).bind fun l=>bif ldG l then rootK (rootOf l) fun x=>k [[x]] (.ptr 0 0) else none
 |_,_=>none⟩
theorem ok_laidS:HOK NGt Wt 12 hLaidS:=by
 refine hok wokt allOK_nil ok_lhLd allI_nil (h:=hLd) Tryz.func12 rfl (by decide) ?_ ?_
 ·intro R bs xs k
  simp only[hLaidS]
  split
  ·rw[obind_assoc];congr 1;funext l;rw[bif_bind];congr 1;rw[← rootK_nat];rfl
  ·rfl
 ·intro bs xs r h
  simp only[hLaidS] at h
  split at h
  ·rename_i nl n c
   obtain⟨l,hl,ha⟩:=bind_some_inv h
   obtain⟨hg,hb⟩:=bif_inv ha
   obtain⟨rfl,rfl⟩:=decG_inv prG_inv hl
   obtain⟨h1,h2⟩:=rootOf_spec (ldG_iff.1 hg)
   rw[rootK_eq h1.isR] at hb
   exact⟨l.length+1,(h2 _ _ _ nl (Nat.lt_succ_self _)).trans hb⟩
  ·cases h
theorem fok_or {NG:Nat}{W:World→Prop}{f:FuncId}{p p' q:PFn}(hp:FOK NG W f p)(hp':FOK NG W f p')(hn:q.nat)(ho:q.own=false)(h:∀ xs r,q.F xs (R:=PV) some=some r→p.F xs (R:=PV) some=some r∨p'.F xs (R:=PV) some=some r):FOK NG W f q where
 nat:=hn
 call:=by
  intro M xs vs r hW hng hg hr hF
  rcases h xs r hF with h|h
  ·refine (hp.call M xs vs r hW hng hg hr h).imp ?_ ?_
   ·rintro ⟨v,w',h1,U',h2,h3,_⟩
    exact⟨v,w',h1,U',h2,h3,fun e=>by rw[ho] at e;cases e⟩
   ·rintro ⟨h0,h1⟩
    refine⟨h0,h1.mono ?_⟩
    rintro e w' ⟨v,h2,U',h3,h4,_⟩
    exact⟨v,h2,U',h3,h4,fun e=>by rw[ho] at e;cases e⟩
  ·refine (hp'.call M xs vs r hW hng hg hr h).imp ?_ ?_
   ·rintro ⟨v,w',h1,U',h2,h3,_⟩
    exact⟨v,w',h1,U',h2,h3,fun e=>by rw[ho] at e;cases e⟩
   ·rintro ⟨h0,h1⟩
    refine⟨h0,h1.mono ?_⟩
    rintro e w' ⟨v,h2,U',h3,h4,_⟩
    exact⟨v,h2,U',h3,h4,fun e=>by rw[ho] at e;cases e⟩
def p_SmallB:PFn:=⟨fun xs k=>match xs with|[.sl _ 2 n _]=>bif decide (60<(n:Int)) then k (.bool false) else none|_=>none,false⟩
theorem ok_SmallB:FOK NGk Tabs 25 p_SmallB:=by
 refine fok wokk allOK_nil (h:=hSm) Tryz.func25 rfl (by decide) ?_ ?_
 ·intro R xs k
  simp only[p_SmallB]
  split
  ·rename_i nl n c
   cases decide (60<(n:Int))<;>rfl
  ·rfl
 ·intro xs r h
  simp only[p_SmallB] at h
  split at h
  ·rename_i nl n c
   obtain⟨hg,h⟩:=bif_inv h
   refine⟨9,(sm_raw 9 nl n c).trans ?_⟩
   rw[hg]
   exact h
  ·cases h
def p_longB:PFn:=⟨fun xs k=>match xs with|[.sl _ 2 lr _,.agg xc,.agg rc]=>(idxG xc).bind fun _=>(rngG rc).bind fun _=>bif decide (60<(lr:Int)) then k (.bool true) else none|_=>none,false⟩
theorem lgB_raw (nr:Option Bool)(lr:Nat)(cr:List PV)(x0:Int)(x1:List UInt8)(nx:Option Bool)(lx:Nat)(cx:List PV)(x3:Bool)(x4:Int)(ne:Option Bool)(le:Nat)(ce:List PV)(nl:Option Bool)(ll:Nat)(cl:List PV)(lo:Bool)(nh:Option Bool)(lh:Nat)(ch:List PV)(ho:Bool) :
  prun (en [(25,p_SmallB)]) hLg 0 false fLg [.sl nr 2 lr cr,.agg [.int .i64 x0,.str x1,.sl nx 1 lx cx,.bool x3,.int .i64 x4],.agg [.sl ne 4 le ce,.sl nl 4 ll cl,.bool lo,.sl nh 4 lh ch,.bool ho]] =
   bif decide (60<(lr:Int)) then some (.bool true) else none:=by kernel_rfl
theorem ok_longB:FOK NGk Tabs 8 p_longB:=by
 refine fok wokk (allOK_cons ok_SmallB allOK_nil) (h:=hLg) Tryz.func8 rfl (by decide) ?_ ?_
 ·intro R xs k
  simp only[p_longB]
  split
  ·rename_i nl lr cr xc rc
   simp only[Option.bind_assoc]
   congr 1;funext x;congr 1;funext r
   cases decide (60<(lr:Int))<;>rfl
  ·rfl
 ·intro xs r h
  simp only[p_longB] at h
  split at h
  ·rename_i nl lr cr xc rc
   obtain⟨x,h2,ha⟩:=Option.bind_eq_some_iff.1 h
   obtain⟨g,h3,hb⟩:=Option.bind_eq_some_iff.1 ha
   obtain rfl:=idxG_inv _ _ h2
   obtain rfl:=rngG_inv _ _ h3
   exact⟨0,(lgB_raw nl lr cr x.id x.name x.nl x.cols.length (colC x.cols) x.u x.st g.ne g.eq.length (valsC g.eq) g.nlo g.lo.length (valsC g.lo) g.lout g.nhi g.hi.length (valsC g.hi) g.hout).trans hb⟩
  ·cases h
def p_longA:PFn:=⟨fun xs k=>match xs with|[.sl _ 2 lr cr,.agg xc,.agg rc]=>(decG 2 rwG lr cr).bind fun rs=>(idxG xc).bind fun x=>(rngG rc).bind fun r=>k (.bool (longS rs x r))|_=>none,false⟩
theorem ok_longA:FOK NGk Tabs 8 p_longA:=by
 refine fok_or ok_long23 ok_longB ?_ rfl ?_
 ·intro R xs k
  simp only[p_longA]
  split
  ·simp only[Option.bind_assoc]
   rfl
  ·rfl
 ·intro xs r h
  simp only[p_longA] at h
  split at h
  ·rename_i nl lr cr xc rc
   obtain⟨rs,h1,ha⟩:=Option.bind_eq_some_iff.1 h
   obtain⟨x,h2,hb⟩:=Option.bind_eq_some_iff.1 ha
   obtain⟨g,h3,hc⟩:=Option.bind_eq_some_iff.1 hb
   by_cases hn:60<rs.length
   ·right
    obtain⟨rfl,rfl⟩:=decG_inv rwG_inv h1
    simp only[p_longB]
    rw[h2,Option.bind_some,h3,Option.bind_some,cond_t (decide_eq_true (by omega))]
    rw[← hc]
    have:longS rs x g=true:=by
     unfold longS smS
     rw[decide_eq_false (by omega)]
     rfl
    rw[this]
   ·left
    simp only[p_long23]
    rw[h1,Option.bind_some,h2,Option.bind_some,h3,Option.bind_some,cond_t (decide_eq_true (by omega))]
    exact hc
  ·cases h
def gRw0 (s:Ky):Option (Int×Int×Bool):=bif decide (s.length≤1000000) then some (rowK s) else none
noncomputable def hListR:HFn:=hListS gRw0 gParK gKeyK gGe goR
theorem ok_hListR:HOK NGt Wt 10 hListR:=ok_list ok_Row ok_Parse ok_Key ok_rowOf ok_get
noncomputable def lSr:List (FuncId×PFn):=[(7,p_first23),(8,p_longA),(9,p_St),(14,p_Rs),(13,p_Li),(15,p_Sm2)]
theorem ok_lSr:AllOK NGt Wt lSr:=allOK_cons ok_first23 (allOK_cons ok_longA (allOK_cons ok_St (allOK_cons ok_Rs (allOK_cons ok_Li (allOK_cons ok_Sm2 allOK_nil)))))
noncomputable def lhSr:List (FuncId×HFn):=[(12,hLaidS),(11,hRowsC),(10,hListR)]
theorem ok_lhSr:AllH NGt Wt lhSr:=allH_cons ok_laidS (allH_cons ok_hRowsC (allH_cons ok_hListR allH_nil))
noncomputable def fSr:Func:=Tryz.f3
def zRng:List PV:=[.sl (some true) 4 0 [],.sl (some true) 4 0 [],.bool false,.sl (some true) 4 0 [],.bool false]
def stO {R:Type}(n:Nat)(c xc:List PV)(sp:Int)(K:List (Ky×Ky)→Option R):Option R:=(decG 2 rwG n c).bind fun rs=>(idxG xc).bind fun x=>bif ((decide (0≤sp)&&decide (sp≤255))&&decide (x.cols.length≤6))&&(decide (rs.length≤60)&&rs.all rwGd) then K (storeS sp x rs) else none
noncomputable def ldO {R:Type}(n:Nat)(c:List PV)(K:PV→Option R):Option R:=(decG 2 prG n c).bind fun l=>bif ldG l then rootK (rootOf l) K else none
def rlO {R:Type}(x:PV)(f t:Ky)(K:List (RowC×Int)→Option R):Option R:=(gRf x f).bind fun _=>(rowsB gRw0 goR f t x).bind fun ys=>bif decide (ys.length≤1000000) then K ys else none
def rsO {R:Type}(n:Nat)(c:List PV)(t:Int)(K:List (Rw×Int)→Option R):Option R:=(decG 2 prG n c).bind fun l=>bif decide (l.length≤1000000)&&l.all (fun p=>decide (p.1.length≤100000)&&decide (p.2.length≤1000000)) then K (rsF t l) else none
def liO {R:Type}(n:Nat)(c:List PV)(K:List Rw×Int→Option R):Option R:=(decG 3 fnG n c).bind fun l=>bif decide (l.length≤1000000) then K (liF l) else none
def sm2O {R:Type}(n:Nat)(a:List PV)(m:Nat)(b:List PV)(K:Bool→Option R):Option R:=(decG 2 rwG n a).bind fun a=>(decG 2 rwG m b).bind fun b=>bif decide (a.length≤1000000)&&a.all (fun r=>decide (r.2.2.length≤1000000))&&b.all (fun r=>decide (r.2.2.length≤1000000)) then K (sameR a b) else none
def lgO3 {R:Type}(lr:Nat)(cr xc rc:List PV)(K:Bool→Option R):Option R:=(decG 2 rwG lr cr).bind fun rs=>(idxG xc).bind fun x=>(rngG rc).bind fun r=>K (longS rs x r)
theorem sr_raw (x0:Int) (x1:List UInt8) (nx:Option Bool) (lx:Nat) (cx:List PV) (x3:Bool) (x4:Int) (nl:Option Bool) (n:Nat) (c:List PV) (sp:Int) :
    prun (enH lSr lhSr []) h00 0 false fSr [.sl nl 2 n c,.agg [.int .i64 x0,.str x1,.sl nx 1 lx cx,.bool x3,.int .i64 x4],.int .u8 sp] =
      lgO3 n c [.int .i64 x0,.str x1,.sl nx 1 lx cx,.bool x3,.int .i64 x4] zRng fun b=>bif b then some (.bool true) else
        stO n c [.int .i64 x0,.str x1,.sl nx 1 lx cx,.bool x3,.int .i64 x4] (sp.tmod 5) fun l=>ldO l.length (prsC l) fun x=>rlO x (tblF 3) (aboveL (tblF 3)) fun ys =>
          rsO l.length (prsC l) 3 fun fs=>liO fs.length (fnsC fs) fun p=>sm2O (listR ys).1.length (rwsC (listR ys).1) p.1.length (Go.Proofs.YthjmjoioagocdaaGreatDoor.rwsC p.1) fun z =>
            bif (bif z then (listR ys).2 == p.2 else false) then some (.bool true) else some (.bool false):=by kernel_rfl
theorem takeWhile_filter {β:Type}{B:Ky×β→Bool}:∀ {m:List (Ky×β)},Srt m→(∀ p∈m,∀ q∈m,Op.bytesLess p.1 q.1=true→B q=true→B p=true)→m.takeWhile B=m.filter B
 |[],_,_=>rfl
 |p::m,h,hB=>by
  have h2:=List.pairwise_cons.1 h
  rw[List.takeWhile_cons,List.filter_cons]
  cases hp:B p with
  |true =>
   rw[if_pos rfl,if_pos rfl,takeWhile_filter h2.2 fun a ha b hb=>hB a (List.mem_cons_of_mem _ ha) b (List.mem_cons_of_mem _ hb)]
  |false =>
   rw[if_neg (by simp),if_neg (by simp)]
   refine (List.filter_eq_nil_iff.2 fun q hq hBq=>?_).symm
   have:=hB p List.mem_cons_self q (List.mem_cons_of_mem _ hq) (h2.1 q hq) hBq
   rw[hp] at this
   cases this
def inB (f t k:Ky):Bool:=!Op.bytesLess k f&&Op.bytesLess k t
theorem tw_inB {l:List (Ky×PV)}(h:Srt l)(f:Ky){t:Ky}(ht:t≠[]):(fromK f l).takeWhile (btT t)=l.filter fun p=>inB f t p.1:=by
 have hb:∀ p:Ky×PV,btT t p=Op.bytesLess p.1 t:=by
  intro p
  unfold btT
  rw[cond_t (bne_iff_ne.2 ht),Bool.not_not]
 show (l.filter fun p=>!Op.bytesLess p.1 f).takeWhile (btT t)=_
 rw[takeWhile_filter (List.Pairwise.filter _ h)]
 ·rw[List.filter_filter]
  congr 1
  funext p
  rw[hb]
  unfold inB
  rw[Bool.and_comm]
 ·intro p _ q _ hpq hq
  rw[hb] at hq ⊢
  exact kl_trans hpq hq
def cR (x:Rw×Int):RowC×Int:=((x.1.1,x.1.2.1,x.1.2.2.length,celsC x.1.2.2),x.2)
theorem cR_fnd (i:Int)(b:Ky):cR (fndR i b)=rowG i b:=by
 unfold fndR rowG
 cases parseR b<;>rfl
structure EOK (t:Int)(p:Ky×Ky):Prop where
 k:p.1.length≤100000
 v:p.2.length≤1000000
 a:inB (tblF t) (aboveL (tblF t)) p.1=!(bif !(rowK p.1).2.2 then true else (rowK p.1).1 != t)
theorem rows_of {t:Int}:∀ {l:List (Ky×Ky)},(∀ p∈l,EOK t p)→rowsL gRw0 goR ((l.map prV).filter fun p=>inB (tblF t) (aboveL (tblF t)) p.1)=some ((rsF t l).map cR)
 |[],_=>rfl
 |p::l,h=>by
  have hp:=h p List.mem_cons_self
  have ih:=rows_of (l:=l) fun q hq=>h q (List.mem_cons_of_mem _ hq)
  rw[List.map_cons,List.filter_cons]
  show rowsL _ _ (if inB (tblF t) (aboveL (tblF t)) p.1=true then prV p::_ else _)=_
  rw[hp.a]
  unfold rsF
  rcases hc:(bif !(rowK p.1).2.2 then true else (rowK p.1).1 != t) with _|_
  ·rw[if_pos (show (!false)=true from rfl),cond_false]
   have h2:(rowK p.1).2.2=true:=by
    cases h3:(rowK p.1).2.2 with
    |true=>rfl
    |false=>rw[h3] at hc;cases hc
   unfold rowsL
   rw[show gRw0 (prV p).1=some (rowK p.1) from cond_t (decide_eq_true (by have:=hp.k;show p.1.length≤_;omega)),Option.bind_some,h2,cond_true]
   show (goR (rowK p.1).2.1 p.2).bind _=_
   rw[show goR (rowK p.1).2.1 p.2=some (rowG (rowK p.1).2.1 p.2) from cond_t (decide_eq_true hp.v),Option.bind_some,ih,List.map_cons,cR_fnd]
   rfl
  ·rw[if_neg (show ¬ (!true)=true by simp),cond_true]
   exact ih
theorem listR_of:∀ l:List (Rw×Int),listR (l.map cR)=((liF l).1.map (fun r=>(r.1,r.2.1,r.2.2.length,celsC r.2.2)),(liF l).2)
 |[]=>rfl
 |x::l=>by
  rw[List.map_cons,listR,liF,listR_of l]
  by_cases h:x.2=0
  ·rw[if_pos h,if_pos (show (cR x).2=0 from h)]
   rfl
  ·rw[if_neg h,if_neg (show ¬ (cR x).2=0 from h)]
   rfl
theorem rwsC_of:∀ l:List Rw,rwsC (l.map (fun r=>(r.1,r.2.1,r.2.2.length,celsC r.2.2)))=Go.Proofs.YthjmjoioagocdaaGreatDoor.rwsC l
 |[]=>rfl
 |x::l=>by
  have:=rwsC_of l
  unfold rwsC Go.Proofs.YthjmjoioagocdaaGreatDoor.rwsC at this ⊢
  rw[List.map_cons,List.flatMap_cons,this,List.flatMap_cons]
  rfl
theorem rsF_len (t:Int):∀ l:List (Ky×Ky),(rsF t l).length≤l.length
 |[]=>Nat.le_refl _
 |p::l=>by
  have:=rsF_len t l
  rw[rsF]
  cases (bif !(rowK p.1).2.2 then true else (rowK p.1).1 != t)
  ·rw[cond_false,List.length_cons,List.length_cons];omega
  ·rw[cond_true,List.length_cons];omega
theorem rowsP_cnt:∀ (k:Nat) (l:List UInt8) {q:List Cel×List UInt8},rowsP k l=some q→q.1.length=k
 |0,l,q,h=>by
  rw[rowsP] at h
  injection h with h
  subst h
  rfl
 |k+1,l,q,h=>by
  rw[rowsP] at h
  obtain⟨p,_,h⟩:=Option.bind_eq_some_iff.1 h
  obtain⟨q',h1,rfl⟩:=Option.map_eq_some_iff.1 h
  have:=rowsP_cnt k p.2 h1
  show (p.1::q'.1).length=_
  rw[List.length_cons,this]
theorem parseR_len {l:List UInt8}{cs:List Cel}(h:parseR l=some cs):cs.length≤l.length:=by
 unfold parseR at h
 rcases hn:getN l with _|⟨n,k⟩<;>rw[hn] at h
 ·cases h
 ·simp only at h
  split at h
  ·cases h
  ·obtain⟨q,h1,h2⟩:=Option.bind_eq_some_iff.1 h
   have a:=rowsP_cnt _ _ h1
   have b:=rowsP_len _ _ h1
   rw[List.length_drop] at b
   split at h2
   ·injection h2 with h2
    subst h2
    omega
   ·cases h2
theorem fndR_len {i:Int}{b:Ky}:(fndR i b).1.2.2.length≤b.length:=by
 unfold fndR
 rcases h:parseR b with _|cs
 ·exact Nat.zero_le _
 ·exact parseR_len h
theorem rsF_mem {t:Int}:∀ {l:List (Ky×Ky)},(∀ p∈l,EOK t p)→∀ x∈rsF t l,x.1.2.2.length≤1000000
 |[],_,x,hx=>by cases hx
 |p::l,h,x,hx=>by
  have ih:=rsF_mem (l:=l) fun q hq=>h q (List.mem_cons_of_mem _ hq)
  rw[rsF] at hx
  cases hc:(bif !(rowK p.1).2.2 then true else (rowK p.1).1 != t) with
  |true=>rw[hc,cond_true] at hx;exact ih x hx
  |false =>
   rw[hc,cond_false] at hx
   rcases List.mem_cons.1 hx with rfl|hx
   ·have:=(h p List.mem_cons_self).v
    exact Nat.le_trans fndR_len this
   ·exact ih x hx
theorem liF_mem:∀ {l:List (Rw×Int)} {r:Rw},r∈(liF l).1→∃ x∈l,x.1=r
 |[],r,h=>by cases h
 |x::l,r,h=>by
  rw[liF] at h
  split at h
  ·rcases List.mem_cons.1 h with rfl|h
   ·exact⟨x,List.mem_cons_self,rfl⟩
   ·obtain⟨y,h1,h2⟩:=liF_mem h
    exact⟨y,List.mem_cons_of_mem _ h1,h2⟩
  ·cases h
theorem liF_len:∀ l:List (Rw×Int),(liF l).1.length≤l.length
 |[]=>Nat.le_refl _
 |x::l=>by
  have:=liF_len l
  rw[liF]
  split
  ·show (x.1::(liF l).1).length≤_
   rw[List.length_cons,List.length_cons];omega
  ·exact Nat.zero_le _
theorem ins_mem {β:Type}{k:Ky}{v:β}:∀ {l:List (Ky×β)} {p:Ky×β},p∈insK k v l→p=(k,v)∨p∈l
 |[],p,h=>by
  rw[insK,List.mem_singleton] at h
  exact .inl h
 |q::l,p,h=>by
  rw[insK] at h
  split at h
  ·rcases List.mem_cons.1 h with h|h
   ·exact .inl h
   ·exact .inr (List.mem_cons_of_mem _ h)
  ·split at h
   ·rcases List.mem_cons.1 h with h|h
    ·exact .inl h
    ·exact .inr h
   ·rcases List.mem_cons.1 h with h|h
    ·exact .inr (by rw[h];exact List.mem_cons_self)
    ·rcases ins_mem h with h|h
     ·exact .inl h
     ·exact .inr (List.mem_cons_of_mem _ h)
theorem inB_span (t:Int)(k:Ky):inB (tblF t) (aboveL (tblF t)) k=decide (k.take (tblF t).length=tblF t):=by
 rw[← span_iff (show aboveL (tblF t)≠[] from above_ne (by decide) _)]
 unfold inB inSpan
 rw[leK_or]
 rfl
theorem eok_not {t:Int}{k v:Ky}(h:k.take 1≠[114])(hk:k.length≤100000)(hv:v.length≤1000000):EOK t (k,v):=by
 refine⟨hk,hv,?_⟩
 have e:rowK k=(0,0,false):=by
  unfold rowK mkV
  rw[cond_f (beq_eq_false_iff_ne.2 h)]
  rfl
 show inB _ _ k=_
 rw[inB_span,e]
 refine decide_eq_false fun q=>h ?_
 have:=congrArg (List.take 1) q
 rw[List.take_take,Nat.min_eq_left (by unfold tblF;rw[List.length_cons];omega)] at this
 rw[this]
 rfl
theorem rowK_key {t i:Int}(ht:-9223372036854775808≤t∧t≤9223372036854775807)(hi:-9223372036854775808≤i∧i≤9223372036854775807):rowK (keyL t i)=(t,i,true):=by
 unfold rowK mkV keyL
 rw[cond_t (by rfl)]
 show rowO (getV (Go.Proofs.YthjmjoioagocdaaGreatDoor.encs [numV t,numV i]))=_
 rw[getV_encs [numV t,numV i] (by
  intro x hx
  rcases List.mem_cons.1 hx with rfl|hx
  ·exact ht
  ·rw[List.mem_singleton] at hx
   subst hx
   exact hi)]
 rw[List.map_cons,List.map_cons,plain_right (right_num t),plain_right (right_num i)]
 rfl
theorem keyL_eq (t i:Int):keyL t i=tblF t++Go.Proofs.YthjmjoioagocdaaGreatDoor.enc (numV i):=by
 unfold keyL tblF Go.Proofs.YthjmjoioagocdaaGreatDoor.encs
 simp
theorem eok_key {t i:Int}{v:Ky}(ht:-9223372036854775808≤t∧t≤9223372036854775807)(hi:-9223372036854775808≤i∧i≤9223372036854775807)(hv:v.length≤1000000):EOK t (keyL t i,v):=by
 refine⟨?_,hv,?_⟩
 ·have:=encs_len [numV t,numV i]
  simp only[List.length_cons,List.length_nil] at this
  show (114::Go.Proofs.YthjmjoioagocdaaGreatDoor.encs [numV t,numV i]).length≤_
  rw[List.length_cons]
  omega
 ·show inB _ _ (keyL t i)=_
  rw[inB_span,rowK_key ht hi,keyL_eq,List.take_left]
  simp
theorem eok_41 {v:Ky}(hv:v.length≤1000000):EOK 3 (keyL 4 1,v):=by
 refine⟨show (keyL 4 1).length≤100000 by decide +kernel,hv,?_⟩
 show inB _ _ (keyL 4 1)=_
 rw[inB_span,rowK_key (by omega) (by omega)]
 decide +kernel
theorem stAll_eok {sp:Int}{x:Idx}(hx:x.cols.length≤6):∀ {rs:List Rw} {i:Nat} {l:List (Ky×Ky)},rs.all rwGd=true→(∀ r∈rs,-9223372036854775808≤r.1∧r.1≤9223372036854775807)→(∀ p∈l,EOK 3 p)→∀ p∈stAll sp x i rs l,EOK 3 p
 |[],_,_,_,_,h,p,hp=>h p hp
 |r::rs,i,l,hg,hi,h,p,hp=>by
  rw[List.all_cons,Bool.and_eq_true] at hg
  refine stAll_eok hx (rs:=rs) (i:=i+1) (l:=stOne sp i x r l) hg.2 (fun q hq=>hi q (List.mem_cons_of_mem _ hq)) ?_ p hp
  intro q hq
  have hb:(putB r.2.2).length≤6009:=by
   have:=hg.1
   unfold rwGd at this
   simp only[Bool.and_eq_true,decide_eq_true_eq] at this
   exact putB_len2 this.1.1 this.1.2 this.2
  rcases ins_mem hq with rfl|hq
  ·refine eok_not (by unfold entL;simp) ?_ (Nat.zero_le _)
   have:=encs_len (numV 3::numV x.id::(valsOf x.cols r.2.2++[numV r.1]))
   have h2:=valsOf_len x.cols r.2.2
   rw[List.length_cons,List.length_cons,List.length_append,h2] at this
   show (105::Go.Proofs.YthjmjoioagocdaaGreatDoor.encs _).length≤_
   rw[List.length_cons]
   have h3:([numV r.1]:List Val).length=1:=rfl
   omega
  ·unfold stPut at hq
   split at hq
   ·rcases ins_mem hq with rfl|hq
    ·refine eok_key (by omega) (hi r List.mem_cons_self) ?_
     unfold stV
     split
     ·rw[List.length_append]
      have:([63]:Ky).length=1:=rfl
      omega
     ·omega
    ·exact h q hq
   ·exact h q hq
theorem store_eok {sp:Int}{x:Idx}{rs:List Rw}(hx:x.cols.length≤6)(hg:rs.all rwGd=true)(hi:∀ r∈rs,-9223372036854775808≤r.1∧r.1≤9223372036854775807):∀ p∈storeS sp x rs,EOK 3 p:=by
 intro p hp
 rcases ins_mem hp with rfl|hp
 ·exact eok_not (by decide) (by decide) (by decide)
 ·rcases ins_mem hp with rfl|hp
  ·exact eok_41 (by decide)
  ·exact stAll_eok hx hg hi (by intro p hp;cases hp) p hp
theorem store_srt {sp:Int}{x:Idx}{rs:List Rw}:Srt (storeS sp x rs):=(Srt.ins (Srt.ins (stAll_srt List.Pairwise.nil)))
theorem store_len {sp:Int}{x:Idx}{rs:List Rw}:(storeS sp x rs).length≤2 * rs.length+2:=by
 have h1:=stAll_len (sp:=sp) (x:=x) (rs:=rs) (i:=0) (l:=[])
 have h2:=insK_lenG (k:=keyL 4 1) (v:=([111,116,104,101,114]:Ky)) (stAll sp x 0 rs [])
 have h3:=insK_lenG (k:=[115]) (v:=([115,99,104,101,109,97]:Ky)) (insK (keyL 4 1) ([111,116,104,101,114]:Ky) (stAll sp x 0 rs []))
 have h4:([]:List (Ky×Ky)).length=0:=rfl
 show (stFin (stAll sp x 0 rs [])).length≤_
 unfold stFin
 omega
theorem law_runH {en:Env}{NG:Nat}{W:World→Prop}(hE:EnvOK en NG W)(hy:en.Y=none)(hG:∀ g,en.G g=none){f:FuncId}{fn:Func}(hf:en.P.funcs[f]? = some fn){h:Hints}{w:World}{xs:List PV}{vs:List Value}
  (hw:W w) (hng:NG≤w.heap.size) (hr:ArgsU w xs vs) (hrun:∃ fuel,prun en h fuel false fn xs=some (.bool true)):Calls en.P f vs.toArray w fun e w'=>e=.returned (.bool true)∧Below w.heap.size w w':=by
 obtain⟨B,hB⟩:=hr
 obtain⟨fuel,hrun⟩:=hrun
 refine (run_ok hE hy hf (M:=memU w fun _=>B) hw hng (fun g cs hg=>by rw[hG g] at hg;cases hg) (hB _ fun _=>Nat.le_refl _) hrun).mono ?_
 rintro e w' ⟨v,rfl,U',hm,hv,_⟩
 simp only[RelD] at hv
 subst hv
 exact⟨rfl,hm.os,hm.tape,hm.output,hm.size,fun b hb=>(hm.block b hb (by simp[memU])).1⟩
def zRngR:Rng:=⟨some true,[],some true,[],false,some true,[],false⟩
theorem lgO3_eq {R:Type}{rs:List Rw}{x:Idx}{K:Bool→Option R}:lgO3 rs.length (rs.flatMap rwC) (idxC x) zRng K=K (longS rs x zRngR):=by
 unfold lgO3
 rw[decG_of rwC_len rwG_of,Option.bind_some,idxG_of,Option.bind_some,show rngG zRng=some zRngR from rngG_of zRngR,Option.bind_some]
theorem rwGd_of {r:Rw}(h:rwSm r=true)(p:PRw r):rwGd r=true:=by
 unfold rwGd
 unfold rwSm at h
 rw[h,Bool.true_and,List.all_eq_true]
 intro c hc
 have hs:c.2.s.length≤250:=of_decide_eq_true (List.all_eq_true.1 (Bool.and_eq_true_iff.1 h).2 c hc)
 obtain⟨q1,q2,q3,q4⟩:=p.2 c hc
 have e:∀ {a:Int},inR a→rng a=true:=by
  intro a ha
  unfold rng
  rw[decide_eq_true ha.1,decide_eq_true ha.2]
  rfl
 unfold cGood vGood
 rw[e q1,e q2,e q3,e q4,decide_eq_true (by omega)]
 rfl
theorem rows_good {rs:List Rw}(h:rs.all rwSm=true)(p:∀ r∈rs,PRw r):rs.all rwGd=true:=by
 rw[List.all_eq_true] at h ⊢
 exact fun r hr=>rwGd_of (h r hr) (p r hr)
theorem stO_eq {R:Type}{rs:List Rw}{x:Idx}{sp:Int}{K:List (Ky×Ky)→Option R}(hsp:0≤sp∧sp≤255)(hx:x.cols.length≤6)(hn:rs.length≤60)(hg:rs.all rwGd=true):stO rs.length (rs.flatMap rwC) (idxC x) sp K=K (storeS sp x rs):=by
 unfold stO
 rw[decG_of rwC_len rwG_of,Option.bind_some,idxG_of,Option.bind_some,cond_t (by rw[decide_eq_true hsp.1,decide_eq_true hsp.2,decide_eq_true hx,decide_eq_true hn,hg];rfl)]
theorem ldO_eq {R:Type}{l:List (Ky×Ky)}(h:l.length≤20000)(hs:Srt l){K:PV→Option R}:ldO l.length (prsC l) K=K (rootOf l):=by
 unfold ldO prsC
 rw[decG_of prC_len prG_of,Option.bind_some,cond_t (ldG_iff.2 ⟨h,hs⟩),rootK_eq (rootOf_spec ⟨h,hs⟩).1.isR]
theorem prV_srt {l:List (Ky×Ky)}(hs:Srt l):Srt (l.map prV):=by
 unfold Srt at hs ⊢
 rw[List.pairwise_map]
 exact hs
theorem rlO_eq {R:Type}{l:List (Ky×Ky)}(h:l.length≤20000)(hs:Srt l)(he:∀ p∈l,EOK 3 p){K:List (RowC×Int)→Option R}:rlO (rootOf l) (tblF 3) (aboveL (tblF 3)) K=K ((rsF 3 l).map cR):=by
 have hr:=(rootOf_spec ⟨h,hs⟩).1
 have hl:(l.map prV).length≤50000:=by rw[List.length_map];omega
 have ha:aboveL (tblF 3)≠[]:=above_ne (by decide) _
 unfold rlO rowsB
 rw[gRf_of hr hl,Option.bind_some,Option.bind_some]
 have hlt:Op.bytesLess (tblF 3) (aboveL (tblF 3))=true:=by
  have:=lt_above (tblF 3) [] ha
  rwa [List.append_nil] at this
 rw[hlt,Bool.not_true,cond_false,tw_inB (prV_srt hs) _ ha,rows_of he,Option.bind_some]
 have:=rsF_len 3 l
 exact cond_t (decide_eq_true (by rw[List.length_map];omega))
theorem rsO_eq {R:Type}{l:List (Ky×Ky)}(h:l.length≤20000)(he:∀ p∈l,EOK 3 p){K:List (Rw×Int)→Option R}:rsO l.length (prsC l) 3 K=K (rsF 3 l):=by
 unfold rsO prsC
 rw[decG_of prC_len prG_of,Option.bind_some,cond_t]
 rw[decide_eq_true (by omega),Bool.true_and,List.all_eq_true]
 intro p hp
 rw[decide_eq_true (he p hp).k,decide_eq_true (he p hp).v]
 rfl
theorem fnG_of (x:Rw×Int):fnG (fnC x)=some x:=by
 obtain⟨⟨i,fl,l⟩,e⟩:=x
 show (decG 5 celG l.length (celsC l)).map _=_
 rw[celsC,decG_of celC_len celG_of]
 rfl
theorem liO_eq {R:Type}{l:List (Rw×Int)}(h:l.length≤20000){K:List Rw×Int→Option R}:liO l.length (fnsC l) K=K (liF l):=by
 unfold liO fnsC
 rw[decG_of fnC_len fnG_of,Option.bind_some,cond_t (decide_eq_true (by omega))]
theorem sm2O_eq {R:Type}{l:List Rw}(h:l.length≤20000)(hc:∀ r∈l,r.2.2.length≤1000000){K:Bool→Option R}:sm2O l.length (Go.Proofs.YthjmjoioagocdaaGreatDoor.rwsC l) l.length (Go.Proofs.YthjmjoioagocdaaGreatDoor.rwsC l) K=K true:=by
 unfold sm2O Go.Proofs.YthjmjoioagocdaaGreatDoor.rwsC
 have e:(l.all fun r=>decide (r.2.2.length≤1000000))=true:=by
  rw[List.all_eq_true]
  exact fun r hr=>decide_eq_true (hc r hr)
 rw[decG_of rwC_len rwG_of,Option.bind_some,Option.bind_some,cond_t (by rw[decide_eq_true (by omega),e];rfl)]
 have:=sameR_refl (fun r=>r.2.1) l
 rw[show (l.map fun r=>(r.1,r.2.1,r.2.2))=l from List.map_id l] at this
 rw[this]
theorem sr_true {rs:List Rw}(pr:∀ r∈rs,PRw r){x:Idx}(px:PIdx x){sp:Int}(hsp:0≤sp∧sp<256):∃ fuel,prun (enH lSr lhSr []) h00 fuel false fSr [.sl none 2 rs.length (rs.flatMap rwC),.agg (idxC x),.int .u8 sp]=some (.bool true):=by
 refine⟨0,(sr_raw x.id x.name x.nl x.cols.length (colC x.cols) x.u x.st none rs.length (rs.flatMap rwC) sp).trans ?_⟩
 refine lgO3_eq.trans ?_
 rcases hl:longS rs x zRngR with _|_
 rotate_left
 ·rfl
 rw[cond_false]
 obtain⟨h1,h2,-⟩:=longS_not hl
 unfold smS at h1
 rw[Bool.and_eq_true,decide_eq_true_eq] at h1
 have hg:=rows_good h1.2 pr
 have ht:0≤sp.tmod 5∧sp.tmod 5≤255:=by
  rw[Int.tmod_eq_emod_of_nonneg hsp.1]
  omega
 refine (stO_eq ht h2 h1.1 hg).trans ?_
 have he:=store_eok (sp:=sp.tmod 5) h2 hg (fun r hr=>(pr r hr).1)
 have hs:=store_srt (sp:=sp.tmod 5) (x:=x) (rs:=rs)
 have hn:=store_len (sp:=sp.tmod 5) (x:=x) (rs:=rs)
 generalize storeS (sp.tmod 5) x rs=l at he hs hn
 have hl:l.length≤20000:=by omega
 have hf:=rsF_len 3 l
 rw[ldO_eq hl hs,rlO_eq hl hs he,rsO_eq hl he,liO_eq (by omega),listR_of]
 have h3:=liF_len (rsF 3 l)
 show sm2O ((liF (rsF 3 l)).1.map _).length (rwsC ((liF (rsF 3 l)).1.map _)) _ _ _=_
 rw[List.length_map,rwsC_of,sm2O_eq (by omega)]
 ·rw[cond_true,beq_self_eq_true]
  rfl
 ·intro r hr
  obtain⟨y,h5,rfl⟩:=liF_mem hr
  exact rsF_mem he y h5
end Go.Proofs.YthjmjoioagocdaaGreatDoor.TS
end
