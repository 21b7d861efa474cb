/-
  Lemmas, part T1: what the claim needs of the texts of wip/tpl.
-/
import Derived.Test.YthjmjoioagocdaaGreatDoorZpSA
import Derived.Test.YthjmjoioagocdaaGreatDoorZpKA
set_option linter.unusedVariables false
set_option linter.unusedSimpArgs false
section
set_option maxRecDepth 100000
namespace Go.Proofs.YthjmjoioagocdaaGreatDoor.TS
open Go.RowKit
abbrev NGt:Nat:=NGk
abbrev Wt:World→Prop:=Tabs
theorem wokt:WOK NGt Wt:=wokk
theorem cond_nat {R:Type}{b:Bool}{x:PV}{k:PV→Option R}:(bif b then k x else none)=(bif b then some x else none).bind k:=by cases b<;>rfl
theorem leaf_raw (kn:Option Bool)(kl:Nat)(kc:List PV)(vn:Option Bool)(vl:Nat)(vc:List PV)(ni:Bool)(il:Nat)(ic:List PV)(c:Int):prun (en []) ⟨[],[]⟩ 0 false Tryz.f99 [.eptr [.sl kn 1 kl kc,.sl vn 1 vl vc,.sl (some ni) 1 il ic,.int .i64 c]]=some (.bool ni):=by kernel_rfl
def p_leaf:PFn:=⟨fun xs k=>match xs with|[.eptr [.sl kn 1 kl kc,.sl vn 1 vl vc,.sl (some ni) 1 il ic,.int .i64 c]]=>k (.bool ni)|_=>none,false⟩
theorem ok_leaf:FOK NGt Wt 99 p_leaf:=by
 refine fok wokt allOK_nil (h:=⟨[],[]⟩) Tryz.func99 rfl (by decide) ?_ ?_
 ·intro R xs k
  simp only[p_leaf]
  split
  ·rfl
  ·rfl
 ·intro xs r h
  simp only[p_leaf] at h
  split at h
  ·rename_i kn kl kc vn vl vc ni il ic c
   exact⟨0,(leaf_raw kn kl kc vn vl vc ni il ic c).trans h⟩
  ·cases h
theorem size_raw (kn:Option Bool)(kl:Nat)(kc:List PV)(vn:Option Bool)(vl:Nat)(vc:List PV)(ni:Bool)(il:Nat)(ic:List PV)(c:Int):prun (en []) ⟨[],[]⟩ 0 false Tryz.f127 [.eptr [.sl kn 1 kl kc,.sl vn 1 vl vc,.sl (some ni) 1 il ic,.int .i64 c]]=some (.int .i64 (kl:Int)):=by kernel_rfl
def p_size:PFn:=⟨fun xs k=>match xs with|[.eptr [.sl kn 1 kl kc,.sl vn 1 vl vc,.sl (some ni) 1 il ic,.int .i64 c]]=>k (.int .i64 (kl:Int))|_=>none,false⟩
theorem ok_size:FOK NGt Wt 127 p_size:=by
 refine fok wokt allOK_nil (h:=⟨[],[]⟩) Tryz.func127 rfl (by decide) ?_ ?_
 ·intro R xs k
  simp only[p_size]
  split
  ·rfl
  ·rfl
 ·intro xs r h
  simp only[p_size] at h
  split at h
  ·rename_i kn kl kc vn vl vc ni il ic c
   exact⟨0,(size_raw kn kl kc vn vl vc ni il ic c).trans h⟩
  ·cases h
theorem leafOf_raw (kn:Option Bool)(kl:Nat)(kc:List PV)(vn:Option Bool)(vl:Nat)(vc:List PV):prun (en []) ⟨[],[]⟩ 0 false Tryz.f69 [.sl kn 1 kl kc,.sl vn 1 vl vc]=some (.eptr [.sl kn 1 kl kc,.sl vn 1 vl vc,.sl (some true) 1 0 [],.int .i64 (kl:Int)]):=by kernel_rfl
def p_leafOf:PFn:=⟨fun xs k=>match xs with|[.sl kn 1 kl kc,.sl vn 1 vl vc]=>k (.eptr [.sl kn 1 kl kc,.sl vn 1 vl vc,.sl (some true) 1 0 [],.int .i64 (kl:Int)])|_=>none,false⟩
theorem ok_leafOf:FOK NGt Wt 69 p_leafOf:=by
 refine fok wokt allOK_nil (h:=⟨[],[]⟩) Tryz.func69 rfl (by decide) ?_ ?_
 ·intro R xs k
  simp only[p_leafOf]
  split
  ·rfl
  ·rfl
 ·intro xs r h
  simp only[p_leafOf] at h
  split at h
  ·rename_i kn kl kc vn vl vc
   exact⟨0,(leafOf_raw kn kl kc vn vl vc).trans h⟩
  ·cases h
theorem place_raw (kn:Option Bool)(kl:Nat)(kc:List PV)(vn:Option Bool)(vl:Nat)(vc:List PV)(ni:Bool)(il:Nat)(ic:List PV)(c:Int)(x:List UInt8):prun (en [(113,p_bs)]) ⟨[],[]⟩ 0 false Tryz.f84 [.eptr [.sl kn 1 kl kc,.sl vn 1 vl vc,.sl (some ni) 1 il ic,.int .i64 c],.str x]=(bif kc.all isStr&&(decide (kc.length=kl)&&(decide (0<kl)&&decide (kl≤1000000))) then some (.tuple [.int .i64 (placeI kc x:Nat),.bool (decide (placeI kc x<kl)&&strAt kc (placeI kc x)==x)]) else none):=by kernel_rfl
def p_place:PFn:=⟨fun xs k=>match xs with|[.eptr [.sl kn 1 kl kc,.sl vn 1 vl vc,.sl (some ni) 1 il ic,.int .i64 c],.str x]=>bif kc.all isStr&&(decide (kc.length=kl)&&(decide (0<kl)&&decide (kl≤1000000))) then k (.tuple [.int .i64 (placeI kc x:Nat),.bool (decide (placeI kc x<kl)&&strAt kc (placeI kc x)==x)]) else none|_=>none,false⟩
theorem ok_place:FOK NGt Wt 84 p_place:=by
 refine fok wokt (allOK_cons ok_bs allOK_nil) (h:=⟨[],[]⟩) Tryz.func84 rfl (by decide) ?_ ?_
 ·intro R xs k
  simp only[p_place]
  split
  ·exact cond_nat
  ·rfl
 ·intro xs r h
  simp only[p_place] at h
  split at h
  ·rename_i kn kl kc vn vl vc ni il ic c x
   rcases hb:(kc.all isStr&&(decide (kc.length=kl)&&(decide (0<kl)&&decide (kl≤1000000)))) with _|_<;>rw[hb] at h
   ·cases h
   ·exact⟨0,(((place_raw kn kl kc vn vl vc ni il ic c x).trans (by rw[hb]))).trans h⟩
  ·cases h
end Go.Proofs.YthjmjoioagocdaaGreatDoor.TS
set_option maxRecDepth 100000
namespace Go.Proofs.YthjmjoioagocdaaGreatDoor.TS
open Go.RowKit
noncomputable def enT (l:List (FuncId×PFn)):Env:=enR (enA l [] [] [] []) [125]
def hAb:Hints:=⟨[],[(0,⟨[(3,false),(9,false),(10,false),(11,false)],[8,1048584]⟩)]⟩
def frAb (nl:Option Bool)(kl:Nat)(kc:List PV)(n9:Option Bool)(l9:Nat)(c9:List PV)(s L i:Int):St :=
 frame 43 [(3,(.ptr 8 0,0)),(9,(.sl n9 1 l9 c9,0)),(10,(.int .i64 L,0)),(11,(.int .i64 i,0))] [(8,[(.sl nl 1 kl kc,96),(.sl (some true) 1 0 [],0),(.sl n9 1 l9 c9,0),(.int .i64 s,0)])]
noncomputable def abLoop (fu n:Nat)(st:St):Option PV:=loopF (enT []) hAb fu false Tryz.f71 [1,1,0,1,0] 0 n st
theorem ab_raw (fu:Nat)(n9:Option Bool)(l9:Nat)(c9:List PV) :
  prun (enT []) hAb fu false Tryz.f71 [.sl n9 1 l9 c9]=abLoop fu fu (frAb (some true) 0 [] n9 l9 c9 0 (l9:Int) 0):=prunN_eq.trans (by kernel_rfl)
noncomputable def abBody (nl:Option Bool)(kl:Nat)(kc:List PV)(n9:Option Bool)(l9:Nat)(c9:List PV)(s L i:Int)(G:Option Bool→Nat→List PV→Int→Int→Option PV):Option PV :=
 bif decide (i<L) then
  (bif decide (0≤i)&&decide (i<(l9:Int)) then ((c9.drop (i.toNat * 1)).take 1).head?.bind fun v=>v.asE.bind fun es =>
   (es.drop 0).head?.bind fun x=>(x.asSl 1).bind fun p=>bif decide ((0:Int)<(p.2.1:Int)) then ((p.2.2.drop 0).take 1).head?.bind fun y=>y.asStr.bind fun k =>
    bif decide (kl+1≤9223372036854775807)&&decide ((kl+1) * bytesOf Tryz.prog 9≤roomB) then
     (es.drop 3).head?.bind fun z=>(z.asInt .i64).bind fun c =>
      G (nl.map (· && (1==0))) (kl+1) (kc++[.str k]) (IntKind.i64.wrap (s+c)) (IntKind.i64.wrap (i+1))
    else none
   else none
  else none)
 else some (.eptr [.sl nl 1 kl kc,.sl (some true) 1 0 [],.sl n9 1 l9 c9,.int .i64 s])
theorem ab_step (fu:Nat)(nl:Option Bool)(kl:Nat)(kc:List PV)(n9:Option Bool)(l9:Nat)(c9:List PV)(s L i:Int)(K:St→Option PV) :
  stepF (enT []) hAb fu false Tryz.f71 [1,1,0,1,0] (frAb nl kl kc n9 l9 c9 s L i) (fun st=>pnorm (hAb.loop.lookup 0) st K)=abBody nl kl kc n9 l9 c9 s L i (fun a b c d e=>K (frAb a b c n9 l9 c9 d L e)):=by kernel_rfl
end Go.Proofs.YthjmjoioagocdaaGreatDoor.TS
set_option maxRecDepth 100000
namespace Go.Proofs.YthjmjoioagocdaaGreatDoor.TS
open Go.RowKit
def kidKC:PV→Option (List UInt8×Int)
 | .eptr (.sl _ 1 n (.str k::_)::_::_::.int .i64 c::_)=>if 0<n then some (k,c) else none
 |_=>none
theorem kidKC_inv {v:PV}{p:List UInt8×Int}(h:kidKC v=some p):∃ nl n r a b t,v=.eptr (.sl nl 1 n (.str p.1::r)::a::b::.int .i64 p.2::t)∧0<n:=by
 unfold kidKC at h
 split at h
 ·obtain⟨h1,h⟩:=ite_inv h
  injection h with h
  subst h
  exact⟨_,_,_,_,_,_,rfl,h1⟩
 ·cases h
def abKeys (ks:List (List UInt8×Int)):List PV:=ks.map fun p=>.str p.1
def abSum (ks:List (List UInt8×Int)):Int:=(ks.map (·.2)).sum
theorem abSum_le {ks:List (List UInt8×Int)}(h:∀ p∈ks,0≤p.2∧p.2≤1000000):0≤abSum ks∧abSum ks≤1000000 * (ks.length:Int):=by
 induction ks with
 |nil=>simp[abSum]
 |cons p r ih =>
  have h1:=h p List.mem_cons_self
  have h2:=ih fun q hq=>h q (List.mem_cons_of_mem _ hq)
  simp only[abSum,List.map_cons,List.sum_cons,List.length_cons] at h2 ⊢
  omega
theorem ab_room:bytesOf Tryz.prog 9=16:=by kernel_rfl
theorem ab_loop (fu:Nat)(ks:List (List UInt8×Int))(n9:Option Bool)(c9:List PV)(hk:mapO kidKC c9=some ks)(hlen:c9.length≤1000)(hc:∀ p∈ks,0≤p.2∧p.2≤1000000) :
  ∀ (k i n:Nat),i+k=c9.length→k<n→abLoop fu n (frAb (some (i==0)) i (abKeys (ks.take i)) n9 c9.length c9 (abSum (ks.take i)) (c9.length:Int) (i:Int)) =
   some (.eptr [.sl (some (c9.length==0)) 1 c9.length (abKeys ks),.sl (some true) 1 0 [],.sl n9 1 c9.length c9,.int .i64 (abSum ks)])
 |k,i,0,_,h=>by omega
 |0,i,n+1,hi,hn=>by
  have hkl:=mapO_len hk
  unfold abLoop
  rw[loopF_succ,ab_step]
  unfold abBody
  rw[cond_f (decide_eq_false (by omega)),List.take_of_length_le (by omega),show i=c9.length by omega]
 |k+1,i,n+1,hi,hn=>by
  have hkl:=mapO_len hk
  have hv:c9[i]? = some c9[i]:=List.getElem?_eq_getElem (by omega)
  obtain⟨p,hp,hf⟩:=mapO_get hk i _ hv
  obtain⟨nl,m,r,a,b,t,he,hm⟩:=kidKC_inv hf
  have ih:=ab_loop fu ks n9 c9 hk hlen hc k (i+1) n (by omega) (by omega)
  have e1:ks.take (i+1)=ks.take i++[p]:=by rw[List.take_add_one,hp];rfl
  have hs:=abSum_le (ks:=ks.take i) fun q hq=>hc q (List.mem_of_mem_take hq)
  have hpc:=hc p (List.mem_of_getElem? hp)
  have hl2:((ks.take i).length:Int)≤1000:=by simp;omega
  have e2:abSum (ks.take (i+1))=abSum (ks.take i)+p.2:=by rw[e1];simp[abSum]
  have e3:abKeys (ks.take (i+1))=abKeys (ks.take i)++[.str p.1]:=by rw[e1];simp[abKeys]
  have e4:(i+1==0)=false:=by simp
  rw[e2,e3,e4] at ih
  have hd:((c9.drop ((i:Int).toNat * 1)).take 1).head? = some (.eptr (.sl nl 1 m (.str p.1::r)::a::b::.int .i64 p.2::t)):=by
   rw[Int.toNat_natCast,Nat.mul_one,List.head?_take,if_neg (by decide),List.head?_drop,hv,he]
  unfold abLoop at ih ⊢
  rw[loopF_succ,ab_step]
  unfold abBody
  rw[cond_t (decide_eq_true (by omega)),cond_t (by rw[decide_eq_true (by omega),decide_eq_true (by omega)];rfl),hd]
  simp only[Option.bind_some,PV.asE,List.drop_zero,List.head?_cons,PV.asSl,if_true,List.take_succ_cons,PV.asStr,List.drop_succ_cons,PV.asInt]
  rw[cond_t (decide_eq_true (by omega)),ab_room,cond_t (by rw[decide_eq_true (by omega),decide_eq_true (by unfold roomB;omega)];rfl),wrapI_of (by omega) (by omega),wrapI_of (by omega) (by omega)]
  simp only[Option.map_some,show ((1:Nat)==0)=false from rfl,Bool.and_false]
  exact ih
def abR (n9:Option Bool)(c9:List PV)(ks:List (List UInt8×Int)):PV:=.eptr [.sl (some (c9.length==0)) 1 c9.length (abKeys ks),.sl (some true) 1 0 [],.sl n9 1 c9.length c9,.int .i64 (abSum ks)]
def abG (l9:Nat)(c9:List PV)(ks:List (List UInt8×Int)):Bool:=decide (c9.length=l9)&&(decide (l9≤1000)&&ks.all fun p=>decide (0≤p.2)&&decide (p.2≤1000000))
def p_above:PFn:=⟨fun xs k=>match xs with|[.sl n9 1 l9 c9]=>(mapO kidKC c9).bind fun ks=>bif abG l9 c9 ks then k (abR n9 c9 ks) else none|_=>none,false⟩
theorem ok_above:FOK NGt Wt 71 p_above:=by
 refine fokR wokt allOK_nil allH_nil allI_nil allN_nil allC_nil [125] (h:=hAb) Tryz.func71 rfl (by decide) ?_ ?_
 ·intro R xs k
  simp only[p_above]
  split
  ·rename_i n9 l9 c9
   rcases mapO kidKC c9 with _|ks
   ·rfl
   ·simp only[Option.bind_some]
    cases abG l9 c9 ks<;>rfl
  ·rfl
 ·intro xs r h
  simp only[p_above] at h
  split at h
  ·rename_i n9 l9 c9
   obtain⟨ks,hk,h2⟩:=bind_some_inv h
   clear h
   rcases hb:abG l9 c9 ks with _|_<;>rw[hb] at h2
   ·cases h2
   unfold abG at hb
   simp only[Bool.and_eq_true,decide_eq_true_eq,List.all_eq_true] at hb
   obtain⟨rfl,b2,b3⟩:=hb
   refine⟨c9.length+1,?_⟩
   have:=ab_loop (c9.length+1) ks n9 c9 hk b2 (fun p hp=>b3 p hp) c9.length 0 (c9.length+1) (by omega) (by omega)
   exact ((ab_raw (c9.length+1) n9 c9.length c9).trans this).trans h2
  ·cases h
end Go.Proofs.YthjmjoioagocdaaGreatDoor.TS
set_option maxRecDepth 100000
namespace Go.Proofs.YthjmjoioagocdaaGreatDoor.TS
open Go.RowKit
noncomputable def lSp:List (FuncId×PFn):=[(99,p_leaf),(127,p_size),(69,p_leafOf),(71,p_above)]
theorem okl_sp:AllOK NGt Wt lSp:=allOK_cons ok_leaf (allOK_cons ok_size (allOK_cons ok_leafOf (allOK_cons ok_above allOK_nil)))
def ndV (kn:Option Bool)(kl:Nat)(kc:List PV)(vn:Option Bool)(vl:Nat)(vc:List PV)(ni:Bool)(il:Nat)(ic:List PV)(c:Int):PV:=.eptr [.sl kn 1 kl kc,.sl vn 1 vl vc,.sl (some ni) 1 il ic,.int .i64 c]
noncomputable def spK (a:Int)(kn:Option Bool)(kl:Nat)(kc:List PV)(vn:Option Bool)(vl:Nat)(vc:List PV)(ni:Bool)(il:Nat)(ic:List PV):Option PV :=
 bif ni then
  bif decide (0≤a)&&decide (a≤(kl:Int)) then bif decide (0≤a)&&decide (a≤(a.toNat:Int)) then
  bif decide (0≤a)&&decide (a≤(vl:Int)) then bif decide (0≤a)&&decide (a≤(a.toNat:Int)) then
  bif decide (0≤a)&&decide (a≤(kl:Int)) then bif decide (0≤a)&&decide (a≤(vl:Int)) then
   some (.sl (some false) 1 2 [.eptr [.sl kn 1 (a.toNat-0) (List.drop (0 * 1) (List.take (a.toNat * 1) kc)),.sl vn 1 (a.toNat-0) (List.drop (0 * 1) (List.take (a.toNat * 1) vc)),.sl (some true) 1 0 [],.int .i64 ((a.toNat-0:Nat):Int)],
    .eptr [.sl kn 1 (kl-a.toNat) (List.drop (a.toNat * 1) (List.take (kl * 1) kc)),.sl vn 1 (vl-a.toNat) (List.drop (a.toNat * 1) (List.take (vl * 1) vc)),.sl (some true) 1 0 [],.int .i64 ((kl-a.toNat:Nat):Int)]])
  else none else none else none else none else none else none
 else
  bif decide (0≤a)&&decide (a≤(il:Int)) then bif decide (0≤a)&&decide (a≤(a.toNat:Int)) then
   p_above.F [.sl (some ni) 1 (a.toNat-0) (List.drop (0 * 1) (List.take (a.toNat * 1) ic))] fun x =>
   bif decide (0≤a)&&decide (a≤(il:Int)) then
    p_above.F [.sl (some ni) 1 (il-a.toNat) (List.drop (a.toNat * 1) (List.take (il * 1) ic))] fun y=>some (.sl (some false) 1 2 [x,y])
   else none
  else none else none
theorem sp_raw (kn:Option Bool)(kl:Nat)(kc:List PV)(vn:Option Bool)(vl:Nat)(vc:List PV)(ni:Bool)(il:Nat)(ic:List PV)(c:Int) :
  prun (en lSp) ⟨[],[]⟩ 0 false Tryz.f102 [ndV kn kl kc vn vl vc ni il ic c] =
   bif decide ((kl:Int)≤8) then some (.sl (some false) 1 1 [ndV kn kl kc vn vl vc ni il ic c]) else spK (IntKind.i64.wrap ((kl:Int).tdiv 2)) kn kl kc vn vl vc ni il ic:=by kernel_rfl
end Go.Proofs.YthjmjoioagocdaaGreatDoor.TS
set_option maxRecDepth 100000
namespace Go.Proofs.YthjmjoioagocdaaGreatDoor.TS
open Go.RowKit
def lfV (kn:Option Bool)(kc:List PV)(vn:Option Bool)(vc:List PV)(n:Nat):PV:=.eptr [.sl kn 1 n kc,.sl vn 1 n vc,.sl (some true) 1 0 [],.int .i64 (n:Int)]
def spF {R:Type}(kn:Option Bool)(kl:Nat)(kc:List PV)(vn:Option Bool)(vc:List PV)(ni:Bool)(il:Nat)(ic:List PV)(k:PV→Option R):Option R :=
 bif ni then k (.sl (some false) 1 2 [lfV kn (kc.take (kl/2)) vn (vc.take (kl/2)) (kl/2),lfV kn ((kc.take kl).drop (kl/2)) vn ((vc.take kl).drop (kl/2)) (kl-kl/2)])
 else p_above.F [.sl (some ni) 1 (kl/2) (ic.take (kl/2))] fun x=>p_above.F [.sl (some ni) 1 (kl-kl/2) ((ic.take kl).drop (kl/2))] fun y=>k (.sl (some false) 1 2 [x,y])
theorem sp_eq (kn:Option Bool)(kl:Nat)(kc:List PV)(vn:Option Bool)(vc:List PV)(ni:Bool)(il:Nat)(ic:List PV)(hk:kl≤1000)(h1:ni=false→il=kl) :
  spK (IntKind.i64.wrap ((kl:Int).tdiv 2)) kn kl kc vn kl vc ni il ic=spF kn kl kc vn vc ni il ic some:=by
 have e:IntKind.i64.wrap ((kl:Int).tdiv 2)=((kl/2:Nat):Int):=by
  have:(kl:Int).tdiv 2=((kl/2:Nat):Int):=by rw[Int.tdiv_eq_ediv_of_nonneg (by omega)];omega
  rw[this,wrapI_of (by omega) (by omega)]
 rw[e]
 unfold spK spF
 have d1:(decide (0≤((kl/2:Nat):Int))&&decide (((kl/2:Nat):Int)≤(kl:Int)))=true:=by rw[decide_eq_true (by omega),decide_eq_true (by omega)];rfl
 have d2:(decide (0≤((kl/2:Nat):Int))&&decide (((kl/2:Nat):Int)≤((((kl/2:Nat):Int).toNat:Nat):Int)))=true:=by rw[decide_eq_true (by omega),decide_eq_true (by omega)];rfl
 have d3:(decide (0≤((kl/2:Nat):Int))&&decide (((kl/2:Nat):Int)≤((kl/2:Nat):Int)))=true:=by rw[decide_eq_true (by omega),decide_eq_true (by omega)];rfl
 cases ni with
 |true =>
  simp only[cond_true,d1,d2,d3,Int.toNat_natCast,Nat.mul_one,Nat.zero_mul,List.drop_zero,Nat.sub_zero,lfV]
 |false =>
  obtain rfl:=h1 rfl
  simp only[cond_false,cond_true,d1,d2,d3,Int.toNat_natCast,Nat.mul_one,Nat.zero_mul,List.drop_zero,Nat.sub_zero]
end Go.Proofs.YthjmjoioagocdaaGreatDoor.TS
set_option maxRecDepth 100000
namespace Go.Proofs.YthjmjoioagocdaaGreatDoor.TS
open Go.RowKit
end Go.Proofs.YthjmjoioagocdaaGreatDoor.TS
end
section
set_option maxRecDepth 100000
namespace Go.Proofs.YthjmjoioagocdaaGreatDoor.TS
open Go.RowKit
mutual
def Wk:PV→PV→Prop
 | .sl nl sz n cs,.sl nl' sz' n' cs'=>(nl'=none∨nl'=nl)∧sz'=sz∧n'=n∧WkL cs cs'
 | .eptr cs,.eptr cs'=>WkL cs cs'
 |x,y=>x=y
def WkL:List PV→List PV→Prop
 |[],[]=>True
 |x::xs,y::ys=>Wk x y∧WkL xs ys
 |_,_=>False
end
theorem WkL.length:∀ {xs ys:List PV},WkL xs ys→xs.length=ys.length
 |[],[],_=>rfl
 |[],_::_,h=>by simp[WkL] at h
 |_::_,[],h=>by simp[WkL] at h
 |x::xs,y::ys,h=>by simp only[WkL] at h;rw[List.length_cons,List.length_cons,WkL.length h.2]
mutual
theorem Wk.rel {M:Mem}:∀ (x y:PV) (v:Value),Wk x y→RelD M x v→RelD M y v
 | .sl nl sz n cs,.sl nl' sz' n' cs',v,h,hr=>by
  simp only[Wk] at h
  obtain⟨h1,rfl,rfl,h4⟩:=h
  simp only[RelD] at hr ⊢
  obtain⟨A,c,vs,e,k1,k2,k3,k4,k5,k6,k7⟩:=hr
  refine⟨A,c,vs,e,k1,k2,?_,k4,?_,WkL.rel cs cs' vs h4 k6,k7⟩
  ·rcases h1 with rfl|rfl
   ·intro b hb;cases hb
   ·exact k3
  ·rw[← h4.length];exact k5
 | .eptr cs,.eptr cs',v,h,hr=>by
  simp only[Wk] at h
  simp only[RelD] at hr ⊢
  obtain⟨b,o,vs,e,k1,k2⟩:=hr
  exact⟨b,o,vs,e,WkL.rel cs cs' vs h k1,k2⟩
 | .undef,y,v,h,hr=>by simp only[Wk] at h;subst h;exact hr
 | .bool _,y,v,h,hr=>by simp only[Wk] at h;subst h;exact hr
 | .int _ _,y,v,h,hr=>by simp only[Wk] at h;subst h;exact hr
 | .str _,y,v,h,hr=>by simp only[Wk] at h;subst h;exact hr
 | .agg _,y,v,h,hr=>by simp only[Wk] at h;subst h;exact hr
 | .tuple _,y,v,h,hr=>by simp only[Wk] at h;subst h;exact hr
 | .nilptr,y,v,h,hr=>by simp only[Wk] at h;subst h;exact hr
 | .nptr,y,v,h,hr=>by simp only[Wk] at h;subst h;exact hr
 | .nilIface,y,v,h,hr=>by simp only[Wk] at h;subst h;exact hr
 | .iface _ _,y,v,h,hr=>by simp only[Wk] at h;subst h;exact hr
 | .nilFunc,y,v,h,hr=>by simp only[Wk] at h;subst h;exact hr
 | .ptr _ _,y,v,h,hr=>by simp only[Wk] at h;subst h;exact hr
 | .clo _ _,y,v,h,hr=>by simp only[Wk] at h;subst h;exact hr
 | .agp _,y,v,h,hr=>by simp only[Wk] at h;subst h;exact hr
 | .tupp _,y,v,h,hr=>by simp only[Wk] at h;subst h;exact hr
 | .yld,y,v,h,hr=>by simp only[Wk] at h;subst h;exact hr
 | .optr _ _ _,y,v,h,hr=>by simp only[Wk] at h;subst h;exact hr
 | .bsl _ _ _ _,y,v,h,hr=>by simp only[Wk] at h;subst h;exact hr
 | .sl nl sz n cs,.undef,v,h,hr=>by simp[Wk] at h
 | .sl nl sz n cs,.bool _,v,h,hr=>by simp[Wk] at h
 | .sl nl sz n cs,.int _ _,v,h,hr=>by simp[Wk] at h
 | .sl nl sz n cs,.str _,v,h,hr=>by simp[Wk] at h
 | .sl nl sz n cs,.agg _,v,h,hr=>by simp[Wk] at h
 | .sl nl sz n cs,.tuple _,v,h,hr=>by simp[Wk] at h
 | .sl nl sz n cs,.nilptr,v,h,hr=>by simp[Wk] at h
 | .sl nl sz n cs,.nptr,v,h,hr=>by simp[Wk] at h
 | .sl nl sz n cs,.nilIface,v,h,hr=>by simp[Wk] at h
 | .sl nl sz n cs,.iface _ _,v,h,hr=>by simp[Wk] at h
 | .sl nl sz n cs,.nilFunc,v,h,hr=>by simp[Wk] at h
 | .sl nl sz n cs,.ptr _ _,v,h,hr=>by simp[Wk] at h
 | .sl nl sz n cs,.eptr _,v,h,hr=>by simp[Wk] at h
 | .sl nl sz n cs,.clo _ _,v,h,hr=>by simp[Wk] at h
 | .sl nl sz n cs,.agp _,v,h,hr=>by simp[Wk] at h
 | .sl nl sz n cs,.tupp _,v,h,hr=>by simp[Wk] at h
 | .sl nl sz n cs,.yld,v,h,hr=>by simp[Wk] at h
 | .sl nl sz n cs,.optr _ _ _,v,h,hr=>by simp[Wk] at h
 | .sl nl sz n cs,.bsl _ _ _ _,v,h,hr=>by simp[Wk] at h
 | .eptr cs,.undef,v,h,hr=>by simp[Wk] at h
 | .eptr cs,.bool _,v,h,hr=>by simp[Wk] at h
 | .eptr cs,.int _ _,v,h,hr=>by simp[Wk] at h
 | .eptr cs,.str _,v,h,hr=>by simp[Wk] at h
 | .eptr cs,.agg _,v,h,hr=>by simp[Wk] at h
 | .eptr cs,.tuple _,v,h,hr=>by simp[Wk] at h
 | .eptr cs,.nilptr,v,h,hr=>by simp[Wk] at h
 | .eptr cs,.nptr,v,h,hr=>by simp[Wk] at h
 | .eptr cs,.nilIface,v,h,hr=>by simp[Wk] at h
 | .eptr cs,.iface _ _,v,h,hr=>by simp[Wk] at h
 | .eptr cs,.nilFunc,v,h,hr=>by simp[Wk] at h
 | .eptr cs,.ptr _ _,v,h,hr=>by simp[Wk] at h
 | .eptr cs,.sl _ _ _ _,v,h,hr=>by simp[Wk] at h
 | .eptr cs,.clo _ _,v,h,hr=>by simp[Wk] at h
 | .eptr cs,.agp _,v,h,hr=>by simp[Wk] at h
 | .eptr cs,.tupp _,v,h,hr=>by simp[Wk] at h
 | .eptr cs,.yld,v,h,hr=>by simp[Wk] at h
 | .eptr cs,.optr _ _ _,v,h,hr=>by simp[Wk] at h
 | .eptr cs,.bsl _ _ _ _,v,h,hr=>by simp[Wk] at h
theorem WkL.rel {M:Mem}:∀ (xs ys:List PV) (vs:List Value),WkL xs ys→RelL M xs vs→RelL M ys vs
 |[],[],vs,_,hr=>hr
 |[],_::_,vs,h,_=>by simp[WkL] at h
 |_::_,[],vs,h,_=>by simp[WkL] at h
 |x::xs,y::ys,vs,h,hr=>by
  simp only[WkL] at h
  simp only[RelL] at hr ⊢
  obtain⟨u,us,e,k1,k2,k3⟩:=hr
  exact⟨u,us,e,k1,Wk.rel x y u h.1 k2,WkL.rel xs ys us h.2 k3⟩
end
mutual
theorem Wk.refl:∀ (x:PV),Wk x x
 | .sl nl sz n cs=>by simp only[Wk];exact⟨.inr trivial,trivial,trivial,WkL.refl cs⟩
 | .eptr cs=>by simp only[Wk];exact WkL.refl cs
 | .undef|.bool _|.int _ _|.str _|.agg _|.tuple _|.nilptr|.nptr|.nilIface|.iface _ _|.nilFunc|.ptr _ _|.clo _ _|.agp _|.tupp _|.yld|.optr _ _ _|.bsl _ _ _ _=>by simp only[Wk]
theorem WkL.refl:∀ (xs:List PV),WkL xs xs
 |[]=>by simp only[WkL]
 |x::xs=>by simp only[WkL];exact⟨Wk.refl x,WkL.refl xs⟩
end
theorem fok_weaken {NG:Nat}{W:World→Prop}{f:FuncId}{p p':PFn}(h:FOK NG W f p)(hn:p'.nat)(ho:p'.own=false)
  (hF:∀ xs r',p'.F xs (R:=PV) some=some r'→∃ r,p.F xs (R:=PV) some=some r∧Wk r r'):FOK NG W f p' where
 nat:=hn
 call:=by
  intro M xs vs r' hW hng hg hr hF'
  obtain⟨r,h1,h2⟩:=hF xs r' hF'
  have hc:=h.call M xs vs r hW hng hg hr h1
  rcases hc with ⟨v,w',k1,U',k2,k3,k4⟩|⟨k1,k2⟩
  ·exact .inl ⟨v,w',k1,U',k2,Wk.rel _ _ _ h2 k3,fun e=>by rw[ho] at e;cases e⟩
  ·refine .inr ⟨k1,k2.mono ?_⟩
   rintro e w' ⟨v,rfl,U',q2,q3,q4⟩
   exact⟨v,rfl,U',q2,Wk.rel _ _ _ h2 q3,fun e=>by rw[ho] at e;cases e⟩
def vok:PV→Bool
 | .str _=>true
 |_=>false
def ofL0 (l:List (Ky×PV)):TrD PV 0:=l
def ofL {d:Nat}(ks:List (TrD PV d)):TrD PV (d+1):=ks
def enc:(d:Nat)→TrD PV d→PV
 |0,l=>.eptr [.sl none 1 (as0 l).length ((as0 l).map fun p=>.str p.1),.sl none 1 (as0 l).length ((as0 l).map (·.2)),.sl (some true) 1 0 [],.int .i64 ((as0 l).length:Int)]
 |d+1,ks=>.eptr [.sl none 1 (asL ks).length ((asL ks).map fun k=>.str (lkD d k)),.sl (some true) 1 0 [],.sl (some false) 1 (asL ks).length ((asL ks).map (enc d)),.int .i64 ((cD (d+1) ks).length:Int)]
theorem enc_zero (l:List (Ky×PV)):enc 0 (ofL0 l)=.eptr [.sl none 1 l.length (l.map fun p=>.str p.1),.sl none 1 l.length (l.map (·.2)),.sl (some true) 1 0 [],.int .i64 (l.length:Int)]:=rfl
theorem enc_succ {d:Nat}(ks:List (TrD PV d)):enc (d+1) (ofL ks)=.eptr [.sl none 1 ks.length (ks.map fun k=>.str (lkD d k)),.sl (some true) 1 0 [],.sl (some false) 1 ks.length (ks.map (enc d)),.int .i64 ((ks.flatMap (cD d)).length:Int)]:=rfl
def dec0:PV→Option (TrD PV 0)
 | .eptr [.sl none 1 n kc,.sl none 1 m vc,.sl (some true) 1 0 [],.int .i64 c] =>
  bif decide (kc.length=n)&&(decide (vc.length=n)&&(decide (m=n)&&(decide (c=(n:Int))&&(kc.all isStr&&vc.all vok)))) then some (ofL0 ((kc.map strOf).zip vc)) else none
 |_=>none
def decS (d:Nat)(f:PV→Option (TrD PV d)):PV→Option (TrD PV (d+1))
 | .eptr [.sl none 1 n kc,.sl (some true) 1 0 [],.sl (some false) 1 m ic,.int .i64 c] =>
  (mapO f ic).bind fun ks =>
   bif decide (kc.length=n)&&(decide (ic.length=n)&&(decide (m=n)&&(decide (c=((List.flatMap (cD d) ks).length:Int))&&(kc.all isStr&&decide (kc.map strOf=ks.map (lkD d)))))) then some (ofL ks) else none
 |_=>none
def dec:(d:Nat)→PV→Option (TrD PV d)
 |0=>dec0
 |d+1=>decS d (dec d)
theorem strs_inv:∀ {kc:List PV},kc.all isStr=true→kc=(kc.map strOf).map .str
 |[],_=>rfl
 |x::kc,h=>by
  simp only[List.all_cons,Bool.and_eq_true] at h
  rw[List.map_cons,List.map_cons,← strs_inv h.2]
  congr 1
  cases x<;>simp[isStr] at h<;>rfl
theorem mapO_map_inv {α γ:Type}{f:α→Option γ}{g:γ→α}(hg:∀ a b,f a=some b→a=g b):∀ {l:List α} {r:List γ},mapO f l=some r→l=r.map g
 |[],r,h=>by simp only[mapO] at h;injection h with h;subst h;rfl
 |x::l,r,h=>by
  simp only[mapO] at h
  split at h
  ·rename_i y hy
   split at h
   ·rename_i ys hys
    injection h with h
    subst h
    rw[List.map_cons,← mapO_map_inv hg hys,← hg _ _ hy]
   ·cases h
  ·cases h
theorem mapO_all {α γ:Type}{f:α→Option γ}{P:γ→Prop}(hg:∀ a b,f a=some b→P b):∀ {l:List α} {r:List γ},mapO f l=some r→∀ y∈r,P y
 |[],r,h=>by simp only[mapO] at h;injection h with h;subst h;simp
 |x::l,r,h=>by
  simp only[mapO] at h
  split at h
  ·rename_i y hy
   split at h
   ·rename_i ys hys
    injection h with h
    subst h
    intro z hz
    rcases List.mem_cons.1 hz with rfl|hz
    ·exact hg _ _ hy
    ·exact mapO_all hg hys z hz
   ·cases h
  ·cases h
theorem zip_fst {α γ:Type}:∀ {a:List α} {b:List γ},a.length=b.length→(a.zip b).map (·.1)=a
 |[],[],_=>rfl
 |x::a,[],h=>by simp at h
 |[],y::b,h=>by simp at h
 |x::a,y::b,h=>by rw[List.zip_cons_cons,List.map_cons,zip_fst (by simpa using h)]
theorem zip_snd {α γ:Type}:∀ {a:List α} {b:List γ},a.length=b.length→(a.zip b).map (·.2)=b
 |[],[],_=>rfl
 |x::a,[],h=>by simp at h
 |[],y::b,h=>by simp at h
 |x::a,y::b,h=>by rw[List.zip_cons_cons,List.map_cons,zip_snd (by simpa using h)]
theorem dec_inv:∀ {d:Nat} {x:PV} {t:TrD PV d},dec d x=some t→x=enc d t∧∀ p∈cD d t,vok p.2=true
 |0, x, t,h=>by
  simp only[dec] at h
  unfold dec0 at h
  split at h
  ·rename_i n kc m vc c
   rcases hb:(decide (kc.length=n)&&(decide (vc.length=n)&&(decide (m=n)&&(decide (c=(n:Int))&&(kc.all isStr&&vc.all vok))))) with _|_<;>rw[hb] at h
   ·cases h
   simp only[Bool.and_eq_true,decide_eq_true_eq] at hb
   obtain⟨b1,b2,b3,b4,b5,b6⟩:=hb
   simp only[cond_true] at h
   injection h with h
   subst h
   subst b3 b4
   have hl:(kc.map strOf).length=vc.length:=by rw[List.length_map,b1,b2]
   refine⟨?_,?_⟩
   ·have e1:((kc.map strOf).zip vc).length=m:=by rw[List.length_zip,List.length_map];omega
    have e2:(((kc.map strOf).zip vc).map fun p=>PV.str p.1)=kc:=by
     conv=>rhs;rw[strs_inv b5,← zip_fst hl]
     rw[List.map_map]
     rfl
    rw[enc_zero,e1,e2,zip_snd hl]
   ·intro p hp
    have:p.2∈((kc.map strOf).zip vc).map (·.2):=List.mem_map.2 ⟨p,hp,rfl⟩
    rw[zip_snd hl] at this
    exact List.all_eq_true.1 b6 _ this
  ·cases h
 |d+1,x,t,h=>by
  simp only[dec] at h
  unfold decS at h
  split at h
  ·rename_i n kc m ic c
   obtain⟨ks,hk,h⟩:=bind_some_inv h
   rcases hb:(decide (kc.length=n)&&(decide (ic.length=n)&&(decide (m=n)&&(decide (c=((List.flatMap (cD d) ks).length:Int))&&(kc.all isStr&&decide (kc.map strOf=ks.map (lkD d))))))) with _|_<;>rw[hb] at h
   ·cases h
   simp only[Bool.and_eq_true,decide_eq_true_eq] at hb
   obtain⟨b1,b2,b3,b4,b5,b6⟩:=hb
   simp only[cond_true] at h
   injection h with h
   subst h
   subst b3 b4
   have e1:=mapO_map_inv (g:=enc d) (fun a b hab=>(dec_inv hab).1) hk
   refine⟨?_,?_⟩
   ·have e2:ks.length=m:=by
     have:=congrArg List.length e1
     rw[List.length_map] at this
     exact this.symm.trans b2
    have e3:(ks.map fun k=>PV.str (lkD d k))=kc:=by
     conv=>rhs;rw[strs_inv b5,b6]
     rw[List.map_map]
     rfl
    rw[enc_succ,e2,e3,← e1]
   ·intro p hp
    obtain⟨k,hk1,hk2⟩:=List.mem_flatMap.1 hp
    exact mapO_all (P:=fun t=>∀ p∈cD d t,vok p.2=true) (fun a b hab=>(dec_inv hab).2) hk k hk1 p hk2
  ·cases h
theorem mapO_map {α γ:Type}{f:α→Option γ}{g:γ→α}:∀ {l:List γ},(∀ x∈l,f (g x)=some x)→mapO f (l.map g)=some l
 |[],_=>rfl
 |x::l,h=>by
  rw[List.map_cons,mapO,h x List.mem_cons_self,mapO_map fun y hy=>h y (List.mem_cons_of_mem _ hy)]
theorem strs_all:∀ (l:List Ky),(l.map PV.str).all isStr=true
 |[]=>rfl
 |x::l=>by rw[List.map_cons,List.all_cons,strs_all l];rfl
theorem strs_of:∀ (l:List Ky),(l.map PV.str).map strOf=l
 |[]=>rfl
 |x::l=>by rw[List.map_cons,List.map_cons,strs_of l];rfl
theorem zip_self {α γ:Type}:∀ (l:List (α×γ)),(l.map (·.1)).zip (l.map (·.2))=l
 |[]=>rfl
 |x::l=>by rw[List.map_cons,List.map_cons,List.zip_cons_cons,zip_self l]
theorem dec_enc0 (l:List (Ky×PV))(h:∀ p∈l,vok p.2=true):dec0 (enc 0 (ofL0 l))=some (ofL0 l):=by
 rw[enc_zero]
 unfold dec0
 have e:(l.map fun p=>PV.str p.1)=(l.map (·.1)).map PV.str:=by rw[List.map_map];rfl
 have h2:(l.map (·.2)).all vok=true:=by
  rw[List.all_map,List.all_eq_true]
  exact h
 simp only[e,strs_all,strs_of,h2,List.length_map,zip_self,decide_true,Bool.and_self,cond_true]
theorem dec_encS {d:Nat}(ks:List (TrD PV d))(h:mapO (dec d) (ks.map (enc d))=some ks):decS d (dec d) (enc (d+1) (ofL ks))=some (ofL ks):=by
 rw[enc_succ]
 unfold decS
 have e:(ks.map fun k=>PV.str (lkD d k))=(ks.map (lkD d)).map PV.str:=by rw[List.map_map];rfl
 simp only[e,h,strs_all,strs_of,List.length_map,Option.bind_some,decide_true,Bool.and_self,cond_true]
theorem dec_enc:∀ {d:Nat} {t:TrD PV d},(∀ p∈cD d t,vok p.2=true)→dec d (enc d t)=some t
 |0,l,h=>dec_enc0 l h
 |d+1,ks,h=>dec_encS ks (mapO_map fun k hk=>dec_enc fun p hp=>h p (List.mem_flatMap.2 ⟨k,hk,hp⟩))
def depF:Nat→PV→Nat
 |f+1,.eptr [_,_,.sl (some false) _ _ (k::_),_]=>depF f k+1
 |_,_=>0
theorem depF_enc:∀ {m d:Nat} {t:TrD PV d} {f:Nat},okD m d t→0<m→d<f→depF f (enc d t)=d
 |m,0,l,f+1,h,_,_=>rfl
 |m,d+1,ks,f+1,h,hm,hf=>by
  obtain⟨h1,h2⟩:=h
  have e:∃ k r,(asL ks)=k::r:=by
   cases hks:asL ks with
   |nil=>rw[hks] at h1;simp at h1;omega
   |cons k r=>exact⟨k,r,rfl⟩
  obtain⟨k,r,e⟩:=e
  have ih:=depF_enc (f:=f) (h2 k (by rw[e];exact List.mem_cons_self)) (by omega) (by omega)
  unfold enc
  rw[e,List.map_cons,List.map_cons]
  show depF f (enc d k)+1=d+1
  rw[ih]
theorem strAt_str {l:List Ky}{t:Nat}(h:t<l.length):strAt (l.map PV.str) t=l[t]:=by
 unfold strAt
 rw[List.getD_eq_getElem?_getD,List.getElem?_map,List.getElem?_eq_getElem h]
 rfl
def SrtK (l:List Ky):Prop:=l.Pairwise fun a b=>Op.bytesLess a b=true
theorem Srt.keys {β:Type}{l:List (Ky×β)}(h:Srt l):SrtK (l.map (·.1)):=List.pairwise_map.2 h
def plN (keys:List Ky)(x:Ky):Nat:=(keys.takeWhile fun a=>Op.bytesLess a x).length
theorem plN_le (x:Ky)(l:List Ky):plN l x≤l.length:=List.Sublist.length_le (List.takeWhile_sublist _)
theorem tw_lt {α:Type}{p:α→Bool}:∀ {l:List α} {j:Nat} {a:α},j<(l.takeWhile p).length→l[j]? = some a→p a=true
 |[],j,a,h,_=>by simp at h
 |b::l,j,a,h,ha=>by
  rw[List.takeWhile_cons] at h
  split at h
  ·rename_i hb
   cases j with
   |zero=>simp at ha;subst ha;exact hb
   |succ j=>exact tw_lt (l:=l) (j:=j) (by simpa using h) (by simpa using ha)
  ·simp at h
theorem tw_at {α:Type}{p:α→Bool}:∀ {l:List α} {a:α},l[(l.takeWhile p).length]? = some a→p a=false
 |[],a,h=>by simp at h
 |b::l,a,h=>by
  rw[List.takeWhile_cons] at h
  split at h
  ·exact tw_at (l:=l) (by simpa using h)
  ·rename_i hb
   simp at h
   subst h
   simpa using hb
theorem bs_tw {l:List Ky} (p:Ky→Bool) (hp:∀ (i j:Nat) (a b:Ky),i < j→l[i]? = some a→l[j]? = some b→p b=true→p a=true) (q:Nat→Bool) (hq:∀ t (h:t < l.length),q t=p l[t]):Lib.bsGo q l.length 0 l.length=(l.takeWhile p).length:=by
  have hle:(l.takeWhile p).length≤l.length:=List.Sublist.length_le (List.takeWhile_sublist _)
  have key : ∀ (f lo hi:Nat),hi - lo≤f→lo≤(l.takeWhile p).length→(l.takeWhile p).length≤hi→hi≤l.length→Lib.bsGo q f lo hi=(l.takeWhile p).length:=by
    intro f lo hi h1 h2 h3 h4
    have this : Lib.bsGo q f lo hi=Lib.bsGo (fun t:Nat=>decide (t < (l.takeWhile p).length)) f lo hi:=by
      clear h1 h2 h3
      induction f generalizing lo hi with
      | zero=>rfl
      | succ f ih =>
        unfold Lib.bsGo
        by_cases hlh:lo < hi
        · have hm : (lo + hi) / 2 < l.length:=by omega
          have e:q ((lo + hi) / 2)=decide ((lo + hi) / 2 < (l.takeWhile p).length):=by
            rw [hq _ hm]
            by_cases hc:(lo + hi) / 2 < (l.takeWhile p).length
            · rw [decide_eq_true hc];exact tw_lt hc (List.getElem?_eq_getElem hm)
            · rw [decide_eq_false hc]
              rcases hb:p l[(lo + hi) / 2] with _ | _
              · rfl
              · exfalso
                have ht:(l.takeWhile p).length < l.length:=by omega
                have h0:=tw_at (p:=p) (List.getElem?_eq_getElem ht)
                by_cases he:(l.takeWhile p).length=(lo + hi) / 2
                · simp only [he] at h0
                  rw [h0] at hb;cases hb
                · have:=hp _ _ _ _ (by omega) (List.getElem?_eq_getElem ht) (List.getElem?_eq_getElem hm) hb
                  rw [h0] at this;cases this
          simp only [e]
          rw [ih _ _ h4,ih _ _ (by omega)]
        · simp only [hlh,if_false]
    rw [this]
    exact Lib.bsGo_spec (fun t:Nat=>decide (t < (l.takeWhile p).length)) _ (fun t ht=>decide_eq_true ht) (fun t ht=>decide_eq_false (by omega)) f lo hi h1 h2 h3
  exact key l.length 0 l.length (by omega) (by omega) hle (Nat.le_refl _)
theorem SrtK.at {l:List Ky}(h:SrtK l){i j:Nat}{a b:Ky}(hij:i<j)(ha:l[i]? = some a)(hb:l[j]? = some b):Op.bytesLess a b=true:=by
 obtain⟨hi,rfl⟩:=List.getElem?_eq_some_iff.1 ha
 obtain⟨hj,rfl⟩:=List.getElem?_eq_some_iff.1 hb
 exact List.pairwise_iff_getElem.1 h i j hi hj hij
theorem placeI_eq {l:List Ky}(h:SrtK l)(x:Ky):placeI (l.map .str) x=plN l x:=by
 unfold placeI plN
 rw[List.length_map]
 exact bs_tw (fun a=>Op.bytesLess a x) (fun i j a b hij ha hb hp=>kl_trans (h.at hij ha hb) hp) _ (fun t ht=>by rw[strAt_str ht])
theorem kidI_eq {l:List Ky}(h:SrtK l)(x:Ky):kidI (l.map .str) x=kcN l x:=by
 unfold kidI kcN
 rw[List.length_map]
 refine bs_tw (fun a=>!Op.bytesLess x a) (fun i j a b hij ha hb hp=>?_) _ (fun t ht=>?_)
 ·have h1:=h.at hij ha hb
  simp only[Bool.not_eq_true'] at hp ⊢
  exact kl_asym (kl_lt_le h1 hp)
 ·rw[strAt_str ht]
  rcases h1:Op.bytesLess l[t] x with _|_
  ·rcases h2:Op.bytesLess x l[t] with _|_
   ·rw[kl_tri h1 h2];simp
   ·have:(l[t]==x)=false:=by simpa using (kl_ne h2).symm
    rw[this];rfl
  ·rw[kl_asym h1];rfl
theorem leaf_split {β:Type}{l:List (Ky×β)}(h:Srt l)(x:Ky) :
  Low x (l.take (plN (l.map (·.1)) x))∧(hasK x l=true→∃ v,l[plN (l.map (·.1)) x]? = some (x,v)∧High x (l.drop (plN (l.map (·.1)) x+1)))∧(hasK x l=false→High x (l.drop (plN (l.map (·.1)) x))) ∧
   (hasK x l=(decide (plN (l.map (·.1)) x<l.length)&&((l.map (·.1)).getD (plN (l.map (·.1)) x) []==x))):=by
 have hlow:Low x (l.take (plN (l.map (·.1)) x)):=by
  intro p hp
  obtain⟨j,hj,rfl⟩:=List.getElem_of_mem hp
  rw[List.length_take] at hj
  rw[List.getElem_take]
  exact tw_lt (p:=fun a=>Op.bytesLess a x) (l:=l.map (·.1)) (j:=j) (show j<plN _ _ by omega) (by rw[List.getElem?_map,List.getElem?_eq_getElem (by omega)];rfl)
 have hge:∀ p∈l.drop (plN (l.map (·.1)) x),Op.bytesLess p.1 x=false:=by
  intro p hp
  have hlt:plN (l.map (·.1)) x<l.length:=by
   have:=List.length_pos_of_mem hp
   rw[List.length_drop] at this
   omega
  have h0:Op.bytesLess (l[plN (l.map (·.1)) x]).1 x=false:=tw_at (p:=fun a=>Op.bytesLess a x) (l:=l.map (·.1)) (by
   show (l.map (·.1))[plN (l.map (·.1)) x]? = _
   rw[List.getElem?_map,List.getElem?_eq_getElem hlt];rfl)
  rw[List.drop_eq_getElem_cons hlt] at hp
  rcases List.mem_cons.1 hp with rfl|hp
  ·exact h0
  ·have h2:=h
   rw[← List.take_append_drop (plN (l.map (·.1)) x) l,List.drop_eq_getElem_cons hlt] at h2
   have h3:=(List.pairwise_cons.1 h2.right).1 p hp
   rcases hb:Op.bytesLess p.1 x with _|_
   ·rfl
   ·rw[kl_trans h3 hb] at h0;cases h0
 have hall:hasK x l=hasK x (l.drop (plN (l.map (·.1)) x)):=by
  conv=>lhs;rw[← List.take_append_drop (plN (l.map (·.1)) x) l]
  have:=low_has hlow
  unfold hasK at this ⊢
  rw[List.any_append,this,Bool.false_or]
 by_cases hlt:plN (l.map (·.1)) x<l.length
 ·have hg:(l.map (·.1)).getD (plN (l.map (·.1)) x) []=(l[plN (l.map (·.1)) x]).1:=by
   rw[List.getD_eq_getElem?_getD,List.getElem?_map,List.getElem?_eq_getElem hlt];rfl
  have h2:=h
  rw[← List.take_append_drop (plN (l.map (·.1)) x) l,List.drop_eq_getElem_cons hlt] at h2
  have h3:=(List.pairwise_cons.1 h2.right).1
  by_cases he:(l[plN (l.map (·.1)) x]).1=x
  ·have hh:High x (l.drop (plN (l.map (·.1)) x+1)):=fun p hp=>by rw[← he];exact h3 p hp
   have ht:hasK x l=true:=by
    rw[hall,List.drop_eq_getElem_cons hlt]
    unfold hasK
    rw[List.any_cons,he]
    simp
   refine⟨hlow,fun _=>⟨(l[plN (l.map (·.1)) x]).2,?_,hh⟩,(fun e=>by rw[ht] at e;cases e),?_⟩
   ·rw[List.getElem?_eq_getElem hlt]
    congr 1
    exact Prod.ext he rfl
   ·rw[ht,hg,he,decide_eq_true hlt]
    simp
  ·have hgt:Op.bytesLess x (l[plN (l.map (·.1)) x]).1=true:=by
    have:=hge _ (by rw[List.drop_eq_getElem_cons hlt];exact List.mem_cons_self)
    rcases hb:Op.bytesLess x (l[plN (l.map (·.1)) x]).1 with _|_
    ·exact absurd (kl_tri this hb) he
    ·exact hb
   have hh:High x (l.drop (plN (l.map (·.1)) x)):=by
    intro p hp
    rw[List.drop_eq_getElem_cons hlt] at hp
    rcases List.mem_cons.1 hp with rfl|hp
    ·exact hgt
    ·exact kl_trans hgt (h3 p hp)
   have hf:hasK x l=false:=by rw[hall];exact high_has hh
   refine⟨hlow,(fun e=>by rw[hf] at e;cases e),fun _=>hh,?_⟩
   rw[hf,hg]
   have:((l[plN (l.map (·.1)) x]).1==x)=false:=by simpa using he
   rw[this,Bool.and_false]
 ·have hnil:l.drop (plN (l.map (·.1)) x)=[]:=List.drop_eq_nil_of_le (by omega)
  have hf:hasK x l=false:=by rw[hall,hnil];rfl
  refine⟨hlow,(fun e=>by rw[hf] at e;cases e),(fun _=>by rw[hnil];intro p hp;cases hp),?_⟩
  rw[hf,decide_eq_false hlt]
  rfl
theorem fokW {NG:Nat}{W:World→Prop}(hW:WOK NG W){l:List (FuncId×PFn)}(hl:AllOK NG W l){lh:List (FuncId×HFn)}(hh:AllH NG W lh){li:List (FuncId×IFn)}(hi:AllI NG W li){ln:List (FuncId×NFn)}(hna:AllN NG W ln){lc:List (FuncId×CFn)}(hc:AllC NG W lc)(lp:List TypeId){f:FuncId}{fn:Func}(hf:Tryz.prog.funcs[f]? = some fn)(hb:fn.body.isSome=true)(hname:fn.name ≠ "runtime.NumGoroutine"){p:PFn}(hn:p.nat)(ho:p.own=false){h:Hints}(fuel:Nat)
  (hrun:∀ xs r',p.F xs (R:=PV) some=some r'→∃ r,prun (enR (enA l lh li ln lc) lp) h fuel false fn xs=some r∧Wk r r'):FOK NG W f p :=
 have hE:=(env_okR (env_okA hW hl hh hi hna hc) lp).nat
 fok_weaken (fokR hW hl hh hi hna hc lp hf hb hname (p:=evalE (enR (enA l lh li ln lc) lp) h fuel fn false) (h:=h) (evalE_nat hE) (fun xs r hr=>⟨fuel,evalE_run hE xs r hr⟩)) hn ho (fun xs r' hr=>by
  obtain⟨r,h1,h2⟩:=hrun xs r' hr
  exact⟨r,by rw[evalE_F hE,h1];rfl,h2⟩)
def p_lf:PFn:=⟨fun xs k=>match xs with|[.sl kn 1 kl kc,.sl vn 1 vl vc]=>k (.eptr [.sl none 1 kl kc,.sl none 1 vl vc,.sl (some true) 1 0 [],.int .i64 (kl:Int)])|_=>none,false⟩
theorem ok_lf:FOK NGt Wt 69 p_lf:=by
 refine fok_weaken ok_leafOf ?_ rfl ?_
 ·intro R xs k
  simp only[p_lf]
  split<;>rfl
 ·intro xs r' h
  simp only[p_lf] at h
  split at h
  ·injection h with h
   subst h
   refine⟨_,rfl,?_⟩
   simp only[Wk,WkL,WkL.refl]
   simp
  ·cases h
def p_ab:PFn:=⟨fun xs k=>match xs with|[.sl n9 1 l9 c9]=>(mapO kidKC c9).bind fun ks=>bif abG l9 c9 ks then k (.eptr [.sl none 1 c9.length (abKeys ks),.sl (some true) 1 0 [],.sl n9 1 c9.length c9,.int .i64 (abSum ks)]) else none|_=>none,false⟩
theorem ok_ab:FOK NGt Wt 71 p_ab:=by
 refine fok_weaken ok_above ?_ rfl ?_
 ·intro R xs k
  simp only[p_ab]
  split
  ·rename_i n9 l9 c9
   rcases mapO kidKC c9 with _|ks
   ·rfl
   ·simp only[Option.bind_some]
    cases abG l9 c9 ks<;>rfl
  ·rfl
 ·intro xs r' h
  simp only[p_ab] at h
  split at h
  ·rename_i n9 l9 c9
   obtain⟨ks,hk,h⟩:=bind_some_inv h
   obtain⟨hb,h⟩:=bif_inv h
   injection h with h
   subst h
   refine⟨abR n9 c9 ks,?_,?_⟩
   ·simp only[p_above,hk,Option.bind_some,hb,cond_true]
   ·unfold abR
    simp only[Wk,WkL,WkL.refl]
    simp
  ·cases h
theorem ab_nat {R:Type}(xs:List PV)(k:PV→Option R):p_ab.F xs k=(p_ab.F xs some).bind k:=(ok_ab).nat R xs k
theorem kidKC_enc {d:Nat}{t:TrD PV d}(h:0<szD d t):kidKC (enc d t)=some (lkD d t,((cD d t).length:Int)):=by
 cases d with
 |zero =>
  cases ht:as0 t with
  |nil=>have:szD 0 t=(as0 t).length:=rfl;rw[this,ht] at h;simp at h
  |cons p r =>
   have e:t=(p::r:List (Ky×PV)):=ht
   subst e
   rfl
 |succ d =>
  cases ht:asL t with
  |nil=>have:szD (d+1) t=(asL t).length:=rfl;rw[this,ht] at h;simp at h
  |cons p r =>
   have e:t=(p::r:List (TrD PV d)):=ht
   subst e
   rfl
theorem abSum_enc {d:Nat}:∀ {ks:List (TrD PV d)},abSum (ks.map fun k=>(lkD d k,((cD d k).length:Int)))=((ks.flatMap (cD d)).length:Int)
 |[]=>rfl
 |k::ks=>by
  have:=abSum_enc (ks:=ks)
  unfold abSum at this ⊢
  simp only[List.map_cons,List.sum_cons,List.flatMap_cons,List.length_append] at this ⊢
  rw[this]
  omega
theorem mapO_kidKC {d:Nat}:∀ {ks:List (TrD PV d)},(∀ k∈ks,0<szD d k)→mapO kidKC (ks.map (enc d))=some (ks.map fun k=>(lkD d k,((cD d k).length:Int)))
 |[],_=>rfl
 |k::ks,h=>by
  rw[List.map_cons,mapO,kidKC_enc (h k List.mem_cons_self),mapO_kidKC fun x hx=>h x (List.mem_cons_of_mem _ hx)]
  rfl
theorem len_mem_flat {d:Nat}{ks:List (TrD PV d)}{k:TrD PV d}(h:k∈ks):(cD d k).length≤(ks.flatMap (cD d)).length:=by
 obtain⟨i,hi,rfl⟩:=List.getElem_of_mem h
 have e:=flat_split (d:=d) (List.getElem?_eq_getElem hi)
 rw[e,List.length_append,List.length_append]
 omega
theorem ab_enc {R:Type}{d:Nat}{ks:List (TrD PV d)}(h:∀ k∈ks,okD 4 d k)(hl:ks.length≤1000)(hc:(ks.flatMap (cD d)).length≤100000)(K:PV→Option R) :
  p_ab.F [.sl (some false) 1 ks.length (ks.map (enc d))] K=K (enc (d+1) (ofL ks)):=by
 have h0:∀ k∈ks,0<szD d k:=fun k hk=>by have:=(h k hk).sz;omega
 have hg:abG ks.length (ks.map (enc d)) (ks.map fun k=>(lkD d k,((cD d k).length:Int)))=true:=by
  unfold abG
  rw[List.length_map,decide_eq_true rfl,decide_eq_true hl,List.all_map]
  simp only[Bool.true_and,List.all_eq_true]
  intro k hk
  have:=len_mem_flat hk
  simp only[Function.comp]
  rw[decide_eq_true (by omega),decide_eq_true (by omega)]
  rfl
 simp only[p_ab]
 rw[mapO_kidKC h0,Option.bind_some,hg,cond_true,abSum_enc,List.length_map]
 unfold abKeys
 rw[List.map_map]
 rfl
def splitD:(d:Nat)→TrD PV d→List (TrD PV d)
 |0,l=>splitL (as0 l)
 |_+1,ks=>splitL (asL ks)
def kidsB:(d:Nat)→TrD PV d→Bool
 |0,_=>true
 |d+1,ks=>(asL ks).all (okB 4 d)
def gdS (d:Nat)(t:TrD PV d):Bool:=decide (1≤szD d t)&&(decide (szD d t≤16)&&(kidsB d t&&decide ((cD d t).length≤100000)))
def encs (d:Nat)(l:List (TrD PV d)):Nat×List PV:=(l.length,l.map (enc d))
theorem encs_le0 {l:List (Ky×PV)}(h:l.length≤8):encs 0 (splitD 0 (ofL0 l))=(1,[enc 0 (ofL0 l)]):=congrArg (encs 0) (show splitL l=[l] from if_pos h)
theorem encs_gt0 {l:List (Ky×PV)}(h:¬ l.length≤8):encs 0 (splitD 0 (ofL0 l))=(2,[enc 0 (ofL0 (l.take (l.length/2))),enc 0 (ofL0 (l.drop (l.length/2)))]):=congrArg (encs 0) (show splitL l=[l.take (l.length/2),l.drop (l.length/2)] from if_neg h)
theorem encs_leS {d:Nat}{l:List (TrD PV d)}(h:l.length≤8):encs (d+1) (splitD (d+1) (ofL l))=(1,[enc (d+1) (ofL l)]):=congrArg (encs (d+1)) (show splitL l=[l] from if_pos h)
theorem encs_gtS {d:Nat}{l:List (TrD PV d)}(h:¬ l.length≤8):encs (d+1) (splitD (d+1) (ofL l))=(2,[enc (d+1) (ofL (l.take (l.length/2))),enc (d+1) (ofL (l.drop (l.length/2)))]):=congrArg (encs (d+1)) (show splitL l=[l.take (l.length/2),l.drop (l.length/2)] from if_neg h)
def gS (d:Nat)(cs:List PV):Option (Nat×List PV):=(dec d (.eptr cs)).bind fun t=>bif gdS d t then some (encs d (splitD d t)) else none
def tSplit (g:List PV→Option (Nat×List PV)):PFn:=⟨fun xs k=>match xs with|[.eptr cs]=>(g cs).bind fun r=>k (.sl (some false) 1 r.1 r.2)|_=>none,false⟩
theorem tSplit_nat (g:List PV→Option (Nat×List PV)):(tSplit g).nat:=by
 intro R xs k
 simp only[tSplit]
 split
 ·rw[obind_assoc];rfl
 ·rfl
theorem spl_key0 (l:List (Ky×PV))(g1:1≤szD 0 (ofL0 l))(g2:szD 0 (ofL0 l)≤16):∃ r,prun (en lSp) ⟨[],[]⟩ 0 false Tryz.f102 [enc 0 (ofL0 l)]=some r∧Wk r (.sl (some false) 1 (encs 0 (splitD 0 (ofL0 l))).1 (encs 0 (splitD 0 (ofL0 l))).2):=by
 have hs:szD 0 (ofL0 l)=l.length:=rfl
 rw[hs] at g1 g2
 have ee:enc 0 (ofL0 l)=ndV none l.length (l.map fun p=>.str p.1) none l.length (l.map (·.2)) true 0 [] (l.length:Int):=rfl
 rw[ee,sp_raw]
 refine⟨.sl (some false) 1 (encs 0 (splitD 0 (ofL0 l))).1 (encs 0 (splitD 0 (ofL0 l))).2,?_,Wk.refl _⟩
 by_cases h8:l.length≤8
 ·rw[cond_t (decide_eq_true (by omega)),show encs 0 (splitD 0 (ofL0 l))=(1,[enc 0 (ofL0 l)]) from encs_le0 h8,ee]
 ·rw[cond_f (decide_eq_false (by omega)),sp_eq _ _ _ _ _ _ _ _ (by omega) (fun e=>by cases e),show encs 0 (splitD 0 (ofL0 l))=_ from encs_gt0 h8,enc_zero,enc_zero]
  have e1:l.length/2≤l.length:=Nat.div_le_self _ _
  simp only[spF,cond_true,lfV,List.length_take,List.length_drop,List.map_take,List.map_drop,Nat.min_eq_left e1]
  rw[List.take_of_length_le (i:=l.length) (l:=l.map fun p=>PV.str p.1) (by rw[List.length_map];exact Nat.le_refl _),List.take_of_length_le (i:=l.length) (l:=l.map (·.2)) (by rw[List.length_map];exact Nat.le_refl _)]
theorem spl_keyS {d:Nat}(l:List (TrD PV d))(g1:1≤szD (d+1) (ofL l))(g2:szD (d+1) (ofL l)≤16)(g3:kidsB (d+1) (ofL l)=true)(g4:(cD (d+1) (ofL l)).length≤100000):∃ r,prun (en lSp) ⟨[],[]⟩ 0 false Tryz.f102 [enc (d+1) (ofL l)]=some r∧Wk r (.sl (some false) 1 (encs (d+1) (splitD (d+1) (ofL l))).1 (encs (d+1) (splitD (d+1) (ofL l))).2):=by
 have hs:szD (d+1) (ofL l)=l.length:=rfl
 rw[hs] at g1 g2
 have hk:∀ k∈l,okD 4 d k:=fun k hk=>(okB_iff 4 d k).1 (List.all_eq_true.1 g3 k hk)
 have hc:cD (d+1) (ofL l)=l.flatMap (cD d):=rfl
 rw[hc] at g4
 have ee:enc (d+1) (ofL l)=ndV none l.length (l.map fun k=>.str (lkD d k)) (some true) 0 [] false l.length (l.map (enc d)) ((cD (d+1) (ofL l)).length:Int):=rfl
 have raw:=sp_raw none l.length (l.map fun k=>.str (lkD d k)) (some true) 0 [] false l.length (l.map (enc d)) ((cD (d+1) (ofL l)).length:Int)
 rw[ee,raw]
 clear raw
 by_cases h8:l.length≤8
 ·refine⟨_,cond_t (decide_eq_true (by omega)),?_⟩
  rw[← ee,show encs (d+1) (splitD (d+1) (ofL l))=(1,[enc (d+1) (ofL l)]) from encs_leS h8]
  exact Wk.refl _
 ·have hA:∀ (m:List (TrD PV d)),(∀ k∈m,k∈l)→m.length≤16→(m.flatMap (cD d)).length≤100000→∃ y,Wk y (enc (d+1) (ofL m))∧∀ (K:PV→Option PV),p_above.F [.sl (some false) 1 m.length (m.map (enc d))] K=K y:=by
   intro m hl hl2 hl3
   have h1:=ab_enc (R:=PV) (ks:=m) (fun k hk'=>hk k (hl k hk')) (by omega) hl3 some
   have h0:∀ k∈m,0<szD d k:=fun k hk'=>by have:=(hk k (hl k hk')).sz;omega
   simp only[p_ab] at h1
   rw[mapO_kidKC h0,Option.bind_some] at h1
   obtain⟨hb,h1⟩:=bif_inv h1
   injection h1 with h1
   refine⟨_,?_,fun K=>by simp only[p_above];rw[mapO_kidKC h0,Option.bind_some,hb,cond_true]⟩
   rw[← h1]
   unfold abR
   simp only[Wk,WkL,WkL.refl]
   simp
  have e1:l.length/2≤l.length:=Nat.div_le_self _ _
  have hsplit:(l.flatMap (cD d)).length=((l.take (l.length/2)).flatMap (cD d)).length+((l.drop (l.length/2)).flatMap (cD d)).length:=by
   conv=>lhs;rw[← List.take_append_drop (l.length/2) l,List.flatMap_append,List.length_append]
  obtain⟨y1,w1,q1⟩:=hA (l.take (l.length/2)) (fun k hk=>List.mem_of_mem_take hk) (by rw[List.length_take];omega) (by omega)
  obtain⟨y2,w2,q2⟩:=hA (l.drop (l.length/2)) (fun k hk=>List.mem_of_mem_drop hk) (by rw[List.length_drop];omega) (by omega)
  refine⟨.sl (some false) 1 2 [y1,y2],?_,?_⟩
  ·rw[cond_f (decide_eq_false (by omega))]
   have hw:IntKind.i64.wrap ((l.length:Int).tdiv 2)=((l.length/2:Nat):Int):=by
    have:(l.length:Int).tdiv 2=((l.length/2:Nat):Int):=by rw[Int.tdiv_eq_ediv_of_nonneg (by omega)];omega
    rw[this,wrapI_of (by omega) (by omega)]
   rw[hw]
   unfold spK
   have d1:(decide (0≤((l.length/2:Nat):Int))&&decide (((l.length/2:Nat):Int)≤(l.length:Int)))=true:=by rw[decide_eq_true (by omega),decide_eq_true (by omega)];rfl
   have d2:(decide (0≤((l.length/2:Nat):Int))&&decide (((l.length/2:Nat):Int)≤((l.length/2:Nat):Int)))=true:=by rw[decide_eq_true (by omega),decide_eq_true (by omega)];rfl
   simp only[cond_false,cond_true,d1,d2,Int.toNat_natCast,Nat.mul_one,Nat.zero_mul,List.drop_zero,Nat.sub_zero]
   rw[List.length_take,Nat.min_eq_left e1,List.map_take] at q1
   rw[List.length_drop,List.map_drop] at q2
   rw[q1]
   rw[List.take_of_length_le (l:=List.map _ _) (by rw[List.length_map];exact Nat.le_refl _),q2]
  ·rw[show encs (d+1) (splitD (d+1) (ofL l))=_ from encs_gtS h8]
   simp only[Wk,WkL]
   exact⟨.inr trivial,trivial,trivial,w1,w2,trivial⟩
theorem ok_spl (d:Nat):FOK NGt Wt 102 (tSplit (gS d)):=by
 refine fok_weaken (evalFn_ok wokt okl_sp (h:=⟨[],[]⟩) (fuel:=0) (own:=false) Tryz.func102 rfl (by decide)) (tSplit_nat _) rfl ?_
 intro xs r' h
 have hE:=(env_ok wokt okl_sp).nat
 simp only[tSplit] at h
 split at h
 ·rename_i cs
  obtain⟨r,hr,h⟩:=bind_some_inv h
  injection h with h
  subst h
  unfold gS at hr
  obtain⟨t,ht,hr⟩:=bind_some_inv hr
  obtain⟨hg,hr⟩:=bif_inv hr
  injection hr with hr
  subst hr
  obtain⟨e,hv⟩:=dec_inv ht
  unfold gdS at hg
  simp only[Bool.and_eq_true,decide_eq_true_eq] at hg
  obtain⟨g1,g2,g3,g4⟩:=hg
  rw[e]
  have key:∃ r,prun (en lSp) ⟨[],[]⟩ 0 false Tryz.f102 [enc d t]=some r∧Wk r (.sl (some false) 1 (encs d (splitD d t)).1 (encs d (splitD d t)).2):=by
   cases d with
   |zero=>exact spl_key0 t g1 g2
   |succ d=>exact spl_keyS t g1 g2 g3 g4
  obtain⟨r,k1,k2⟩:=key
  refine⟨r,?_,k2⟩
  unfold evalFn
  rw[evalE_F hE,k1]
  rfl
 ·cases h
def tPlace (g:List PV→Ky→Option (Int×Bool)):PFn:=⟨fun xs k=>match xs with|[.eptr cs,.str s]=>(g cs s).bind fun r=>k (.tuple [.int .i64 r.1,.bool r.2])|_=>none,false⟩
def tKid (g:List PV→Ky→Option Int):PFn:=⟨fun xs k=>match xs with|[.eptr cs,.str s]=>(g cs s).bind fun r=>k (.int .i64 r)|_=>none,false⟩
def tPut (g:List PV→Ky→PV→Option (Nat×List PV×Bool)):PFn:=⟨fun xs k=>match xs with|[.eptr cs,.str s,.str v]=>(g cs s (.str v)).bind fun r=>k (.tuple [.sl (some false) 1 r.1 r.2.1,.bool r.2.2])|_=>none,false⟩
def kidAt {R:Type}(n:Nat)(c:List PV)(i:Int)(k:List PV→Option R):Option R :=
 bif decide (0≤i)&&decide (i<(n:Int)) then ((c.drop (i.toNat * 1)).take 1).head?.bind fun v=>v.asE.bind fun es=>k es else none
def endC (n:Nat)(c:List PV)(k:PV→Option PV):Option PV:=bif decide (n * 1≤c.length) then k (.sl (some false) 1 n (c.take (n * 1))) else none
theorem enc_ptr (d:Nat)(t:TrD PV d):∃ cs,enc d t=.eptr cs:=by cases d<;>exact⟨_,rfl⟩
theorem tSplit_enc {R:Type}{d:Nat}{t:TrD PV d}(hg:gdS d t=true)(hv:∀ p∈cD d t,vok p.2=true)(k:PV→Option R):(tSplit (gS d)).F [enc d t] k=k (.sl (some false) 1 (encs d (splitD d t)).1 (encs d (splitD d t)).2):=by
 obtain⟨cs,e⟩:=enc_ptr d t
 rw[e]
 simp only[tSplit,gS]
 rw[← e,dec_enc hv,Option.bind_some,hg,cond_true,Option.bind_some]
theorem lf_F {R:Type}{a b:Option Bool}{k1:Nat}{c1 c2:List PV}(K:PV→Option R):p_lf.F [.sl a 1 k1 c1,.sl b 1 k1 c2] K=K (.eptr [.sl none 1 k1 c1,.sl none 1 k1 c2,.sl (some true) 1 0 [],.int .i64 (k1:Int)]):=rfl
theorem kidAt_enc {R:Type}{d:Nat}{ks:List (TrD PV d)}{i:Nat}{k:TrD PV d}(h:ks[i]? = some k):∃ es,enc d k=.eptr es∧∀ (K:List PV→Option R),kidAt ks.length (ks.map (enc d)) (i:Int) K=K es:=by
 obtain⟨es,e⟩:=enc_ptr d k
 refine⟨es,e,fun K=>?_⟩
 have hi:=(List.getElem?_eq_some_iff.1 h).1
 unfold kidAt
 rw[cond_t (by rw[decide_eq_true (by omega),decide_eq_true (by omega)];rfl),Int.toNat_natCast,Nat.mul_one,List.head?_take,if_neg (by decide),List.head?_drop,List.getElem?_map,h,Option.map_some,e]
 rfl
theorem replace_F {R:Type}{n i j m:Nat}{c vs:List PV}{nl:Option Bool}(hl:c.length=n)(hij:i<j)(hj:j≤n)(hm:0<m)(hb:n+m≤1000000)(K:Nat→List PV→Option R) :
  p_replace.F 1 n c [.int .i64 (i:Int),.int .i64 (j:Int),.sl nl 1 m vs] K=K (i+m+(n-j)) (c.take i++vs++c.drop j):=by
 show (bif decide ((1:Nat)=1)&&(decide (c.length=n)&&(decide (0≤(i:Int))&&(decide ((i:Int)<(j:Int))&&(decide ((j:Int)≤(n:Int))&&(decide (0<m)&&decide (n+m≤1000000)))))) then _ else none)=_
 rw[decide_eq_true rfl,decide_eq_true hl,decide_eq_true (show (0:Int)≤(i:Int) by omega),decide_eq_true (show (i:Int)<(j:Int) by omega),decide_eq_true (show (j:Int)≤(n:Int) by omega),decide_eq_true hm,decide_eq_true hb]
 rfl
theorem endC_eq {n:Nat}{c:List PV}(h:c.length=n)(K:PV→Option PV):endC n c K=K (.sl (some false) 1 n c):=by
 unfold endC
 rw[cond_t (decide_eq_true (by omega)),List.take_of_length_le (by omega)]
noncomputable def lnP:List (FuncId×NFn):=[(100,p_clone_s),(100,p_clone_i),(105,p_clone_n)]
noncomputable def lcP:List (FuncId×CFn):=[(101,p_insert_s),(101,p_insert_i),(104,p_replace)]
noncomputable def lPu (gp:List PV→Ky→Option (Int×Bool))(gk:List PV→Ky→Option Int)(gs:List PV→Option (Nat×List PV))(gu:List PV→Ky→PV→Option (Nat×List PV×Bool)):List (FuncId×PFn) :=
 [(99,p_leaf),(84,tPlace gp),(103,tKid gk),(69,p_lf),(71,p_ab),(102,tSplit gs),(70,tPut gu)]
noncomputable def enPu (gp:List PV→Ky→Option (Int×Bool))(gk:List PV→Ky→Option Int)(gs:List PV→Option (Nat×List PV))(gu:List PV→Ky→PV→Option (Nat×List PV×Bool)):Env:=enR (enA (lPu gp gk gs gu) [] [] lnP lcP) [125]
def hPu:Hints:=⟨[(1000007,⟨[(10,false),(11,false)],[]⟩)],[]⟩
def clG {R:Type}(n:Nat)(k:Option R):Option R:=bif decide (0<n)&&decide (n≤1000000) then k else none
def frC (n:Nat)(c:List PV)(k:PV→Option PV):Option PV:=bif decide (0+n * 1≤c.length) then k (.sl (some false) 1 n ((c.drop 0).take (n * 1))) else none
def puSt (v1:Nat)(vc:List PV)(i:Int)(v:PV)(k:List PV→Option PV):Option PV :=
 bif decide (0≤i)&&decide (i<(v1:Int)) then bif decide (0+i.toNat * 1+1≤vc.length) then k (vc.take (0+i.toNat * 1)++[v]++vc.drop (0+i.toNat * 1+1)) else none else none
theorem pu_raw0 (gp:List PV→Ky→Option (Int × Bool)) (gk:List PV→Ky→Option Int) (gs:List PV→Option (Nat × List PV)) (gu:List PV→Ky→PV→Option (Nat × List PV × Bool)) (k1 v1:Nat) (kc vc:List PV) (c:Int) (s:Ky) (v:List UInt8) :
    prun (enPu gp gk gs gu) hPu 0 false Tryz.f70 [ndV none k1 kc none v1 vc true 0 [] c,.str s,.str v] =
      (gp [.sl none 1 k1 kc,.sl none 1 v1 vc,.sl (some true) 1 0 [],.int .i64 c] s).bind fun r=>clG k1 (clG v1 (
        bif r.2 then puSt v1 vc r.1 (.str v) fun vc'=>frC k1 kc fun x=>frC v1 vc' fun y=>p_lf.F [x,y] fun z=>(tSplit gs).F [z] fun q=>some (.tuple [q,.bool (!r.2)])
        else p_insert_s.F 1 k1 kc [.int .i64 r.1,.sl (some false) 1 1 [.str s]] fun n c=>endC n c fun x=>p_insert_i.F 1 v1 vc [.int .i64 r.1,.sl (some false) 1 1 [.str v]] fun m e=>endC m e fun y =>
          p_lf.F [x,y] fun z=>(tSplit gs).F [z] fun q=>some (.tuple [q,.bool (!r.2)]))):=by kernel_rfl
theorem pu_rawS (gp:List PV→Ky→Option (Int×Bool))(gk:List PV→Ky→Option Int)(gs:List PV→Option (Nat×List PV))(gu:List PV→Ky→PV→Option (Nat×List PV×Bool))(k1 i1:Nat)(kc ic:List PV)(c:Int)(s:Ky)(v:List UInt8) :
  prun (enPu gp gk gs gu) hPu 0 false Tryz.f70 [ndV none k1 kc (some true) 0 [] false i1 ic c,.str s,.str v] =
   (gk [.sl none 1 k1 kc,.sl (some true) 1 0 [],.sl (some false) 1 i1 ic,.int .i64 c] s).bind fun i=>kidAt i1 ic i fun es=>(gu es s (.str v)).bind fun r=>clG i1 (
    p_replace.F 1 i1 ic [.int .i64 i,.int .i64 (IntKind.i64.wrap (i+1)),.sl (some false) 1 r.1 r.2.1] fun n' c'=>endC n' c' fun x=>p_ab.F [x] fun z=>(tSplit gs).F [z] fun q=>some (.tuple [q,.bool r.2.2])):=by kernel_rfl
def gPl (cs:List PV)(s:Ky):Option (Int×Bool):=match cs with
 |[.sl kn 1 kl kc,.sl vn 1 vl vc,.sl (some ni) 1 il ic,.int .i64 c]=>bif kc.all isStr&&(decide (kc.length=kl)&&(decide (0<kl)&&decide (kl≤1000000))) then some (((placeI kc s:Nat):Int),decide (placeI kc s<kl)&&strAt kc (placeI kc s)==s) else none
 |_=>none
def gKd (cs:List PV)(s:Ky):Option Int:=match cs with
 | .sl _ 1 n keys::_=>bif keys.all isStr&&(decide (keys.length=n)&&(decide (0<n)&&decide (n≤1000000))) then some ((kidI keys s-1:Nat):Int) else none
 |_=>none
theorem ok_placeT:FOK NGt Wt 84 (tPlace gPl):=by
 refine fok_weaken ok_place ?_ rfl ?_
 ·intro R xs k
  simp only[tPlace]
  split
  ·rw[obind_assoc];rfl
  ·rfl
 ·intro xs r' h
  simp only[tPlace] at h
  split at h
  ·obtain⟨n,hn,h⟩:=bind_some_inv h
   injection h with h
   subst h
   unfold gPl at hn
   split at hn
   ·obtain⟨hb,hn⟩:=bif_inv hn
    injection hn with hn
    subst hn
    exact⟨_,cond_t hb,Wk.refl _⟩
   ·cases hn
  ·cases h
theorem ok_kidT:FOK NGt Wt 103 (tKid gKd):=by
 refine fok_weaken ok_kid ?_ rfl ?_
 ·intro R xs k
  simp only[tKid]
  split
  ·rw[obind_assoc];rfl
  ·rfl
 ·intro xs r' h
  simp only[tKid] at h
  split at h
  ·obtain⟨n,hn,h⟩:=bind_some_inv h
   injection h with h
   subst h
   unfold gKd at hn
   split at hn
   ·obtain⟨hb,hn⟩:=bif_inv hn
    injection hn with hn
    subst hn
    exact⟨_,cond_t hb,Wk.refl _⟩
   ·cases hn
  ·cases h
theorem gPl_enc {l:List (Ky×PV)}(hs:Srt l)(h0:0<l.length)(h1:l.length≤1000)(s:Ky){cs:List PV}(h:enc 0 (ofL0 l)=.eptr cs):gPl cs s=some ((plN (l.map (·.1)) s:Int),hasK s l):=by
 rw[enc_zero] at h
 injection h with h
 subst h
 have e:(l.map fun p=>PV.str p.1)=(l.map (·.1)).map PV.str:=by rw[List.map_map];rfl
 unfold gPl
 have hsp:=(leaf_split hs s).2.2.2
 simp only[e,strs_all,List.length_map,decide_eq_true h0,decide_eq_true (show l.length≤1000000 by omega),placeI_eq hs.keys,Bool.true_and,cond_true,decide_true,hsp]
 congr 2
 by_cases hlt:plN (l.map (·.1)) s<l.length
 ·rw[strAt_str (by rw[List.length_map];exact hlt),List.getD_eq_getElem?_getD,List.getElem?_eq_getElem (by rw[List.length_map];exact hlt)]
  rfl
 ·rw[decide_eq_false hlt];rfl
theorem lks_srt {d:Nat}:∀ {ks:List (TrD PV d)},(∀ k∈ks,okD 4 d k)→Srt (ks.flatMap (cD d))→SrtK (ks.map (lkD d))
 |[],_,_=>List.Pairwise.nil
 |k::ks,h,hs=>by
  rw[List.flatMap_cons] at hs
  have ih:=lks_srt (ks:=ks) (fun x hx=>h x (List.mem_cons_of_mem _ hx)) hs.right
  refine List.pairwise_cons.2 ⟨?_,ih⟩
  intro a ha
  obtain⟨x,hx,rfl⟩:=List.mem_map.1 ha
  have hk4:=h k List.mem_cons_self
  have hx4:=h x (List.mem_cons_of_mem _ hx)
  obtain⟨p,hp,hpk⟩:=hdK_mem (hk4.nonempty (by omega))
  obtain⟨q,hq,hqk⟩:=hdK_mem (hx4.nonempty (by omega))
  rw[lk_hd hk4 (by omega),lk_hd hx4 (by omega),← hpk,← hqk]
  exact hs.cross hp (List.mem_flatMap.2 ⟨x,hx,hq⟩)
theorem gKd_enc {d:Nat}{ks:List (TrD PV d)}(h4:∀ k∈ks,okD 4 d k)(hs:Srt (ks.flatMap (cD d)))(h0:0<ks.length)(h1:ks.length≤1000)(s:Ky){cs:List PV}(h:enc (d+1) (ofL ks)=.eptr cs):gKd cs s=some (kidN ks s:Int):=by
 rw[enc_succ] at h
 injection h with h
 subst h
 have e:(ks.map fun k=>PV.str (lkD d k))=(ks.map (lkD d)).map PV.str:=by rw[List.map_map];rfl
 unfold gKd kidN
 simp only[e,strs_all,List.length_map,decide_eq_true h0,decide_eq_true (show ks.length≤1000000 by omega),kidI_eq (lks_srt h4 hs),Bool.true_and,cond_true,decide_true]
theorem tPut_nat (g:List PV→Ky→PV→Option (Nat×List PV×Bool)):(tPut g).nat:=by
 intro R xs k
 simp only[tPut]
 split
 ·rw[obind_assoc];rfl
 ·rfl
theorem fok_none {NG:Nat}{W:World→Prop}{f:FuncId}{p:PFn}(hn:p.nat)(h:∀ xs r,p.F xs (R:=PV) some≠some r):FOK NG W f p where
 nat:=hn
 call:=by
  intro M xs vs r _ _ _ _ hF
  exact absurd hF (h xs r)
def gdP (d:Nat)(t:TrD PV d):Bool:=okB 1 d t&&(srtB (cD d t)&&decide ((cD d t).length≤50000))
def gPu (d:Nat)(cs:List PV)(s:Ky)(v:PV):Option (Nat×List PV×Bool):=(dec d (.eptr cs)).bind fun t=>bif gdP d t then some ((encs d (putD d t s v).1).1,(encs d (putD d t s v).1).2,(putD d t s v).2) else none
theorem okl_pu {gs:List PV→Option (Nat×List PV)}{gu:List PV→Ky→PV→Option (Nat×List PV×Bool)}(hs:FOK NGt Wt 102 (tSplit gs))(hu:FOK NGt Wt 70 (tPut gu)):AllOK NGt Wt (lPu gPl gKd gs gu) :=
 allOK_cons ok_leaf (allOK_cons ok_placeT (allOK_cons ok_kidT (allOK_cons ok_lf (allOK_cons ok_ab (allOK_cons hs (allOK_cons hu allOK_nil))))))
theorem okN_p:AllN NGt Wt lnP:=allN_cons nok_clone_s (allN_cons nok_clone_i (allN_cons nok_clone_n allN_nil))
theorem okC_p:AllC NGt Wt lcP:=allC_cons cok_insert_s (allC_cons cok_insert_i (allC_cons cok_replace allC_nil))
theorem clG_t {R:Type}{n:Nat}(h0:0<n)(h1:n≤1000)(k:Option R):clG n k=k:=cond_t (by rw[decide_eq_true h0,decide_eq_true (by omega)];rfl)
theorem frC_t {n:Nat}{c:List PV}(h:c.length=n)(k:PV→Option PV):frC n c k=k (.sl (some false) 1 n c):=by
 unfold frC
 rw[cond_t (decide_eq_true (by omega)),List.drop_zero,List.take_of_length_le (by omega)]
theorem puSt_t {v1 i:Nat}{vc:List PV}{v:PV}(h:vc.length=v1)(hi:i<v1)(k:List PV→Option PV):puSt v1 vc (i:Int) v k=k (vc.take i++[v]++vc.drop (i+1)):=by
 unfold puSt
 rw[cond_t (by rw[decide_eq_true (by omega),decide_eq_true (by omega)];rfl),Int.toNat_natCast,cond_t (decide_eq_true (by omega)),Nat.mul_one,Nat.zero_add]
theorem insert_s_F {R:Type}{n i m:Nat}{c vs:List PV}{nl:Option Bool}(hl:c.length=n)(hi:i≤n)(hm:0<m)(hb:n+m≤1000000)(K:Nat→List PV→Option R) :
  p_insert_s.F 1 n c [.int .i64 (i:Int),.sl nl 1 m vs] K=K (n+m) (c.take i++vs++c.drop i):=by
 show (bif decide ((1:Nat)=1)&&(decide (c.length=n)&&(decide (0≤(i:Int))&&(decide ((i:Int)≤(n:Int))&&(decide (0<m)&&decide (n+m≤1000000))))) then _ else none)=_
 rw[decide_eq_true rfl,decide_eq_true hl,decide_eq_true (show (0:Int)≤(i:Int) by omega),decide_eq_true (show (i:Int)≤(n:Int) by omega),decide_eq_true hm,decide_eq_true hb]
 rfl
theorem insert_i_F {R:Type}{n i m:Nat}{c vs:List PV}{nl:Option Bool}(hl:c.length=n)(hi:i≤n)(hm:0<m)(hb:n+m≤1000000)(K:Nat→List PV→Option R) :
  p_insert_i.F 1 n c [.int .i64 (i:Int),.sl nl 1 m vs] K=K (n+m) (c.take i++vs++c.drop i):=by
 show (bif decide ((1:Nat)=1)&&(decide (c.length=n)&&(decide (0≤(i:Int))&&(decide ((i:Int)≤(n:Int))&&(decide (0<m)&&decide (n+m≤1000000))))) then _ else none)=_
 rw[decide_eq_true rfl,decide_eq_true hl,decide_eq_true (show (0:Int)≤(i:Int) by omega),decide_eq_true (show (i:Int)≤(n:Int) by omega),decide_eq_true hm,decide_eq_true hb]
 rfl
theorem pu_eq0 (gu:List PV→Ky→PV→Option (Nat × List PV × Bool)) (l:List (Ky × PV)) (hv:∀ p ∈ l,vok p.2=true) (h0:1≤l.length) (h8:l.length≤8) (hs:Srt l) (s:Ky) (v:List UInt8) :
    prun (enPu gPl gKd (gS 0) gu) hPu 0 false Tryz.f70 [enc 0 (ofL0 l),.str s,.str v] =
      some (.tuple [.sl (some false) 1 (encs 0 (putD 0 (ofL0 l) s (.str v)).1).1 (encs 0 (putD 0 (ofL0 l) s (.str v)).1).2,.bool (putD 0 (ofL0 l) s (.str v)).2]):=by
  have e1:enc 0 (ofL0 l)=ndV none l.length (l.map fun p=>.str p.1) none l.length (l.map (·.2)) true 0 [] (l.length:Int):=rfl
  have fin:∀ (b:Bool),insK s (.str v) l≠[]→(insK s (.str v) l).length≤16→((tSplit (gS 0)).F [enc 0 (ofL0 (insK s (.str v) l))] fun q=>some (PV.tuple [q,.bool b]))=some (PV.tuple [.sl (some false) 1 (encs 0 (putD 0 (ofL0 l) s (.str v)).1).1 (encs 0 (putD 0 (ofL0 l) s (.str v)).1).2,.bool b]):=by
    intro b hne h16
    rw [tSplit_enc ?_ ?_]
    · rfl
    · unfold gdS
      have s0:szD 0 (ofL0 (insK s (.str v) l))=(insK s (.str v) l).length:=rfl
      have c0:(cD 0 (ofL0 (insK s (.str v) l))).length=(insK s (.str v) l).length:=rfl
      have:=List.length_pos_iff.2 hne
      rw [s0,c0,decide_eq_true (by omega),decide_eq_true (by omega),decide_eq_true (by omega)]
      rfl
    · intro p hp
      have key:∀ (l:List (Ky × PV)),(∀ p ∈ l,vok p.2=true)→∀ p ∈ insK s (.str v) l,vok p.2=true:=by
        intro l
        induction l with
        | nil=>intro _ p hp;simp [insK] at hp;subst hp;rfl
        | cons a r ih =>
          intro hl p hp
          simp only [insK] at hp
          split at hp
          · rcases List.mem_cons.1 hp with rfl | hp
            · rfl
            · exact hl p (List.mem_cons_of_mem _ hp)
          · split at hp
            · rcases List.mem_cons.1 hp with rfl | hp
              · rfl
              · exact hl p hp
            · rcases List.mem_cons.1 hp with rfl | hp
              · exact hl _ List.mem_cons_self
              · exact ih (fun q hq=>hl q (List.mem_cons_of_mem _ hq)) p hp
      exact key l hv p hp
  obtain ⟨p1,p2,p3,_⟩:=leaf_split hs s
  have hpl:=plN_le s (l.map (·.1))
  rw [List.length_map] at hpl
  rw [e1,pu_raw0,gPl_enc hs (by omega) (by omega) s (enc_zero l),Option.bind_some,clG_t (by omega) (by omega),clG_t (by omega) (by omega)]
  have hput:(putD 0 (ofL0 l) s (.str v)).2=!hasK s l:=rfl
  rw [hput]
  rcases hh:hasK s l with _ | _
  · simp only [cond_false]
    have hi:=ins_mid (v:=.str v) [] p1 (p3 hh)
    rw [List.append_nil,List.take_append_drop] at hi
    have hi:insK s (.str v) l=l.take (plN (l.map (·.1)) s) ++ [(s,.str v)] ++ l.drop (plN (l.map (·.1)) s):=hi
    rw [insert_s_F (by rw [List.length_map]) hpl (by omega) (by omega),endC_eq (by simp;omega),insert_i_F (by rw [List.length_map]) hpl (by omega) (by omega),endC_eq (by simp;omega),lf_F]
    have e2:PV.eptr [.sl none 1 (l.length + 1) ((l.map fun p=>PV.str p.1).take (plN (l.map (·.1)) s) ++ [.str s] ++ (l.map fun p=>PV.str p.1).drop (plN (l.map (·.1)) s)),.sl none 1 (l.length + 1) ((l.map (·.2)).take (plN (l.map (·.1)) s) ++ [.str v] ++ (l.map (·.2)).drop (plN (l.map (·.1)) s)),.sl (some true) 1 0 [],.int .i64 ((l.length + 1:Nat):Int)]=enc 0 (ofL0 (insK s (.str v) l)):=by
      have hlen:(insK s (.str v) l).length=l.length + 1:=by rw [ins_len hs,hh];rfl
      rw [enc_zero,hlen,hi]
      simp only [List.map_append,List.map_take,List.map_drop,List.map_cons,List.map_nil]
    rw [e2,fin]
    · rw [hi];simp
    · rw [ins_len hs,hh];simp;omega
  · simp only [cond_true]
    obtain ⟨w,q1,q2⟩:=p2 hh
    have hlt:=(List.getElem?_eq_some_iff.1 q1).1
    have hsp:=take_get_drop q1
    have hi:insK s (.str v) l=l.take (plN (l.map (·.1)) s) ++ [(s,.str v)] ++ l.drop (plN (l.map (·.1)) s + 1):=by
      conv=>lhs;rw [hsp]
      rw [ins_mid _ p1 q2]
      simp [insK]
    rw [puSt_t (by rw [List.length_map]) hlt,frC_t (by rw [List.length_map]),frC_t (by simp;omega),lf_F]
    have e2:PV.eptr [.sl none 1 l.length (l.map fun p=>PV.str p.1),.sl none 1 l.length ((l.map (·.2)).take (plN (l.map (·.1)) s) ++ [.str v] ++ (l.map (·.2)).drop (plN (l.map (·.1)) s + 1)),.sl (some true) 1 0 [],.int .i64 ((l.length:Nat):Int)]=enc 0 (ofL0 (insK s (.str v) l)):=by
      have hlen:(insK s (.str v) l).length=l.length:=by rw [ins_len hs,hh];rfl
      have hk:(l.map fun p=>PV.str p.1)=((insK s (.str v) l).map fun p=>PV.str p.1):=by
        rw [hi]
        conv=>lhs;rw [hsp]
        simp
      rw [enc_zero,hlen,← hk,hi]
      simp only [List.map_append,List.map_take,List.map_drop,List.map_cons,List.map_nil]
    rw [e2,fin]
    · rw [hi];simp
    · rw [ins_len hs,hh];simp;omega
theorem vok_mem {d:Nat}{ks:List (TrD PV d)}{k:TrD PV d}(hv:∀ p∈cD (d+1) (ofL ks),vok p.2=true)(hk:k∈ks):∀ p∈cD d k,vok p.2=true:=fun p hp=>hv p (List.mem_flatMap.2 ⟨k,hk,hp⟩)
theorem vok_ins {s:Ky}{v:PV}(hv0:vok v=true){l:List (Ky×PV)}(hl:∀ p∈l,vok p.2=true):∀ p∈insK s v l,vok p.2=true:=by
 induction l with
 |nil=>intro p hp;simp[insK] at hp;subst hp;exact hv0
 |cons a r ih =>
  intro p hp
  simp only[insK] at hp
  split at hp
  ·rcases List.mem_cons.1 hp with rfl|hp
   ·exact hv0
   ·exact hl p (List.mem_cons_of_mem _ hp)
  ·split at hp
   ·rcases List.mem_cons.1 hp with rfl|hp
    ·exact hv0
    ·exact hl p hp
   ·rcases List.mem_cons.1 hp with rfl|hp
    ·exact hl _ List.mem_cons_self
    ·exact ih (fun q hq=>hl q (List.mem_cons_of_mem _ hq)) p hp
theorem putD_succ {β:Type}{d:Nat}(t:TrD β (d+1)){k:Ky}{v:β}{x:TrD β d}(h:(asL t)[kidN (asL t) k]? = some x):putD (d+1) t k v=(splitL ((asL t).take (kidN (asL t) k)++(putD d x k v).1++(asL t).drop (kidN (asL t) k+1)),(putD d x k v).2):=by
 simp only[putD]
 rw[h]
 rfl
theorem pu_eqS {d:Nat}(ks:List (TrD PV d))(hv:∀ p∈cD (d+1) (ofL ks),vok p.2=true)(hg:gdP (d+1) (ofL ks)=true)(s:Ky)(v:List UInt8) :
  prun (enPu gPl gKd (gS (d+1)) (gPu d)) hPu 0 false Tryz.f70 [enc (d+1) (ofL ks),.str s,.str v] =
   some (PV.tuple [.sl (some false) 1 (encs (d+1) (putD (d+1) (ofL ks) s (.str v)).1).1 (encs (d+1) (putD (d+1) (ofL ks) s (.str v)).1).2,.bool (putD (d+1) (ofL ks) s (.str v)).2]):=by
 have e1:enc (d+1) (ofL ks)=ndV none ks.length (ks.map fun k=>.str (lkD d k)) (some true) 0 [] false ks.length (ks.map (enc d)) ((ks.flatMap (cD d)).length:Int):=rfl
 unfold gdP at hg
 simp only[Bool.and_eq_true,decide_eq_true_eq] at hg
 obtain⟨g1,g2,g3⟩:=hg
 have hok:=(okB_iff 1 (d+1) (ofL ks)).1 g1
 have h4:∀ k∈ks,okD 4 d k:=hok.2
 have h0:1≤ks.length:=hok.1.1
 have h8:ks.length≤8:=hok.1.2
 have hs:Srt (ks.flatMap (cD d)):=(srtB_iff _).1 g2
 have g3:(ks.flatMap (cD d)).length≤50000:=g3
 obtain⟨k,hk,hA,hB⟩:=kid_split (x:=s) h4 (by omega) hs
 have hkm:=List.mem_of_getElem? hk
 have hlt:=(List.getElem?_eq_some_iff.1 hk).1
 obtain⟨es,ee,q⟩:=kidAt_enc (R:=PV) hk
 have hfl:=flat_split hk
 have hsk:Srt (cD d k):=by
  have:=hs
  rw[hfl,List.append_assoc] at this
  exact this.right.left
 have hgk:gdP d k=true:=by
  unfold gdP
  rw[(okB_iff 1 d k).2 ((h4 k hkm).weaken (by omega)),(srtB_iff _).2 hsk,decide_eq_true (by have:=len_mem_flat hkm;omega)]
  rfl
 have hgu:gPu d es s (.str v)=some ((encs d (putD d k s (.str v)).1).1,(encs d (putD d k s (.str v)).1).2,(putD d k s (.str v)).2):=by
  unfold gPu
  rw[← ee,dec_enc (vok_mem hv hkm),Option.bind_some,hgk,cond_true]
 obtain⟨r1,r2,r3,r4⟩:=put_spec (k:=s) (v:=.str v) (h4 k hkm) (by omega) hsk
 have hl1:(encs d (putD d k s (.str v)).1).1=(putD d k s (.str v)).1.length:=rfl
 have hl2:(encs d (putD d k s (.str v)).1).2=(putD d k s (.str v)).1.map (enc d):=rfl
 have hnk:∀ x∈ks.take (kidN ks s)++(putD d k s (.str v)).1++ks.drop (kidN ks s+1),okD 4 d x:=by
  intro x hx
  rcases List.mem_append.1 hx with hx|hx
  ·rcases List.mem_append.1 hx with hx|hx
   ·exact h4 x (List.mem_of_mem_take hx)
   ·exact r4 x hx
  ·exact h4 x (List.mem_of_mem_drop hx)
 have hflat:(ks.take (kidN ks s)++(putD d k s (.str v)).1++ks.drop (kidN ks s+1)).flatMap (cD d)=insK s (.str v) (ks.flatMap (cD d)):=by
  rw[List.flatMap_append,List.flatMap_append,r1,hfl,ins_mid _ hA hB]
 have hlen:(ks.take (kidN ks s)++(putD d k s (.str v)).1++ks.drop (kidN ks s+1)).length=kidN ks s+(putD d k s (.str v)).1.length+(ks.length-(kidN ks s+1)):=by
  simp only[List.length_append,List.length_take,List.length_drop]
  omega
 have hcl:(insK s (.str v) (ks.flatMap (cD d))).length≤50001:=by rw[ins_len hs];split<;>omega
 rw[e1,pu_rawS,gKd_enc h4 hs (by omega) (by omega) s (enc_succ ks),Option.bind_some,q,hgu,Option.bind_some,clG_t (by omega) (by omega),wrapI_of (by omega) (by omega),show (kidN ks s:Int)+1=((kidN ks s+1:Nat):Int) by omega,
  replace_F (by rw[List.length_map]) (by omega) (by omega) (by rw[hl1];omega) (by rw[hl1];omega),endC_eq (by rw[hl1,hl2];simp;omega),hl1,hl2,← List.map_take,← List.map_drop,← List.map_append,← List.map_append,← hlen,ab_enc hnk (by omega) (by rw[hflat];omega),tSplit_enc ?_ ?_]
 ·have e:putD (d+1) (ofL ks) s (.str v)=(splitL (ks.take (kidN ks s)++(putD d k s (.str v)).1++ks.drop (kidN ks s+1)),(putD d k s (.str v)).2):=putD_succ (ofL ks) hk
  rw[e]
  rfl
 ·have sz:∀ m:List (TrD PV d),szD (d+1) (ofL m)=m.length:=fun m=>rfl
  have kb:∀ m:List (TrD PV d),kidsB (d+1) (ofL m)=m.all (okB 4 d):=fun m=>rfl
  have c:∀ m:List (TrD PV d),cD (d+1) (ofL m)=m.flatMap (cD d):=fun m=>rfl
  unfold gdS
  rw[sz,kb,c,hflat,decide_eq_true (by omega),decide_eq_true (by omega),decide_eq_true (by omega),List.all_eq_true.2 fun x hx=>(okB_iff 4 d x).2 (hnk x hx)]
  rfl
 ·have c:∀ m:List (TrD PV d),cD (d+1) (ofL m)=m.flatMap (cD d):=fun m=>rfl
  rw[c,hflat]
  exact vok_ins rfl hv
theorem ok_put:∀ d,FOK NGt Wt 70 (tPut (gPu d))
 |0 => by
  have hnone:FOK NGt Wt 70 (tPut fun _ _ _=>none):=fok_none (tPut_nat _) (by
   intro xs r h
   simp only[tPut] at h
   split at h
   ·cases h
   ·cases h)
  refine fokW wokt (okl_pu (ok_spl 0) hnone) allH_nil allI_nil okN_p okC_p [125] Tryz.func70 rfl (by decide) (tPut_nat _) rfl (h:=hPu) 0 ?_
  intro xs r' h
  simp only[tPut] at h
  split at h
  ·rename_i cs s v
   obtain⟨r,hr,h⟩:=bind_some_inv h
   injection h with h
   subst h
   unfold gPu at hr
   obtain⟨t,ht,hr⟩:=bind_some_inv hr
   obtain⟨hg,hr⟩:=bif_inv hr
   injection hr with hr
   subst hr
   obtain⟨e,hv⟩:=dec_inv ht
   unfold gdP at hg
   simp only[Bool.and_eq_true,decide_eq_true_eq] at hg
   obtain⟨g1,g2,g3⟩:=hg
   have hok:=(okB_iff 1 0 t).1 g1
   rw[e]
   exact⟨_,pu_eq0 _ t hv hok.1 hok.2 ((srtB_iff _).1 g2) s v,Wk.refl _⟩
  ·cases h
 |d+1=>by
  refine fokW wokt (okl_pu (ok_spl (d+1)) (ok_put d)) allH_nil allI_nil okN_p okC_p [125] Tryz.func70 rfl (by decide) (tPut_nat _) rfl (h:=hPu) 0 ?_
  intro xs r' h
  simp only[tPut] at h
  split at h
  ·rename_i cs s v
   obtain⟨r,hr,h⟩:=bind_some_inv h
   injection h with h
   subst h
   unfold gPu at hr
   obtain⟨t,ht,hr⟩:=bind_some_inv hr
   obtain⟨hg,hr⟩:=bif_inv hr
   injection hr with hr
   subst hr
   obtain⟨e,hv⟩:=dec_inv ht
   rw[e]
   exact⟨_,pu_eqS t hv hg s v,Wk.refl _⟩
  ·cases h
def ptrC:PV→List PV
 | .eptr cs=>cs
 |_=>[]
theorem ptrC_enc (d:Nat)(t:TrD PV d):PV.eptr (ptrC (enc d t))=enc d t:=by
 obtain⟨cs,e⟩:=enc_ptr d t
 rw[e];rfl
def tLeaf (g:List PV→Option Bool):PFn:=⟨fun xs k=>match xs with|[.eptr cs]=>(g cs).bind fun b=>k (.bool b)|_=>none,false⟩
noncomputable def enTx (l:List (FuncId×PFn))(lh:List (FuncId×HFn)):Env:=enR (enA l lh [] [] []) [125]
def h0:Hints:=⟨[],[]⟩
def frB (n:Nat)(l:List (Nat×PV))(bx:List (Option (List TV)))(o:Out):St:=⟨(List.range n).map fun t=>((l.lookup t).getD .undef,0),List.replicate n none++bx,o⟩
section
variable {R:Type}
theorem new_raw (kk:List (List PV)→PV→Option R):prunH (enTx [] []) h0 0 Tryz.f39 [] [] kk=kk [[.nilptr]] (.ptr 0 0):=by kernel_rfl
noncomputable def lTp (gu:List PV→Ky→PV→Option (Nat×List PV×Bool)):List (FuncId×PFn):=[(70,tPut gu),(71,p_ab),(69,p_lf)]
theorem tput_raw1 (gu:List PV→Ky→PV→Option (Nat×List PV×Bool))(cs:List PV)(s:Ky)(v:List UInt8)(kk:List (List PV)→PV→Option R) :
  prunH (enTx (lTp gu) []) h0 0 Tryz.f40 [[.eptr cs]] [.ptr 0 0,.str s,.str v] kk =
   (gu cs s (.str v)).bind fun r=>kidAt r.1 r.2.1 0 fun es=>bif decide (1<(r.1:Int)) then p_ab.F [.sl (some false) 1 r.1 r.2.1] fun y=>kk [[y]] (.bool r.2.2) else kk [[.eptr es]] (.bool r.2.2):=by kernel_rfl
theorem tput_raw0 (gu:List PV→Ky→PV→Option (Nat×List PV×Bool))(s:Ky)(v:List UInt8)(kk:List (List PV)→PV→Option R) :
  prunH (enTx (lTp gu) []) h0 0 Tryz.f40 [[.nilptr]] [.ptr 0 0,.str s,.str v] kk =
   p_lf.F [.sl (some false) 1 1 [.str s],.sl (some false) 1 1 [.str v]] fun y=>kk [[y]] (.bool true):=by kernel_rfl
theorem tput_rawN (gu:List PV→Ky→PV→Option (Nat×List PV×Bool))(s:Ky)(v:List UInt8)(kk:List (List PV)→PV→Option R) :
  prunH (enTx (lTp gu) []) h0 0 Tryz.f40 [] [.nilptr,.str s,.str v] kk=kk [] (.bool false):=by kernel_rfl
theorem from_raw1 (cs:List PV)(s:Ky)(kk:List (List PV)→PV→Option R) :
  prunH (enTx [] []) h0 0 Tryz.f89 [[.eptr cs]] [.ptr 0 0,.str s] kk=kk [[.eptr cs],[.ptr 0 0],[.str s]] (.clo 114 [.ptr 1 0,.ptr 2 0]):=by kernel_rfl
theorem from_raw0 (s:Ky)(kk:List (List PV)→PV→Option R) :
  prunH (enTx [] []) h0 0 Tryz.f89 [[.nilptr]] [.ptr 0 0,.str s] kk=kk [[.nilptr],[.ptr 0 0],[.str s]] (.clo 114 [.ptr 1 0,.ptr 2 0]):=by kernel_rfl
theorem from_rawN (s:Ky)(kk:List (List PV)→PV→Option R) :
  prunH (enTx [] []) h0 0 Tryz.f89 [] [.nilptr,.str s] kk=kk [[.nilptr],[.str s]] (.clo 114 [.ptr 0 0,.ptr 1 0]):=by kernel_rfl
noncomputable def lFi (gl:List PV→Option Bool)(gk:List PV→Ky→Option Int):List (FuncId×PFn):=[(99,tLeaf gl),(103,tKid gk)]
def hFi:Hints:=⟨[],[(0,⟨[(1,false),(5,false)],[2097152]⟩)]⟩
def frFi (s:Ky)(x root:PV):St:=frB 29 [(1,.str s),(5,x)] [some [(root,0)]] .nil
noncomputable def fiKr (gl:List PV→Option Bool)(gk:List PV→Ky→Option Int)(kk:List (List PV)→PV→Option R)(st:St):Option R:=pfinH (enTx (lFi gl gk) []) 1 Tryz.f83 st fun bs _ v=>kk bs v
noncomputable def fiLoop (gl:List PV→Option Bool)(gk:List PV→Ky→Option Int)(fu:Nat)(kk:List (List PV)→PV→Option R)(n:Nat)(st:St):Option R :=
 loopK (enTx (lFi gl gk) []) hFi fu (fiKr gl gk kk) Tryz.f83 (fun _=>none) [1,1,1,0,0] 0 n st
theorem find_raw1 (gl:List PV→Option Bool)(gk:List PV→Ky→Option Int)(fu:Nat)(cs:List PV)(s:Ky)(kk:List (List PV)→PV→Option R) :
  prunH (enTx (lFi gl gk) []) hFi fu Tryz.f83 [[.eptr cs]] [.ptr 0 0,.str s] kk=fiLoop gl gk fu kk fu (frFi s (.eptr cs) (.eptr cs)):=prunHN_eq.trans (by kernel_rfl)
theorem find_raw0 (gl:List PV→Option Bool)(gk:List PV→Ky→Option Int)(fu:Nat)(s:Ky)(kk:List (List PV)→PV→Option R) :
  prunH (enTx (lFi gl gk) []) hFi (fu+1) Tryz.f83 [[.nilptr]] [.ptr 0 0,.str s] kk=kk [[.nilptr]] .nilptr:=by kernel_rfl
theorem find_rawN (gl:List PV→Option Bool)(gk:List PV→Ky→Option Int)(fu:Nat)(s:Ky)(kk:List (List PV)→PV→Option R) :
  prunH (enTx (lFi gl gk) []) hFi fu Tryz.f83 [] [.nilptr,.str s] kk=kk [] .nilptr:=by kernel_rfl
def kidsOf {S:Type}(cs:List PV)(k:Nat→List PV→Option S):Option S:=(cs.drop 2).head?.bind fun x=>(x.asSl 1).bind fun p=>k p.2.1 p.2.2
theorem find_step (gl:List PV→Option Bool)(gk:List PV→Ky→Option Int)(fu:Nat)(cs:List PV)(s:Ky)(root:List PV)(kk:List (List PV)→PV→Option R)(K:St→Option R) :
  stepK (enTx (lFi gl gk) []) hFi fu (fiKr gl gk kk) Tryz.f83 [1,1,1,0,0] (fun _=>none) (frFi s (.eptr cs) (.eptr root)) (fun st=>pnorm (hFi.loop.lookup 0) st K) =
   (gl cs).bind fun b=>bif !b then kidsOf cs fun n c=>(gk cs s).bind fun i=>kidAt n c i fun es=>K (frFi s (.eptr es) (.eptr root)) else kk [[.eptr root]] (.eptr cs):=by kernel_rfl
def hFind (gf:List PV→Ky→Option (List PV)):HFn:=⟨fun bs xs k=>match bs,xs with
 |[[.eptr cs]],[.ptr 0 0,.str s]=>(gf cs s).bind fun es=>k [[.eptr cs]] (.eptr es)
 |[[.nilptr]],[.ptr 0 0,.str s]=>k [[.nilptr]] .nilptr
 |[],[.nilptr,.str s]=>k [] .nilptr
 |_,_=>none⟩
noncomputable def lGe (gp:List PV→Ky→Option (Int×Bool)):List (FuncId×PFn):=[(84,tPlace gp)]
noncomputable def lGeH (gf:List PV→Ky→Option (List PV)):List (FuncId×HFn):=[(83,hFind gf)]
theorem get_raw1 (gp:List PV→Ky→Option (Int×Bool))(gf:List PV→Ky→Option (List PV))(cs:List PV)(s:Ky)(kk:List (List PV)→PV→Option R) :
  prunH (enTx (lGe gp) (lGeH gf)) h0 0 Tryz.f57 [[.eptr cs]] [.ptr 0 0,.str s] kk =
   (gf cs s).bind fun es=>(gp es s).bind fun r=>bif r.2 then (es.drop 1).head?.bind fun x=>(x.asSl 1).bind fun p=>bif decide (0≤r.1)&&decide (r.1<(p.2.1:Int)) then ((p.2.2.drop (r.1.toNat * 1)).take 1).head?.bind fun y=>y.asStr.bind fun v=>kk [[.eptr cs]] (.tuple [.str v,.bool true]) else none
    else kk [[.eptr cs]] (.tuple [.str [],.bool false]):=by kernel_rfl
theorem get_raw0 (gp:List PV→Ky→Option (Int×Bool))(gf:List PV→Ky→Option (List PV))(s:Ky)(kk:List (List PV)→PV→Option R) :
  prunH (enTx (lGe gp) (lGeH gf)) h0 0 Tryz.f57 [[.nilptr]] [.ptr 0 0,.str s] kk=kk [[.nilptr]] (.tuple [.str [],.bool false]):=by kernel_rfl
theorem get_rawN (gp:List PV→Ky→Option (Int×Bool))(gf:List PV→Ky→Option (List PV))(s:Ky)(kk:List (List PV)→PV→Option R) :
  prunH (enTx (lGe gp) (lGeH gf)) h0 0 Tryz.f57 [] [.nilptr,.str s] kk=kk [] (.tuple [.str [],.bool false]):=by kernel_rfl
def hGet (gg:List PV→Ky→Option (List UInt8×Bool)):HFn:=⟨fun bs xs k=>match bs,xs with
 |[[.eptr cs]],[.ptr 0 0,.str s]=>(gg cs s).bind fun r=>k [[.eptr cs]] (.tuple [.str r.1,.bool r.2])
 |[[.nilptr]],[.ptr 0 0,.str s]=>k [[.nilptr]] (.tuple [.str [],.bool false])
 |[],[.nilptr,.str s]=>k [] (.tuple [.str [],.bool false])
 |_,_=>none⟩
end
theorem splitL_len2 {α:Type}{l:List α}(h:(splitL l).length=2):∀ x∈splitL l,4≤x.length:=by
 intro x hx
 unfold splitL at hx h
 split at hx
 ·rename_i h8;rw[if_pos h8] at h;simp at h
 ·simp at hx
  rcases hx with rfl|rfl
  ·simp;omega
  ·simp;omega
theorem put_two {β:Type}{m d:Nat}{t:TrD β d}{k:Ky}{v:β}(h:okD m d t)(hm:0<m)(hs:Srt (cD d t))(h2:(putD d t k v).1.length=2):∀ y∈(putD d t k v).1,okD 4 d y:=by
 intro y hy
 have q:=(put_spec (k:=k) (v:=v) h hm hs).2.2.2 y hy
 refine q.raise ?_
 cases d with
 |zero=>exact splitL_len2 h2 y hy
 |succ d =>
  obtain⟨x,hx,_,_⟩:=kid_split (x:=k) h.2 (by have:=h.1.1;omega) hs
  have e:=putD_succ t (v:=v) hx
  rw[e] at hy h2
  exact splitL_len2 h2 y hy
def RootIs (x:PV)(l:List (Ky×PV)):Prop:=(x=.nilptr∧l=[])∨∃ (d:Nat) (t:TrD PV d),x=enc d t∧okD (min 2 (d+1)) d t∧Srt l∧cD d t=l∧(∀ p∈l,vok p.2=true)
theorem RootIs.vok {x:PV}{l:List (Ky×PV)}(h:RootIs x l):∀ p∈l,vok p.2=true:=by
 rcases h with ⟨_,rfl⟩|⟨d,t,_,_,_,_,h⟩
 ·intro p hp;cases hp
 ·exact h
theorem dep_lt {m d:Nat}{t:TrD PV d}(h:okD m d t)(hm:0<m)(hl:(cD d t).length≤100000):d<30:=by
 have h1:=h.least
 by_cases hd:d<30
 ·exact hd
 ·have:4^30≤4^d:=Nat.pow_le_pow_right (by omega) (by omega)
  have h3:4^d≤m * 4^d:=Nat.le_mul_of_pos_left _ hm
  omega
theorem okD_root {d:Nat}{t:TrD PV d}(h:okD (min 2 (d+1)) d t):okD 1 d t:=h.weaken (by omega)
theorem fok_fam {NG:Nat}{W:World→Prop}{f:FuncId}{q:Nat→PFn}{p:PFn}(hq:∀ d,FOK NG W f (q d))(hn:p.nat)(ho:p.own=false)(h:∀ xs r,p.F xs (R:=PV) some=some r→∃ d,(q d).F xs (R:=PV) some=some r):FOK NG W f p where
 nat:=hn
 call:=by
  intro M xs vs r hW hng hg hr hF
  obtain⟨d,hd⟩:=h xs r hF
  have:=((fok_weaken (hq d) (p':=⟨(q d).F,false⟩) (hq d).nat rfl fun xs r h=>⟨r,h,Wk.refl r⟩).call M xs vs r hW hng hg hr hd)
  rcases this with ⟨v,w',k1,U',k2,k3,k4⟩|⟨k1,k2⟩
  ·exact .inl ⟨v,w',k1,U',k2,k3,fun e=>by rw[ho] at e;cases e⟩
  ·refine .inr ⟨k1,k2.mono ?_⟩
   rintro e w' ⟨v,rfl,U',q2,q3,q4⟩
   exact⟨v,rfl,U',q2,q3,fun e=>by rw[ho] at e;cases e⟩
def gPuA (cs:List PV)(s:Ky)(v:PV):Option (Nat×List PV×Bool):=gPu (depF 30 (.eptr cs)) cs s v
theorem ok_putA:FOK NGt Wt 70 (tPut gPuA):=fok_fam ok_put (tPut_nat _) rfl (by
 intro xs r h
 simp only[tPut] at h
 split at h
 ·rename_i cs s v;exact⟨depF 30 (.eptr cs),h⟩
 ·cases h)
def gLf (cs:List PV):Option Bool:=match cs with|[.sl kn 1 kl kc,.sl vn 1 vl vc,.sl (some ni) 1 il ic,.int .i64 c]=>some ni|_=>none
theorem tLeaf_nat (g:List PV→Option Bool):(tLeaf g).nat:=by
 intro R xs k
 simp only[tLeaf]
 split
 ·rw[obind_assoc];rfl
 ·rfl
theorem ok_leafT:FOK NGt Wt 99 (tLeaf gLf):=by
 refine fok_weaken ok_leaf (tLeaf_nat _) rfl ?_
 intro xs r' h
 simp only[tLeaf] at h
 split at h
 ·obtain⟨n,hn,h⟩:=bind_some_inv h
  injection h with h
  subst h
  unfold gLf at hn
  split at hn
  ·injection hn with hn
   subst hn
   exact⟨_,rfl,Wk.refl _⟩
  ·cases hn
 ·cases h
theorem gLf_enc {d:Nat}{t:TrD PV d}{cs:List PV}(h:enc d t=.eptr cs):gLf cs=some (decide (d=0)):=by
 cases d with
 |zero =>
  have e:enc 0 t=.eptr [.sl none 1 _ _,.sl none 1 _ _,.sl (some true) 1 0 [],.int .i64 _]:=rfl
  rw[e] at h
  injection h with h
  subst h
  rfl
 |succ d =>
  have e:enc (d+1) t=.eptr [.sl none 1 _ _,.sl (some true) 1 0 [],.sl (some false) 1 _ _,.int .i64 _]:=rfl
  rw[e] at h
  injection h with h
  subst h
  rfl
theorem kidsOf_enc {S:Type}{d:Nat}{ks:List (TrD PV d)}{cs:List PV}(h:enc (d+1) (ofL ks)=.eptr cs)(k:Nat→List PV→Option S):kidsOf cs k=k ks.length (ks.map (enc d)):=by
 rw[enc_succ] at h
 injection h with h
 subst h
 rfl
section
variable {R S:Type}
def hNew:HFn:=⟨fun bs xs k=>match bs,xs with|[],[]=>k [[.nilptr]] (.ptr 0 0)|_,_=>none⟩
theorem okE:AllOK NGt Wt []:=allOK_nil
theorem hokX {l:List (FuncId×PFn)}(hl:AllOK NGt Wt l){lh:List (FuncId×HFn)}(hh:AllH NGt Wt lh){f:FuncId}{fn:Func}(hf:Tryz.prog.funcs[f]? = some fn)(hb:fn.body.isSome=true)(hname:fn.name ≠ "runtime.NumGoroutine"){p:HFn}(hn:p.nat){h:Hints}
  (hrun:∀ bs xs r,p.F bs xs (R:=List (List PV)×PV) (fun b v=>some (b,v))=some r→∃ fuel,prunH (enTx l lh) h fuel fn bs xs (fun b v=>some (b,v))=some r):HOK NGt Wt f p :=
 HnOK.of_run (en:=enTx l lh) (en':=en []) (env_okR (env_okA wokt hl hh allI_nil allN_nil allC_nil) _) rfl rfl rfl hf hb hname hn hrun
theorem ok_new:HOK NGt Wt 39 hNew:=by
 refine hokX okE allH_nil (h:=h0) Tryz.func39 rfl (by decide) ?_ ?_
 ·intro R bs xs k
  simp only[hNew]
  split<;>rfl
 ·intro bs xs r h
  simp only[hNew] at h
  split at h
  ·exact⟨0,(new_raw _).trans h⟩
  ·cases h
def hFrom (f:FuncId):HFn:=⟨fun bs xs k=>match bs,xs with
 |[[.eptr cs]],[.ptr 0 0,.str s]=>k [[.eptr cs],[.ptr 0 0],[.str s]] (.clo f [.ptr 1 0,.ptr 2 0])
 |[[.nilptr]],[.ptr 0 0,.str s]=>k [[.nilptr],[.ptr 0 0],[.str s]] (.clo f [.ptr 1 0,.ptr 2 0])
 |[],[.nilptr,.str s]=>k [[.nilptr],[.str s]] (.clo f [.ptr 0 0,.ptr 1 0])
 |_,_=>none⟩
theorem hFrom_nat (f:FuncId):(hFrom f).nat:=by
 intro R bs xs k
 simp only[hFrom]
 split<;>rfl
theorem ok_from:HOK NGt Wt 89 (hFrom 114):=by
 refine hokX okE allH_nil (h:=h0) Tryz.func89 rfl (by decide) (hFrom_nat _) ?_
 intro bs xs r h
 simp only[hFrom] at h
 split at h
 ·exact⟨0,(from_raw1 _ _ _).trans h⟩
 ·exact⟨0,(from_raw0 _ _).trans h⟩
 ·exact⟨0,(from_rawN _ _).trans h⟩
 ·cases h
def hTPut (gu:List PV→Ky→PV→Option (Nat×List PV×Bool)):HFn:=⟨fun bs xs k=>match bs,xs with
 |[[.eptr cs]],[.ptr 0 0,.str s,.str v]=>(gu cs s (.str v)).bind fun r=>kidAt r.1 r.2.1 0 fun es=>bif decide (1<(r.1:Int)) then p_ab.F [.sl (some false) 1 r.1 r.2.1] fun y=>k [[y]] (.bool r.2.2) else k [[.eptr es]] (.bool r.2.2)
 |[[.nilptr]],[.ptr 0 0,.str s,.str v]=>p_lf.F [.sl (some false) 1 1 [.str s],.sl (some false) 1 1 [.str v]] fun y=>k [[y]] (.bool true)
 |[],[.nilptr,.str s,.str v]=>k [] (.bool false)
 |_,_=>none⟩
theorem kidAt_nat {n:Nat}{c:List PV}{i:Int}(f:List PV→Option R)(k:R→Option S):kidAt n c i (fun es=>(f es).bind k)=(kidAt n c i f).bind k:=by
 unfold kidAt
 rw[bif_bind,obind_assoc]
 simp only[obind_assoc]
theorem ok_tput:HOK NGt Wt 40 (hTPut gPuA):=by
 refine hokX (l:=lTp gPuA) (allOK_cons ok_putA (allOK_cons ok_ab (allOK_cons ok_lf allOK_nil))) allH_nil (h:=h0) Tryz.func40 rfl (by decide) ?_ ?_
 ·intro R bs xs k
  simp only[hTPut]
  split
  ·rw[obind_assoc]
   congr 1
   funext r
   rw[← kidAt_nat]
   congr 1
   funext es
   cases decide (1<(r.1:Int)) with
   |true =>
    simp only[cond_true]
    refine (ab_nat _ _).trans (Eq.trans ?_ (congrArg (fun o=>Option.bind o _) (ab_nat _ _)).symm)
    rw[obind_assoc]
    rfl
   |false=>rfl
  all_goals rfl
 ·intro bs xs r h
  simp only[hTPut] at h
  split at h
  ·exact⟨0,(tput_raw1 _ _ _ _ _).trans h⟩
  ·exact⟨0,(tput_raw0 _ _ _ _).trans h⟩
  ·exact⟨0,(tput_rawN _ _ _ _).trans h⟩
  ·cases h
theorem put_law {x:PV}{l:List (Ky×PV)}(h:RootIs x l)(hl:l.length≤40000)(s:Ky)(v:List UInt8) :
  ∃ x',RootIs x' (insK s (.str v) l)∧∀ {R:Type} (K:List (List PV)→PV→Option R),(hTPut gPuA).F [[x]] [.ptr 0 0,.str s,.str v] K=K [[x']] (.bool (!hasK s l)):=by
 rcases h with ⟨rfl,rfl⟩|⟨d,t,rfl,h1,h2,rfl,hv⟩
 ·refine⟨enc 0 (ofL0 [(s,.str v)]),.inr ⟨0,ofL0 [(s,.str v)],rfl,?_,?_,rfl,?_⟩,fun K=>rfl⟩
  ·exact⟨Nat.le_refl _,by show 1≤8;omega⟩
  ·exact List.pairwise_singleton _ _
  ·intro p hp;simp[insK] at hp;subst hp;rfl
 ·obtain⟨cs,e⟩:=enc_ptr d t
  have hd:=dep_lt (okD_root h1) (by omega) (by omega)
  have hdep:=depF_enc (okD_root h1) (by omega) hd
  have hgd:gdP d t=true:=by
   unfold gdP
   rw[(okB_iff 1 d t).2 (okD_root h1),(srtB_iff _).2 h2,decide_eq_true (by omega)]
   rfl
  have hgu:gPuA cs s (.str v)=some ((encs d (putD d t s (.str v)).1).1,(encs d (putD d t s (.str v)).1).2,(putD d t s (.str v)).2):=by
   unfold gPuA
   rw[← e,hdep]
   unfold gPu
   rw[← e,dec_enc hv,Option.bind_some,hgd,cond_true]
  obtain⟨r1,r2,r3,r4⟩:=put_spec (k:=s) (v:=.str v) h1 (by omega) h2
  have hins:Srt (insK s (.str v) (cD d t)):=h2.ins
  have hvi:∀ p∈insK s (.str v) (cD d t),vok p.2=true:=vok_ins rfl hv
  have hli:(insK s (.str v) (cD d t)).length≤40001:=by rw[ins_len h2];split<;>omega
  rcases r3 with r3|r3
  ·obtain⟨y,hy⟩:∃ y,(putD d t s (.str v)).1=[y]:=List.length_eq_one_iff.1 r3
   refine⟨enc d y,.inr ⟨d,y,rfl,?_,hins,?_,hvi⟩,fun {R} K=>?_⟩
   ·exact (r4 y (by rw[hy];exact List.mem_cons_self)).weaken (by omega)
   ·rw[← r1,hy,List.flatMap_singleton]
   ·rw[e]
    show ((gPuA cs s (.str v)).bind _)=_
    obtain⟨es,ee,q⟩:=kidAt_enc (R:=R) (ks:=[y]) (i:=0) (k:=y) rfl
    rw[hgu,hy,Option.bind_some,show (kidAt (encs d [y]).1 (encs d [y]).2 0:(List PV→Option R)→Option R)=kidAt [y].length ([y].map (enc d)) ((0:Nat):Int) from rfl,q,cond_f (show decide (1<(((encs d [y]).1:Nat):Int))=false from rfl),← ee,r2]
  ·have h4:=put_two h1 (by omega) h2 r3
   obtain⟨y,z,hyz⟩:∃ y z,(putD d t s (.str v)).1=[y,z]:=by
    match hh:(putD d t s (.str v)).1,r3 with
    |[y,z],_=>exact⟨y,z,rfl⟩
   rw[hyz] at h4 r1
   refine⟨enc (d+1) (ofL [y,z]),.inr ⟨d+1,ofL [y,z],rfl,?_,hins,r1,hvi⟩,fun {R} K=>?_⟩
   ·refine⟨⟨?_,?_⟩,h4⟩
    ·show min 2 (d+1+1)≤2;omega
    ·show 2≤8;omega
   ·rw[e]
    show ((gPuA cs s (.str v)).bind _)=_
    obtain⟨es,ee,q⟩:=kidAt_enc (R:=R) (ks:=[y,z]) (i:=0) (k:=y) rfl
    rw[hgu,hyz,Option.bind_some,show (kidAt (encs d [y,z]).1 (encs d [y,z]).2 0:(List PV→Option R)→Option R)=kidAt [y,z].length ([y,z].map (enc d)) ((0:Nat):Int) from rfl,q,cond_t (show decide (1<(((encs d [y,z]).1:Nat):Int))=true from rfl)]
    have:=ab_enc (R:=R) h4 (by show 2≤1000;omega) (by rw[r1];omega) fun w=>K [[w]] (.bool (putD d t s (.str v)).2)
    rw[r2] at this ⊢
    exact this
end
def yF {R:Type}(y:YFn)(bs:List (List PV))(o:Out)(xs:List PV)(k:List (List PV)→Out→Bool→Option R):Option R :=
 (y.F bs o xs (R:=List (List PV)×Out×Bool) fun b o v=>some (b,o,v)).bind fun r=>k r.1 r.2.1 r.2.2
def shpB:List (List PV)→Bool
 |[[.ptr 2 0],[.str _],[.nilptr]]=>true
 |[[.ptr 2 0],[.str _],[.eptr _]]=>true
 |_=>false
def walkY {R:Type}(y:YFn):List (Ky×PV)→List (List PV)→Out→(List (List PV)→Out→Bool→Option R)→Option R
 |[],bs,o,k=>k bs o true
 |p::r,bs,o,k=>yF y bs o [.str p.1,p.2] fun bs' o' b=>bif shpB bs' then (bif b then walkY y r bs' o' k else k bs' o' false) else none
def viaB {R:Type}(ob:Bool)(n nl:Nat)(bx:List (Option (List TV)))(o:Out)(xs:List PV)(call:List (List PV)→Out→List PV→(List (List PV)→Out→Bool→Option R)→Option R)(G:List (Option (List TV))→Out→Bool→Option R):Option R :=
 match lentBs bx (lentIds n nl),mapO (renP (posOf (lentIds n nl) 0) ob 4) xs with
 |some bs,some xs=>call bs o xs fun bs o b=>if bs.length=(lentIds n nl).length then
   match mapO (mapO (renP (fun j=>(lentIds n nl)[j]?) false 4)) bs,renP (fun j=>(lentIds n nl)[j]?) false 4 (.bool b) with
   |some bs,some _=>G (setBoxes (zipN (lentIds n nl) bs) bx) o b
   |_,_=>none
  else none
 |_,_=>none
def frF (n:Nat)(l:List (Nat×PV))(bx:List (Option (List TV)))(o:Out):St:=⟨(List.range n).map fun t=>((l.lookup t).getD .undef,0),bx,o⟩
def slAt {S:Type}(cs:List PV)(f:Nat)(k:Option Bool→Nat→List PV→Option S):Option S:=(cs.drop f).head?.bind fun x=>(x.asSl 1).bind fun p=>k p.1 p.2.1 p.2.2
def strsAt {S:Type}(n:Nat)(c:List PV)(i:Int)(k:Ky→Option S):Option S:=bif decide (0≤i)&&decide (i<(n:Int)) then ((c.drop (i.toNat * 1)).take 1).head?.bind fun v=>v.asStr.bind k else none
def valsAt {S:Type}(n:Nat)(c:List PV)(i:Int)(k:List UInt8→Option S):Option S:=bif decide (0≤i)&&decide (i<(n:Int)) then ((c.drop (i.toNat * 1)).take 1).head?.bind fun v=>v.asStr.bind k else none
def callW {R:Type}(g:List PV→Ky→Option (List (Ky×PV)))(cs:List PV)(s:Ky)(y:YFn)(bs:List (List PV))(o:Out)(k:List (List PV)→Out→Bool→Option R):Option R:=bif shpB bs then (g cs s).bind fun l=>walkY y l bs o k else none
def tWalk (g:List PV→Ky→Option (List (Ky×PV))):IFn:=⟨fun bs o xs y k=>match xs with|[.eptr cs,.str s,.yld]=>callW g cs s y bs o fun bs o b=>k bs o (.bool b)|_=>none⟩
noncomputable def lFo (gl:List PV→Option Bool)(gp:List PV→Ky→Option (Int×Bool))(gk:List PV→Ky→Option Int):List (FuncId×PFn):=[(99,tLeaf gl),(84,tPlace gp),(103,tKid gk)]
noncomputable def enFo (gl:List PV→Option Bool)(gp:List PV→Ky→Option (Int×Bool))(gk:List PV→Ky→Option Int)(gf gb:List PV→Ky→Option (List (Ky×PV))):Env:=enR (enA (lFo gl gp gk) [] [(115,tWalk gf),(999999,tWalk gb)] [] []) [125]
def hFo:Hints:=⟨[(4000000,⟨[(6,false)],[2097152]⟩)],[(2,⟨[(1,false),(2,false),(52,false),(53,false),(54,false)],[2097152]⟩),(0,⟨[(0,false),(2,false),(7,false)],[2097152]⟩)]⟩
section
variable {R:Type} (gl:List PV→Option Bool) (gp:List PV→Ky→Option (Int × Bool)) (gk:List PV→Ky→Option Int) (gf gb:List PV→Ky→Option (List (Ky × PV))) (nl:Nat) (y:YFn) (fu:Nat) (kr:St→Option R)
noncomputable def enY:Env:={ enFo gl gp gk gf gb with Y:=some (nl,y) }
noncomputable def foLoop0 (n:Nat)(st:St):Option R:=loopK (enY gl gp gk gf gb nl y) hFo fu kr Tryz.f115 (fun _=>none) [1,0,1,0,1,0,0] 0 n st
noncomputable def foLoop2 (n:Nat)(st:St):Option R:=loopK (enY gl gp gk gf gb nl y) hFo fu kr Tryz.f115 (fun _=>none) [1,1,0,1,0] 2 n st
def frFo0 (cs:List PV)(i:Int)(bx:List (Option (List TV)))(o:Out):St:=frF 64 [(0,.eptr cs),(2,.yld),(7,.int .i64 i)] bx o
def frFo2 (s:Ky)(nlk:Option Bool)(n:Nat)(c:List PV)(L i:Int)(bx:List (Option (List TV)))(o:Out):St:=frF 64 [(1,.str s),(2,.yld),(52,.sl nlk 1 n c),(53,.int .i64 L),(54,.int .i64 i)] bx o
def frFoR (b:Bool)(bx:List (Option (List TV)))(o:Out):St:=frF 64 [(6,.bool b)] bx o
def bxS (n:Nat)(q:Ky)(r:PV):List (Option (List TV)):=List.replicate n none++[some [(.ptr (n+2) 0,0)],some [(.str q,0)],some [(r,0)]]
noncomputable def foKr (kk:List (List PV)→Out→PV→Option R)(st:St):Option R:=pfinH (enFo gl gp gk gf gb) 3 Tryz.f115 st fun bs' o v=>if bs'.length=3 then kk bs' o v else none
noncomputable def foRun (kk:List (List PV)→Out→PV→Option R)(cs:List PV)(s q:Ky)(r:PV)(o:Out):Option R :=
 (gl cs).bind fun b=>bif b then (gp cs s).bind fun p=>foLoop0 gl gp gk gf gb 3 y fu (foKr gl gp gk gf gb kk) fu (frFo0 cs p.1 (bxS 64 q r) o)
  else slAt cs 2 fun nk n c=>(gk cs s).bind fun i=>bif decide (0≤i)&&decide (i≤(n:Int)) then foLoop2 gl gp gk gf gb 3 y fu (foKr gl gp gk gf gb kk) fu (frFo2 s nk (n-i.toNat) ((c.take (n * 1)).drop (i.toNat * 1)) ((n-i.toNat:Nat):Int) 0 (bxS 64 q r) o) else none
theorem fo_run0 (kk:List (List PV)→Out→PV→Option R)(cs:List PV)(s q:Ky)(o:Out) :
  prunI (enFo gl gp gk gf gb) hFo fu Tryz.f115 [[.ptr 2 0],[.str q],[.nilptr]] o [.eptr cs,.str s,.yld] y kk=foRun gl gp gk gf gb y fu kk cs s q .nilptr o:=prunIN_eq.trans (by kernel_rfl)
theorem fo_run1 (kk:List (List PV)→Out→PV→Option R)(cs:List PV)(s q:Ky)(r:List PV)(o:Out) :
  prunI (enFo gl gp gk gf gb) hFo fu Tryz.f115 [[.ptr 2 0],[.str q],[.eptr r]] o [.eptr cs,.str s,.yld] y kk=foRun gl gp gk gf gb y fu kk cs s q (.eptr r) o:=prunIN_eq.trans (by kernel_rfl)
theorem fo_kr0 (kk:List (List PV)→Out→PV→Option R)(b:Bool)(q:Ky)(o:Out):foKr gl gp gk gf gb kk (frFoR b (bxS 64 q .nilptr) o)=kk [[.ptr 2 0],[.str q],[.nilptr]] o (.bool b):=by kernel_rfl
theorem fo_kr1 (kk:List (List PV)→Out→PV→Option R)(b:Bool)(q:Ky)(r:List PV)(o:Out):foKr gl gp gk gf gb kk (frFoR b (bxS 64 q (.eptr r)) o)=kk [[.ptr 2 0],[.str q],[.eptr r]] o (.bool b):=by kernel_rfl
theorem fo_step0 (cs:List PV)(i:Int)(bx:List (Option (List TV)))(o:Out)(K:St→Option R) :
  stepK (enY gl gp gk gf gb nl y) hFo fu kr Tryz.f115 [1,0,1,0,1,0,0] (fun _=>none) (frFo0 cs i bx o) (fun st=>pnorm (hFo.loop.lookup 0) st K) =
   slAt cs 0 fun _ n c=>bif decide (i<(n:Int)) then slAt cs 0 fun _ n c=>strsAt n c i fun k=>slAt cs 1 fun _ m e=>valsAt m e i fun v =>
     viaB false 64 nl bx o [.str k,.str v] (fun bs o xs G=>y.F bs o xs G) fun bx o b=>bif !b then kr (frFoR false bx o) else K (frFo0 cs (IntKind.i64.wrap (i+1)) bx o)
    else kr (frFoR true bx o):=by kernel_rfl
theorem fo_step2 (s:Ky)(nlk:Option Bool)(n:Nat)(c:List PV)(L i:Int)(bx:List (Option (List TV)))(o:Out)(K:St→Option R) :
  stepK (enY gl gp gk gf gb nl y) hFo fu kr Tryz.f115 [1,1,0,1,0] (fun _=>none) (frFo2 s nlk n c L i bx o) (fun st=>pnorm (hFo.loop.lookup 2) st K) =
   bif decide (i<L) then kidAt n c i fun es=>viaB true 64 nl bx o [.eptr es,.str s,.yld] (fun bs o _ G=>callW gf es s y bs o G) fun bx o b=>bif !b then kr (frFoR false bx o) else K (frFo2 s nlk n c L (IntKind.i64.wrap (i+1)) bx o)
   else kr (frFoR true bx o):=by kernel_rfl
end
end Go.Proofs.YthjmjoioagocdaaGreatDoor.TS
set_option maxRecDepth 100000
namespace Go.Proofs.YthjmjoioagocdaaGreatDoor.TS
open Go.RowKit
theorem yF_nat {R S:Type}(y:YFn)(bs:List (List PV))(o:Out)(xs:List PV)(f:List (List PV)→Out→Bool→Option R)(k:R→Option S):yF y bs o xs (fun b o v=>(f b o v).bind k)=(yF y bs o xs f).bind k:=by
 unfold yF
 rw[obind_assoc]
theorem walkY_nat {R S:Type}(y:YFn):∀ (l:List (Ky×PV)) (bs:List (List PV)) (o:Out) (f:List (List PV)→Out→Bool→Option R) (k:R→Option S),walkY y l bs o (fun b o v=>(f b o v).bind k)=(walkY y l bs o f).bind k
 |[],bs,o,f,k=>rfl
 |p::l,bs,o,f,k=>by
  simp only[walkY]
  rw[← yF_nat]
  congr 1
  funext bs' o' b
  cases shpB bs' with
  |false=>rfl
  |true=>cases b with
   |false=>rfl
   |true=>exact walkY_nat y l bs' o' f k
theorem walkY_app {R:Type}(y:YFn):∀ (A B:List (Ky×PV)) (bs:List (List PV)) (o:Out) (k:List (List PV)→Out→Bool→Option R),walkY y (A++B) bs o k=walkY y A bs o fun bs o b=>bif b then walkY y B bs o k else k bs o false
 |[],B,bs,o,k=>rfl
 |p::A,B,bs,o,k=>by
  simp only[List.cons_append,walkY]
  congr 1
  funext bs' o' b
  cases shpB bs' with
  |false=>rfl
  |true=>cases b with
   |false=>rfl
   |true=>exact walkY_app y A B bs' o' k
theorem walkY_inv {R:Type}{y:YFn}{l:List (Ky×PV)}{bs:List (List PV)}{o:Out}{k:List (List PV)→Out→Bool→Option R}{r:R}(hs:shpB bs=true)(h:walkY y l bs o k=some r) :
  ∃ bs' o' b,shpB bs'=true∧(∀ (S:Type) (G:List (List PV)→Out→Bool→Option S),walkY y l bs o G=G bs' o' b)∧k bs' o' b=some r:=by
 have e:∀ (S:Type) (G:List (List PV)→Out→Bool→Option S),walkY y l bs o G=(walkY y l bs o (fun b o v=>some (b,o,v))).bind fun r=>G r.1 r.2.1 r.2.2:=fun S G=>walkY_nat y l bs o (fun b o v=>some (b,o,v)) (fun r=>G r.1 r.2.1 r.2.2)
 rw[e] at h
 obtain⟨⟨bs',o',b⟩,h1,h2⟩:=bind_some_inv h
 refine⟨bs',o',b,?_,fun S G=>by rw[e,h1];rfl,h2⟩
 clear h h2 e
 induction l generalizing bs o with
 |nil=>simp only[walkY] at h1;injection h1 with h1;injection h1 with h1;subst h1;exact hs
 |cons p l ih =>
  simp only[walkY] at h1
  unfold yF at h1
  obtain⟨⟨b1,o1,c1⟩,_,h1⟩:=bind_some_inv h1
  obtain⟨g1,h1⟩:=bif_inv h1
  cases c1 with
  |true=>exact ih g1 h1
  |false =>
   simp only[cond_false] at h1
   injection h1 with h1
   injection h1 with h1
   subst h1
   exact g1
theorem tWalk_nat (g:List PV→Ky→Option (List (Ky×PV))):(tWalk g).nat:=by
 intro R bs o xs y k
 simp only[tWalk]
 split
 ·unfold callW
  rw[bif_bind,obind_assoc]
  congr 2
  funext l
  exact walkY_nat y l bs o (fun bs o b=>some (bs,o,PV.bool b)) (fun r=>k r.1 r.2.1 r.2.2)
 ·rfl
def IsR (r:PV):Prop:=r=.nilptr∨∃ cs,r=.eptr cs
theorem shp_inv {bs:List (List PV)}(h:shpB bs=true):∃ q r,bs=[[.ptr 2 0],[.str q],[r]]∧IsR r:=by
 unfold shpB at h
 split at h
 ·exact⟨_,_,rfl,.inl rfl⟩
 ·exact⟨_,_,rfl,.inr ⟨_,rfl⟩⟩
 ·cases h
theorem shp_of {q:Ky}{r:PV}(h:IsR r):shpB [[.ptr 2 0],[.str q],[r]]=true:=by
 rcases h with rfl|⟨cs,rfl⟩<;>rfl
theorem lent_shp {n:Nat}(hn:n=64∨n=61∨n=20){q:Ky}{r:PV}(h:IsR r):lentBs (bxS n q r) (lentIds n 3)=some [[.ptr 2 0],[.str q],[r]]:=by
 rcases hn with rfl|rfl|rfl<;>rcases h with rfl|⟨cs,rfl⟩<;>rfl
theorem back_shp {n:Nat}(hn:n=64∨n=61∨n=20){q q':Ky}{r r':PV}(h:IsR r'):mapO (mapO (renP (fun j=>(lentIds n 3)[j]?) false 4)) [[.ptr 2 0],[.str q'],[r']]=some [[.ptr (n+2) 0],[.str q'],[r']]∧setBoxes (zipN (lentIds n 3) [[.ptr (n+2) 0],[.str q'],[r']]) (bxS n q r)=bxS n q' r':=by
 rcases hn with rfl|rfl|rfl<;>rcases h with rfl|⟨cs,rfl⟩<;>exact⟨rfl,rfl⟩
theorem via_ok {R:Type}{ob:Bool}{n:Nat}(hn:n=64∨n=61∨n=20){q:Ky}{r:PV}(hr:IsR r){o:Out}{xs xs':List PV}(hx:mapO (renP (posOf (lentIds n 3) 0) ob 4) xs=some xs')
  {call:List (List PV)→Out→List PV→(List (List PV)→Out→Bool→Option R)→Option R} {bs':List (List PV)} {o':Out} {b':Bool} (hs:shpB bs'=true) (hc:∀ G,call [[.ptr 2 0],[.str q],[r]] o xs' G=G bs' o' b'):∃ q' r',bs'=[[.ptr 2 0],[.str q'],[r']]∧IsR r'∧∀ (G:List (Option (List TV))→Out→Bool→Option R),viaB ob n 3 (bxS n q r) o xs call G=G (bxS n q' r') o' b':=by
 obtain⟨q',r',rfl,hr'⟩:=shp_inv hs
 refine⟨q',r',rfl,hr',fun G=>?_⟩
 obtain⟨h1,h2⟩:=back_shp (q:=q) (r:=r) (q':=q') hn hr'
 unfold viaB
 simp only[lent_shp hn hr,hx]
 rw[hc]
 have hl:(lentIds n 3).length=3:=by simp[lentIds]
 have hb:renP (fun j=>(lentIds n 3)[j]?) false 4 (.bool b')=some (.bool b'):=rfl
 simp only[h1,hb,h2,hl,List.length_cons,List.length_nil,if_true]
theorem fo_kr {R:Type}(gl:List PV→Option Bool)(gp:List PV→Ky→Option (Int×Bool))(gk:List PV→Ky→Option Int)(gf gb:List PV→Ky→Option (List (Ky×PV)))(kk:List (List PV)→Out→PV→Option R)(b:Bool)(q:Ky){r:PV}(hr:IsR r)(o:Out):foKr gl gp gk gf gb kk (frFoR b (bxS 64 q r) o)=kk [[.ptr 2 0],[.str q],[r]] o (.bool b):=by
 rcases hr with rfl|⟨cs,rfl⟩
 ·exact fo_kr0 gl gp gk gf gb kk b q o
 ·exact fo_kr1 gl gp gk gf gb kk b q cs o
theorem slAt0 {S:Type}{l:List (Ky×PV)}{cs:List PV}(h:enc 0 (ofL0 l)=.eptr cs)(k:Option Bool→Nat→List PV→Option S):slAt cs 0 k=k none l.length (l.map fun p=>.str p.1):=by
 rw[enc_zero] at h;injection h with h;subst h;rfl
theorem slAt1 {S:Type}{l:List (Ky×PV)}{cs:List PV}(h:enc 0 (ofL0 l)=.eptr cs)(k:Option Bool→Nat→List PV→Option S):slAt cs 1 k=k none l.length (l.map (·.2)):=by
 rw[enc_zero] at h;injection h with h;subst h;rfl
theorem slAt2 {S:Type}{d:Nat}{ks:List (TrD PV d)}{cs:List PV}(h:enc (d+1) (ofL ks)=.eptr cs)(k:Option Bool→Nat→List PV→Option S):slAt cs 2 k=k (some false) ks.length (ks.map (enc d)):=by
 rw[enc_succ] at h;injection h with h;subst h;rfl
theorem strsAt_eq {S:Type}{l:List (Ky×PV)}{i:Nat}{p:Ky×PV}(h:l[i]? = some p)(k:Ky→Option S):strsAt l.length (l.map fun p=>.str p.1) (i:Int) k=k p.1:=by
 have hi:=(List.getElem?_eq_some_iff.1 h).1
 unfold strsAt
 rw[cond_t (by rw[decide_eq_true (by omega),decide_eq_true (by omega)];rfl),Int.toNat_natCast,Nat.mul_one,List.head?_take,if_neg (by decide),List.head?_drop,List.getElem?_map,h]
 rfl
def valP:PV→List UInt8
 | .str n=>n
 |_=>default
theorem valP_eq {v:PV}(h:vok v=true):.str (valP v)=v:=by
 unfold vok at h
 split at h
 ·rfl
 ·cases h
theorem valsAt_eq {S:Type}{l:List (Ky×PV)}{i:Nat}{p:Ky×PV}(h:l[i]? = some p)(hv:vok p.2=true)(k:List UInt8→Option S):valsAt l.length (l.map (·.2)) (i:Int) k=k (valP p.2):=by
 have hi:=(List.getElem?_eq_some_iff.1 h).1
 have he:=valP_eq hv
 unfold valsAt
 rw[cond_t (by rw[decide_eq_true (by omega),decide_eq_true (by omega)];rfl),Int.toNat_natCast,Nat.mul_one,List.head?_take,if_neg (by decide),List.head?_drop,List.getElem?_map,h]
 simp only[Option.map_some,Option.bind_some]
 rw[← he]
 rfl
section
variable {R:Type} {gf gb:List PV→Ky→Option (List (Ky × PV))} {y:YFn} {kk:List (List PV)→Out→PV→Option R} {res:R}
theorem yF_inv (hy:y.nat){bs:List (List PV)}{o:Out}{xs:List PV}{k:List (List PV)→Out→Bool→Option R}(h:yF y bs o xs k=some res):∃ bs' o' b,(∀ (S:Type) (G:List (List PV)→Out→Bool→Option S),y.F bs o xs G=G bs' o' b)∧k bs' o' b=some res:=by
 unfold yF at h
 obtain⟨⟨bs',o',b⟩,h1,h2⟩:=bind_some_inv h
 exact⟨bs',o',b,fun S G=>by rw[hy S,h1];rfl,h2⟩
theorem fo_leaf (hy:y.nat){L:List (Ky×PV)}{cs:List PV}(hc:enc 0 (ofL0 L)=.eptr cs)(hv:∀ p∈L,vok p.2=true)(hl:L.length≤1000)(fu:Nat):∀ (k i n:Nat) (q:Ky) (r:PV) (o:Out),i+k=L.length→k<n→IsR r →
  walkY y (L.drop i) [[.ptr 2 0],[.str q],[r]] o (fun bs o b=>kk bs o (.bool b))=some res→foLoop0 gLf gPl gKd gf gb 3 y fu (foKr gLf gPl gKd gf gb kk) n (frFo0 cs (i:Int) (bxS 64 q r) o)=some res
 |k,i,0,q,r,o,hi,hn,hr,h=>by omega
 |0,i,n+1,q,r,o,hi,hn,hr,h=>by
  rw[List.drop_eq_nil_of_le (by omega)] at h
  unfold foLoop0
  rw[loopK_succ,fo_step0,slAt0 hc,cond_f (decide_eq_false (by omega)),fo_kr _ _ _ _ _ _ _ _ hr]
  exact h
 |k+1,i,n+1,q,r,o,hi,hn,hr,h=>by
  have hp:L[i]? = some L[i]:=List.getElem?_eq_getElem (by omega)
  rw[List.drop_eq_getElem_cons (by omega)] at h
  simp only[walkY] at h
  obtain⟨bs',o',b,h1,h2⟩:=yF_inv hy h
  obtain⟨hs,h2⟩:=bif_inv h2
  have hvp:=hv _ (List.getElem_mem (show i<L.length by omega))
  unfold foLoop0
  rw[loopK_succ,fo_step0,slAt0 hc,cond_t (decide_eq_true (by omega)),slAt0 hc,strsAt_eq hp,slAt1 hc,valsAt_eq hp hvp,valP_eq hvp]
  have hx:mapO (renP (posOf (lentIds 64 3) 0) false 4) [PV.str L[i].1,L[i].2]=some [PV.str L[i].1,L[i].2]:=by
   rw[← valP_eq hvp];rfl
  obtain⟨q',r',rfl,hr',e⟩:=via_ok (.inl rfl) hr hx (call:=fun bs o xs G=>y.F bs o xs G) hs (fun G=>h1 R G)
  rw[e]
  cases b with
  |false =>
   rw[cond_t (b:=!false) rfl,fo_kr _ _ _ _ _ _ _ _ hr']
   exact h2
  |true =>
   rw[cond_f (b:=!true) rfl,wrapI_of (by omega) (by omega)]
   exact fo_leaf hy hc hv hl fu k (i+1) n q' r' o' (by omega) (by omega) hr' h2
theorem fo_node {d:Nat}{KS:List (TrD PV d)}{s:Ky}{f:TrD PV d→List (Ky×PV)}(hf:∀ k∈KS,∀ es,enc d k=.eptr es→gf es s=some (f k))(hl:KS.length≤1000)(nk:Option Bool)(fu:Nat):∀ (k i n:Nat) (q:Ky) (r:PV) (o:Out),i+k=KS.length→k<n→IsR r →
  walkY y ((KS.drop i).flatMap f) [[.ptr 2 0],[.str q],[r]] o (fun bs o b=>kk bs o (.bool b))=some res→foLoop2 gLf gPl gKd gf gb 3 y fu (foKr gLf gPl gKd gf gb kk) n (frFo2 s nk KS.length (KS.map (enc d)) (KS.length:Int) (i:Int) (bxS 64 q r) o)=some res
 |k,i,0,q,r,o,hi,hn,hr,h=>by omega
 |0,i,n+1,q,r,o,hi,hn,hr,h=>by
  rw[List.drop_eq_nil_of_le (by omega)] at h
  unfold foLoop2
  rw[loopK_succ,fo_step2,cond_f (decide_eq_false (by omega)),fo_kr _ _ _ _ _ _ _ _ hr]
  exact h
 |k+1,i,n+1,q,r,o,hi,hn,hr,h=>by
  have hp:KS[i]? = some KS[i]:=List.getElem?_eq_getElem (by omega)
  rw[List.drop_eq_getElem_cons (by omega),List.flatMap_cons,walkY_app] at h
  obtain⟨bs',o',b,hs,h1,h2⟩:=walkY_inv (shp_of hr) h
  obtain⟨es,ee,qk⟩:=kidAt_enc (R:=R) hp
  have hg:=hf _ (List.getElem_mem (show i<KS.length by omega)) es ee
  have hx:mapO (renP (posOf (lentIds 64 3) 0) true 4) [PV.eptr es,.str s,.yld]=some [PV.eptr es,.str s,.yld]:=rfl
  obtain⟨q',r',rfl,hr',e⟩:=via_ok (.inl rfl) hr hx (call:=fun bs o _ G=>callW gf es s y bs o G) hs (fun G=>by
   show callW gf es s y _ o G=_
   unfold callW
   rw[shp_of hr,cond_true,hg,Option.bind_some,h1])
  unfold foLoop2
  rw[loopK_succ,fo_step2,cond_t (decide_eq_true (by omega)),qk,e]
  cases b with
  |false =>
   rw[cond_t (b:=!false) rfl,fo_kr _ _ _ _ _ _ _ _ hr']
   exact h2
  |true =>
   rw[cond_f (b:=!true) rfl,wrapI_of (by omega) (by omega)]
   exact fo_node hf hl nk fu k (i+1) n q' r' o' (by omega) (by omega) hr' h2
end
end Go.Proofs.YthjmjoioagocdaaGreatDoor.TS
set_option maxRecDepth 100000
namespace Go.Proofs.YthjmjoioagocdaaGreatDoor.TS
open Go.RowKit
theorem iok_none {NG:Nat}{W:World→Prop}{f:FuncId}{p:IFn}(hn:p.nat)(h:∀ bs o xs y r,p.F bs o xs y (R:=List (List PV)×Out×PV) (fun b o v=>some (b,o,v))≠some r):IOK NG W f p where
 nat:=hn
 call:=by
  intro X y bs o xs vs bs' o' r f0 _ _ _ _ _ _ _ _ _ _ _ hF
  exact absurd hF (h bs o xs y (bs',o',r))
theorem walk_none (f:FuncId):IOK NGt Wt f (tWalk fun _ _=>none):=iok_none (tWalk_nat _) (by
 intro bs o xs y r h
 simp only[tWalk] at h
 split at h
 ·unfold callW at h
  obtain⟨_,h⟩:=bif_inv h
  cases h
 ·cases h)
def gFo (d:Nat)(cs:List PV)(s:Ky):Option (List (Ky×PV)):=(dec d (.eptr cs)).bind fun t=>bif gdP d t then some (fromK s (cD d t)) else none
theorem okl_fo:AllOK NGt Wt (lFo gLf gPl gKd):=allOK_cons ok_leafT (allOK_cons ok_placeT (allOK_cons ok_kidT allOK_nil))
theorem ok_enFo {gf gb:List PV→Ky→Option (List (Ky×PV))}(hf:IOK NGt Wt 115 (tWalk gf))(hb:IOK NGt Wt 999999 (tWalk gb)):EnvOK (enFo gLf gPl gKd gf gb) NGt Wt :=
 env_okR (env_okA wokt okl_fo allH_nil (allI_cons hf (allI_cons hb allI_nil)) allN_nil allC_nil) _
theorem flatMap_congr' {α γ:Type}{f g:α→List γ}:∀ {l:List α},(∀ x∈l,f x=g x)→l.flatMap f=l.flatMap g
 |[],_=>rfl
 |x::l,h=>by rw[List.flatMap_cons,List.flatMap_cons,h x List.mem_cons_self,flatMap_congr' fun y hy=>h y (List.mem_cons_of_mem _ hy)]
theorem from_high {β:Type}{s:Ky}{l:List (Ky×β)}(h:High s l):fromK s l=l:=List.filter_eq_self.2 fun p hp=>by simp[kl_asym (h p hp)]
theorem from_kids {d:Nat}{ks:List (TrD PV d)}{s:Ky}(h4:∀ k∈ks,okD 4 d k)(h0:0<ks.length)(hs:Srt (ks.flatMap (cD d))):fromK s (ks.flatMap (cD d))=(ks.drop (kidN ks s)).flatMap fun k=>fromK s (cD d k):=by
 obtain⟨k,hk,hA,hB⟩:=kid_split (x:=s) h4 h0 hs
 have hi:=(List.getElem?_eq_some_iff.1 hk)
 rw[flat_split hk,from_mid _ hA hB,List.drop_eq_getElem_cons hi.1,hi.2,List.flatMap_cons]
 congr 1
 refine (flatMap_congr' fun x hx=>?_).symm
 exact from_high fun p hp=>hB p (List.mem_flatMap.2 ⟨x,hx,hp⟩)
theorem from_leaf {l:List (Ky×PV)}(h:Srt l)(s:Ky):fromK s l=l.drop (plN (l.map (·.1)) s):=by
 obtain⟨p1,p2,p3,_⟩:=leaf_split h s
 rcases hh:hasK s l with _|_
 ·conv=>lhs;rw[← List.take_append_drop (plN (l.map (·.1)) s) l,← List.append_nil (l.take _)]
  rw[from_mid [] p1 (p3 hh)]
  rfl
 ·obtain⟨v,q1,q2⟩:=p2 hh
  have hi:=List.getElem?_eq_some_iff.1 q1
  conv=>lhs;rw[take_get_drop q1]
  rw[from_mid _ p1 q2,List.drop_eq_getElem_cons hi.1,hi.2]
  simp[fromK,kl_irr]
section
variable {R:Type} {y:YFn} {kk:List (List PV)→Out→PV→Option R} {res:R}
theorem gdP_inv {d:Nat}{t:TrD PV d}(h:gdP d t=true):okD 1 d t∧Srt (cD d t)∧(cD d t).length≤50000:=by
 unfold gdP at h
 simp only[Bool.and_eq_true,decide_eq_true_eq] at h
 exact⟨(okB_iff 1 d t).1 h.1,(srtB_iff _).1 h.2.1,h.2.2⟩
theorem gdP_kid {d:Nat}{ks:List (TrD PV d)}(h:gdP (d+1) (ofL ks)=true){k:TrD PV d}(hk:k∈ks):gdP d k=true:=by
 obtain⟨h1,h2,h3⟩:=gdP_inv h
 have h4:=h1.2 k hk
 have h2:Srt (ks.flatMap (cD d)):=h2
 have h3:(ks.flatMap (cD d)).length≤50000:=h3
 obtain⟨i,hi,e⟩:=List.getElem_of_mem hk
 have hfl:=flat_split (d:=d) (List.getElem?_eq_getElem hi)
 rw[e] at hfl
 rw[hfl,List.append_assoc] at h2
 unfold gdP
 rw[(okB_iff 1 d k).2 (h4.weaken (by omega)),(srtB_iff _).2 h2.right.left,decide_eq_true (by have:=len_mem_flat hk;omega)]
 rfl
theorem fo_eq0 {gf gb:List PV→Ky→Option (List (Ky×PV))}(hy:y.nat)(l:List (Ky×PV))(hv:∀ p∈l,vok p.2=true)(hg:gdP 0 (ofL0 l)=true)(s q:Ky){r:PV}(hr:IsR r)(o:Out){cs:List PV}(hc:enc 0 (ofL0 l)=.eptr cs)
  (h:walkY y (fromK s l) [[.ptr 2 0],[.str q],[r]] o (fun bs o b=>kk bs o (.bool b))=some res):foRun gLf gPl gKd gf gb y 2000 kk cs s q r o=some res:=by
 obtain⟨h1,h2,h3⟩:=gdP_inv hg
 have h0:1≤l.length:=h1.1
 have h8:l.length≤8:=h1.2
 have h2:Srt l:=h2
 have hpl:=plN_le s (l.map (·.1))
 rw[List.length_map] at hpl
 rw[from_leaf h2] at h
 unfold foRun
 rw[gLf_enc hc,Option.bind_some,cond_t (b:=decide (0=0)) (decide_eq_true rfl),gPl_enc h2 (by omega) (by omega) s hc,Option.bind_some]
 exact fo_leaf hy hc hv (by omega) 2000 (l.length-plN (l.map (·.1)) s) _ 2000 q r o (by omega) (by omega) hr h
theorem fo_eqS {d:Nat}{gb:List PV→Ky→Option (List (Ky×PV))}(hy:y.nat)(ks:List (TrD PV d))(hv:∀ p∈cD (d+1) (ofL ks),vok p.2=true)(hg:gdP (d+1) (ofL ks)=true)(s q:Ky){r:PV}(hr:IsR r)(o:Out){cs:List PV}(hc:enc (d+1) (ofL ks)=.eptr cs)
  (h:walkY y (fromK s (ks.flatMap (cD d))) [[.ptr 2 0],[.str q],[r]] o (fun bs o b=>kk bs o (.bool b))=some res):foRun gLf gPl gKd (gFo d) gb y 2000 kk cs s q r o=some res:=by
 obtain⟨h1,h2,h3⟩:=gdP_inv hg
 have h4:∀ k∈ks,okD 4 d k:=h1.2
 have h0:1≤ks.length:=h1.1.1
 have h8:ks.length≤8:=h1.1.2
 have h2:Srt (ks.flatMap (cD d)):=h2
 obtain⟨k,hk,_,_⟩:=kid_split (x:=s) h4 (by omega) h2
 have hlt:=(List.getElem?_eq_some_iff.1 hk).1
 rw[from_kids h4 (by omega) h2] at h
 unfold foRun
 rw[gLf_enc hc,Option.bind_some,cond_f (b:=decide (d+1=0)) (decide_eq_false (by omega)),slAt2 hc,gKd_enc h4 h2 (by omega) (by omega) s hc,Option.bind_some,cond_t (by rw[decide_eq_true (by omega),decide_eq_true (by omega)];rfl),Int.toNat_natCast,Nat.mul_one,Nat.mul_one,List.take_of_length_le (by rw[List.length_map];exact Nat.le_refl _),← List.map_drop,← List.length_drop]
 refine fo_node (gf:=gFo d) (KS:=ks.drop (kidN ks s)) (f:=fun k=>fromK s (cD d k)) ?_ (by rw[List.length_drop];omega) (some false) 2000 (ks.drop (kidN ks s)).length 0 2000 q r o (by omega) (by rw[List.length_drop];omega) hr (by rw[List.drop_zero];exact h)
 intro x hx es ee
 have hm:=List.mem_of_mem_drop hx
 unfold gFo
 rw[← ee,dec_enc (vok_mem hv hm),Option.bind_some,gdP_kid hg hm,cond_true]
end
theorem ok_forth:∀ d,IOK NGt Wt 115 (tWalk (gFo d))
 |0 => by
  refine InOK.of_run (en:=enFo gLf gPl gKd (fun _ _=>none) (fun _ _=>none)) (en':=en []) (ok_enFo (walk_none _) (walk_none _)) rfl rfl Tryz.func115 rfl (by decide) (tWalk_nat _) (h:=hFo) ?_
  intro bs o xs y r hy h
  simp only[tWalk] at h
  split at h
  ·rename_i cs s
   unfold callW at h
   obtain⟨hs,h⟩:=bif_inv h
   obtain⟨l,hl,h⟩:=bind_some_inv h
   unfold gFo at hl
   obtain⟨t,ht,hl⟩:=bind_some_inv hl
   obtain⟨hg,hl⟩:=bif_inv hl
   injection hl with hl
   subst hl
   obtain⟨e,hv⟩:=dec_inv ht
   obtain⟨q,x,rfl,hr⟩:=shp_inv hs
   refine⟨2000,?_⟩
   have key:=fo_eq0 (gf:=fun _ _=>none) (gb:=fun _ _=>none) (kk:=fun b o v=>some (b,o,v)) hy t hv hg s q hr o e.symm h
   rcases hr with rfl|⟨rc,rfl⟩
   ·exact (fo_run0 ..).trans key
   ·exact (fo_run1 ..).trans key
  ·cases h
 |d+1=>by
  refine InOK.of_run (en:=enFo gLf gPl gKd (gFo d) (fun _ _=>none)) (en':=en []) (ok_enFo (ok_forth d) (walk_none _)) rfl rfl Tryz.func115 rfl (by decide) (tWalk_nat _) (h:=hFo) ?_
  intro bs o xs y r hy h
  simp only[tWalk] at h
  split at h
  ·rename_i cs s
   unfold callW at h
   obtain⟨hs,h⟩:=bif_inv h
   obtain⟨l,hl,h⟩:=bind_some_inv h
   unfold gFo at hl
   obtain⟨t,ht,hl⟩:=bind_some_inv hl
   obtain⟨hg,hl⟩:=bif_inv hl
   injection hl with hl
   subst hl
   obtain⟨e,hv⟩:=dec_inv ht
   obtain⟨q,x,rfl,hr⟩:=shp_inv hs
   refine⟨2000,?_⟩
   have key:=fo_eqS (gb:=fun _ _=>none) (kk:=fun b o v=>some (b,o,v)) hy t hv hg s q hr o e.symm h
   rcases hr with rfl|⟨rc,rfl⟩
   ·exact (fo_run0 ..).trans key
   ·exact (fo_run1 ..).trans key
  ·cases h
end Go.Proofs.YthjmjoioagocdaaGreatDoor.TS
set_option maxRecDepth 100000
namespace Go.Proofs.YthjmjoioagocdaaGreatDoor.TS
open Go.RowKit
noncomputable def enFr (gf gb:List PV→Ky→Option (List (Ky×PV))):Env:=enR (enA [] [] [(115,tWalk gf),(999999,tWalk gb)] [] []) [125]
section
variable {R:Type} (gf gb:List PV→Ky→Option (List (Ky × PV))) (y:YFn) (kk:List (List PV)→Out→PV→Option R)
noncomputable def frEnd (f:Func)(bx:List (Option (List TV)))(o:Out):Option R:=pfinH (enFr gf gb) 3 f (frF 20 [] bx o) fun bs' o v=>if bs'.length=3 then kk bs' o v else none
theorem from1_raw1 (cs:List PV)(q:Ky)(o:Out) :
  prunI (enFr gf gb) h0 0 Tryz.f114 [[.ptr 2 0],[.str q],[.eptr cs]] o [.yld,.ptr 0 0,.ptr 1 0] y kk =
   viaB true 20 3 (bxS 20 q (.eptr cs)) o [.eptr cs,.str q,.yld] (fun bs o _ G=>callW gf cs q y bs o G) fun bx o b=>frEnd gf gb kk Tryz.f114 bx o:=by kernel_rfl
theorem from1_raw0 (q:Ky)(o:Out) :
  prunI (enFr gf gb) h0 0 Tryz.f114 [[.ptr 2 0],[.str q],[.nilptr]] o [.yld,.ptr 0 0,.ptr 1 0] y kk=kk [[.ptr 2 0],[.str q],[.nilptr]] o (.tuple []):=by kernel_rfl
theorem from1_rawN (q:Ky)(o:Out) :
  prunI (enFr gf gb) h0 0 Tryz.f114 [[.nilptr],[.str q]] o [.yld,.ptr 0 0,.ptr 1 0] y kk=kk [[.nilptr],[.str q]] o (.tuple []):=by kernel_rfl
theorem frEnd_f0 (q:Ky)(o:Out):frEnd gf gb kk Tryz.f114 (bxS 20 q .nilptr) o=kk [[.ptr 2 0],[.str q],[.nilptr]] o (.tuple []):=by kernel_rfl
theorem frEnd_f1 (q:Ky)(cs:List PV)(o:Out):frEnd gf gb kk Tryz.f114 (bxS 20 q (.eptr cs)) o=kk [[.ptr 2 0],[.str q],[.eptr cs]] o (.tuple []):=by kernel_rfl
end
def iWalk (g:List PV→Ky→Option (List (Ky×PV))):IFn:=⟨fun bs o xs y k=>match bs,xs with
 |[[.ptr 2 0],[.str q],[.eptr cs]],[.yld,.ptr 0 0,.ptr 1 0]=>callW g cs q y [[.ptr 2 0],[.str q],[.eptr cs]] o fun bs o b=>k bs o (.tuple [])
 |[[.ptr 2 0],[.str q],[.nilptr]],[.yld,.ptr 0 0,.ptr 1 0]=>k [[.ptr 2 0],[.str q],[.nilptr]] o (.tuple [])
 |[[.nilptr],[.str q]],[.yld,.ptr 0 0,.ptr 1 0]=>k [[.nilptr],[.str q]] o (.tuple [])
 |_,_=>none⟩
theorem iWalk_nat (g:List PV→Ky→Option (List (Ky×PV))):(iWalk g).nat:=by
 intro R bs o xs y k
 simp only[iWalk]
 split
 ·unfold callW
  rw[bif_bind,obind_assoc]
  congr 2
  funext l
  exact walkY_nat y l _ o (fun bs o b=>some (bs,o,PV.tuple [])) (fun r=>k r.1 r.2.1 r.2.2)
 all_goals rfl
theorem callW_inv {R:Type}{g:List PV→Ky→Option (List (Ky×PV))}{cs:List PV}{s:Ky}{y:YFn}{bs:List (List PV)}{o:Out}{k:List (List PV)→Out→Bool→Option R}{r:R}(h:callW g cs s y bs o k=some r) :
  ∃ bs' o' b,shpB bs'=true∧(∀ (S:Type) (G:List (List PV)→Out→Bool→Option S),callW g cs s y bs o G=G bs' o' b)∧k bs' o' b=some r:=by
 unfold callW at h
 obtain⟨hs,h⟩:=bif_inv h
 obtain⟨l,hl,h⟩:=bind_some_inv h
 obtain⟨bs',o',b,h1,h2,h3⟩:=walkY_inv hs h
 exact⟨bs',o',b,h1,fun S G=>by unfold callW;rw[hs,cond_true,hl,Option.bind_some,h2],h3⟩
theorem ok_enFr {gf gb:List PV→Ky→Option (List (Ky×PV))}(hf:IOK NGt Wt 115 (tWalk gf))(hb:IOK NGt Wt 999999 (tWalk gb)):EnvOK (enFr gf gb) NGt Wt :=
 env_okR (env_okA wokt allOK_nil allH_nil (allI_cons hf (allI_cons hb allI_nil)) allN_nil allC_nil) _
theorem ok_from1 {gf gb:List PV→Ky→Option (List (Ky×PV))}(hf:IOK NGt Wt 115 (tWalk gf))(hb:IOK NGt Wt 999999 (tWalk gb)):IOK NGt Wt 114 (iWalk gf):=by
 refine InOK.of_run (en:=enFr gf gb) (en':=en []) (ok_enFr hf hb) rfl rfl Tryz.func114 rfl (by decide) (iWalk_nat _) (h:=h0) ?_
 intro bs o xs y r hy h
 simp only[iWalk] at h
 split at h
 ·rename_i q cs
  obtain⟨bs',o',b,h1,h2,h3⟩:=callW_inv h
  obtain⟨q',r',rfl,hr',e⟩:=via_ok (R:=List (List PV)×Out×PV) (.inr (.inr rfl)) (.inr ⟨cs,rfl⟩) (q:=q) (o:=o) (ob:=true) (xs:=[.eptr cs,.str q,.yld]) (xs':=[.eptr cs,.str q,.yld]) rfl (call:=fun bs o _ G=>callW gf cs q y bs o G) h1 (fun G=>h2 _ G)
  refine⟨0,(from1_raw1 gf gb y _ cs q o).trans ?_⟩
  rw[e]
  rcases hr' with rfl|⟨c',rfl⟩
  ·exact (frEnd_f0 ..).trans h3
  ·exact (frEnd_f1 ..).trans h3
 ·exact⟨0,(from1_raw0 gf gb y _ _ o).trans h⟩
 ·exact⟨0,(from1_rawN gf gb y _ _ o).trans h⟩
 ·cases h
def gFoA (cs:List PV)(s:Ky):Option (List (Ky×PV)):=gFo (depF 30 (.eptr cs)) cs s
theorem iok_fam {NG:Nat}{W:World→Prop}{f:FuncId}{q:Nat→IFn}{p:IFn}(hq:∀ d,IOK NG W f (q d))(hn:p.nat)(h:∀ bs o xs y r,p.F bs o xs y (R:=List (List PV)×Out×PV) (fun b o v=>some (b,o,v))=some r→∃ d,(q d).F bs o xs y (R:=List (List PV)×Out×PV) (fun b o v=>some (b,o,v))=some r):IOK NG W f p where
 nat:=hn
 call:=by
  intro X y bs o xs vs bs' o' r f0 a1 a2 a3 a4 a5 a6 a7 a8 a9 a10 a11 hF
  obtain⟨d,hd⟩:=h bs o xs y (bs',o',r) hF
  exact (hq d).call X y bs o xs vs bs' o' r f0 a1 a2 a3 a4 a5 a6 a7 a8 a9 a10 a11 hd
theorem ok_forthA:IOK NGt Wt 115 (tWalk gFoA):=iok_fam ok_forth (tWalk_nat _) (by
 intro bs o xs y r h
 simp only[tWalk] at h
 split at h
 ·rename_i cs s;exact⟨depF 30 (.eptr cs),h⟩
 ·cases h)
theorem okFrom1:IOK NGt Wt 114 (iWalk gFoA):=ok_from1 ok_forthA (walk_none _)
theorem gdP_root {d:Nat}{t:TrD PV d}(h1:okD (min 2 (d+1)) d t)(h2:Srt (cD d t))(hl:(cD d t).length≤50000):gdP d t=true:=by
 unfold gdP
 rw[(okB_iff 1 d t).2 (okD_root h1),(srtB_iff _).2 h2,decide_eq_true hl]
 rfl
theorem RootIs.isR {x:PV}{l:List (Ky×PV)}(h:RootIs x l):IsR x:=by
 rcases h with ⟨rfl,rfl⟩|⟨d,t,rfl,_⟩
 ·exact .inl rfl
 ·exact .inr (enc_ptr d t)
end Go.Proofs.YthjmjoioagocdaaGreatDoor.TS
end
section
set_option maxRecDepth 100000
namespace Go.Proofs.YthjmjoioagocdaaGreatDoor.TS
open Go.RowKit
def leafD {β:Type}:(d:Nat)→TrD β d→Ky→List (Ky×β)
 |0,l,_=>as0 l
 |d+1,ks,x=>match (asL ks)[kidN (asL ks) x]? with
  |some k=>leafD d k x
  |none=>[]
theorem leafD_succ {β:Type}{d:Nat}(t:TrD β (d+1)){x:Ky}{k:TrD β d}(h:(asL t)[kidN (asL t) x]? = some k):leafD (d+1) t x=leafD d k x:=by
 simp only[leafD]
 rw[h]
theorem leaf_ok {β:Type}:∀ {m d:Nat} {t:TrD β d} (x:Ky),okD m d t→0<m→Srt (cD d t)→1≤(leafD d t x).length∧(leafD d t x).length≤8∧Srt (leafD d t x)∧getK x (leafD d t x)=getK x (cD d t)∧hasK x (leafD d t x)=hasK x (cD d t)∧(∀ p∈leafD d t x,p∈cD d t)
 |m,0,l,x,h,hm,hs=>⟨Nat.le_trans hm h.1,h.2,hs,rfl,rfl,fun p hp=>hp⟩
 |m,d+1,ks,x,h,hm,hs=>by
  obtain⟨k,hk,hA,hB⟩:=kid_split (x:=x) h.2 (by have:=h.1.1;omega) hs
  have hkm:=List.mem_of_getElem? hk
  have hfl:=flat_split hk
  have hc:cD (d+1) ks=(asL ks).flatMap (cD d):=rfl
  have hsk:Srt (cD d k):=by
   rw[hc,hfl,List.append_assoc] at hs
   exact hs.right.left
  obtain⟨q1,q2,q3,q4,q5,q6⟩:=leaf_ok x (h.2 k hkm) (by omega) hsk
  rw[leafD_succ ks hk]
  refine⟨q1,q2,q3,?_,?_,fun p hp=>List.mem_flatMap.2 ⟨k,hkm,q6 p hp⟩⟩
  ·rw[q4,hc,hfl,get_mid _ hA hB]
  ·rw[q5,hc,hfl,has_mid _ hA hB]
def gFi (cs:List PV)(s:Ky):Option (List PV):=(dec (depF 30 (.eptr cs)) (.eptr cs)).bind fun t=>bif gdP (depF 30 (.eptr cs)) t then some (ptrC (enc 0 (ofL0 (leafD (depF 30 (.eptr cs)) t s)))) else none
section
variable {R:Type}
theorem okl_fi:AllOK NGt Wt (lFi gLf gKd):=allOK_cons ok_leafT (allOK_cons ok_kidT allOK_nil)
theorem fi_loop (fu:Nat)(kk:List (List PV)→PV→Option R)(s:Ky)(root:List PV):∀ (d n:Nat) (t:TrD PV d) (cs:List PV),enc d t=.eptr cs→d<n→okD 1 d t→Srt (cD d t) →
  fiLoop gLf gKd fu kk n (frFi s (.eptr cs) (.eptr root))=kk [[.eptr root]] (enc 0 (ofL0 (leafD d t s)))
 |d,0,t,cs,hc,hn,hok,hs=>by omega
 |0,n+1,t,cs,hc,hn,hok,hs=>by
  unfold fiLoop
  rw[loopK_succ,find_step,gLf_enc hc,Option.bind_some,cond_f (b:=!decide (0=0)) (by simp),← hc]
  rfl
 |d+1,n+1,t,cs,hc,hn,hok,hs=>by
  have h4:∀ k∈asL t,okD 4 d k:=hok.2
  have h0:1≤(asL t).length:=hok.1.1
  have h8:(asL t).length≤8:=hok.1.2
  have hs':Srt ((asL t).flatMap (cD d)):=hs
  obtain⟨k,hk,hA,hB⟩:=kid_split (x:=s) h4 (by omega) hs'
  have hkm:=List.mem_of_getElem? hk
  have hsk:Srt (cD d k):=by
   rw[flat_split hk,List.append_assoc] at hs'
   exact hs'.right.left
  obtain⟨es,ee,q⟩:=kidAt_enc (R:=R) hk
  unfold fiLoop
  rw[loopK_succ,find_step,gLf_enc hc,Option.bind_some,cond_t (b:=!decide (d+1=0)) (by simp),kidsOf_enc (ks:=asL t) hc,gKd_enc (ks:=asL t) h4 hs' (by omega) (by omega) s hc,Option.bind_some,q,leafD_succ t hk]
  exact fi_loop fu kk s root d n k es ee (by omega) ((h4 k hkm).weaken (by omega)) hsk
theorem hFind_nat (g:List PV→Ky→Option (List PV)):(hFind g).nat:=by
 intro R bs xs k
 simp only[hFind]
 split
 ·rw[obind_assoc];rfl
 all_goals rfl
theorem gdP_dep {d:Nat}{t:TrD PV d}(h:gdP d t=true):depF 30 (enc d t)=d:=by
 obtain⟨h1,_,h3⟩:=gdP_inv h
 exact depF_enc h1 (by omega) (dep_lt h1 (by omega) (by omega))
theorem ok_find:HOK NGt Wt 83 (hFind gFi):=by
 refine hokX okl_fi allH_nil (h:=hFi) Tryz.func83 rfl (by decide) (hFind_nat _) ?_
 intro bs xs r h
 simp only[hFind] at h
 split at h
 ·rename_i cs s
  obtain⟨es,he,h⟩:=bind_some_inv h
  unfold gFi at he
  obtain⟨t,ht,he⟩:=bind_some_inv he
  obtain⟨hg,he⟩:=bif_inv he
  injection he with he
  subst he
  obtain⟨e,hv⟩:=dec_inv ht
  obtain⟨h1,h2,h3⟩:=gdP_inv hg
  refine⟨100,(find_raw1 gLf gKd 100 cs s _).trans ?_⟩
  rw[fi_loop 100 _ s cs _ 100 t cs e.symm (by have:=dep_lt h1 (by omega) (by omega);omega) h1 h2,← h,ptrC_enc]
 ·exact⟨1,(find_raw0 gLf gKd 0 _ _).trans h⟩
 ·exact⟨0,(find_rawN gLf gKd 0 _ _).trans h⟩
 ·cases h
def gGe (cs:List PV)(s:Ky):Option (List UInt8×Bool):=(dec (depF 30 (.eptr cs)) (.eptr cs)).bind fun t=>bif gdP (depF 30 (.eptr cs)) t then some (valP ((getK s (cD (depF 30 (.eptr cs)) t)).getD (.str [])),hasK s (cD (depF 30 (.eptr cs)) t)) else none
theorem hGet_nat (g:List PV→Ky→Option (List UInt8×Bool)):(hGet g).nat:=by
 intro R bs xs k
 simp only[hGet]
 split
 ·rw[obind_assoc];rfl
 all_goals rfl
theorem get_leaf {l:List (Ky×PV)}(h:Srt l)(s:Ky):(hasK s l=true→∃ v,l[plN (l.map (·.1)) s]? = some (s,v)∧getK s l=some v)∧(hasK s l=false→getK s l=none):=by
 obtain⟨p1,p2,_,_⟩:=leaf_split h s
 constructor
 ·intro hh
  obtain⟨v,q1,q2⟩:=p2 hh
  refine⟨v,q1,?_⟩
  conv=>lhs;rw[take_get_drop q1]
  rw[get_mid _ p1 q2]
  simp[getK]
 ·intro hh
  unfold getK
  rw[find_none hh]
  rfl
theorem ok_get:HOK NGt Wt 57 (hGet gGe):=by
 refine hokX (l:=lGe gPl) (allOK_cons ok_placeT allOK_nil) (lh:=lGeH gFi) (allH_cons ok_find allH_nil) (h:=h0) Tryz.func57 rfl (by decide) (hGet_nat _) ?_
 intro bs xs r h
 simp only[hGet] at h
 split at h
 ·rename_i cs s
  obtain⟨p,hp,h⟩:=bind_some_inv h
  unfold gGe at hp
  obtain⟨t,ht,hp⟩:=bind_some_inv hp
  obtain⟨hg,hp⟩:=bif_inv hp
  injection hp with hp
  subst hp
  obtain⟨e,hv⟩:=dec_inv ht
  obtain⟨h1,h2,h3⟩:=gdP_inv hg
  obtain⟨q1,q2,q3,q4,q5,q6⟩:=leaf_ok s h1 (by omega) h2
  have hfi:gFi cs s=some (ptrC (enc 0 (ofL0 (leafD (depF 30 (.eptr cs)) t s)))):=by
   unfold gFi
   rw[ht,Option.bind_some,hg,cond_true]
  refine⟨0,(get_raw1 gPl gFi cs s _).trans ?_⟩
  obtain⟨es,ee⟩:=enc_ptr 0 (ofL0 (leafD (depF 30 (.eptr cs)) t s))
  have hes:ptrC (enc 0 (ofL0 (leafD (depF 30 (.eptr cs)) t s)))=es:=by rw[ee];rfl
  rw[hfi,Option.bind_some,hes,gPl_enc q3 (by omega) (by omega) s ee,Option.bind_some,← h,← q4,← q5]
  obtain⟨g1,g2⟩:=get_leaf q3 s
  rcases hh:hasK s (leafD (depF 30 (.eptr cs)) t s) with _|_
  ·rw[cond_false,g2 hh]
   rfl
  ·obtain⟨v,g3,g4⟩:=g1 hh
   have hlt:=(List.getElem?_eq_some_iff.1 g3).1
   have hvv:vok v=true:=hv (s,v) (q6 _ (List.mem_of_getElem? g3))
   rw[cond_true,g4,Option.getD_some]
   have hs1:(es.drop 1).head? = some (.sl none 1 (leafD (depF 30 (.eptr cs)) t s).length ((leafD (depF 30 (.eptr cs)) t s).map (·.2))):=by
    rw[enc_zero] at ee;injection ee with ee;subst ee;rfl
   rw[hs1,Option.bind_some]
   simp only[PV.asSl,if_true,Option.bind_some]
   rw[cond_t (by rw[decide_eq_true (by omega),decide_eq_true (by omega)];rfl),Int.toNat_natCast,Nat.mul_one,List.head?_take,if_neg (by decide),List.head?_drop,List.getElem?_map,g3,Option.map_some,Option.bind_some]
   rw[show v=.str (valP v) from (valP_eq hvv).symm]
   rfl
 ·exact⟨0,(get_raw0 gPl gFi _ _).trans h⟩
 ·exact⟨0,(get_rawN gPl gFi _ _).trans h⟩
 ·cases h
end
end Go.Proofs.YthjmjoioagocdaaGreatDoor.TS
end
