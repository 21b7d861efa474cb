/-
  Lemmas, part Y2: what the claim needs of the texts of wip/tpl.
-/
import Derived.Test.YthjmjoioagocdaaGreatDoorZpYA
set_option linter.unusedVariables false
set_option linter.unusedSimpArgs false
section
set_option maxRecDepth 100000
namespace Go.Proofs.YthjmjoioagocdaaGreatDoor
open Go.RowKit
theorem oneK_eq {R:Type}{b:List UInt8}(hb:b.length≤2000000){l:List Val}{w:Val}{t:List Val}(hl:l=w::t)(K:List UInt8→Option R):oneK b l.length (valsC l) K=K (b++enc w):=by
 unfold oneK
 refine (ixV_eq (vs:=l) (i:=0) (v:=w) (by rw[hl];rfl)).trans ?_
 refine (putO_eq (vs:=[w]) (by simp)).trans ?_
 have e:encs [w]=enc w:=by simp[encs]
 have:=enc_length w
 rw[pbytes_bC,Option.bind_some,e,catO_eq (by omega)]
theorem abvK_eq {R:Type}{s:List UInt8}(h:s.length≤1000000)(K:List UInt8→Option R):abvK s K=K (aboveL s):=by
 unfold abvK
 rw[cond_t (decide_eq_true (by omega)),abO_eq h,pbytes_bC,Option.bind_some]
theorem sn_hi {b:List UInt8}(hb:b.length≤600000)(r:Rng)(f t:List UInt8):snHi b r.hi.length (valsC r.hi) r.hout f t=outK f (match r.hi with|[]=>t|v::_=>if r.hout then b++enc v else aboveL (b++enc v)):=by
 unfold snHi
 rcases hh:r.hi with _|⟨w,q⟩
 ·rfl
 ·have:=enc_length w
  rw[cond_t (decide_eq_true (by simp)),oneK_eq (by omega) rfl,abvK_eq (by rw[List.length_append];omega)]
  cases r.hout<;>rfl
theorem sn_lo {b:List UInt8}(hb:b.length≤600000)(r:Rng)(f t:List UInt8):snLo b r.lo.length (valsC r.lo) r.lout r.hi.length (valsC r.hi) r.hout f t =
  snHi b r.hi.length (valsC r.hi) r.hout (match r.lo with|[]=>f|v::_=>if r.lout then maxK (maxK f (b++enc v)) (aboveL (b++enc v)) else maxK f (b++enc v)) t:=by
 unfold snLo
 rcases hh:r.lo with _|⟨w,q⟩
 ·rfl
 ·have:=enc_length w
  rw[cond_t (decide_eq_true (by simp)),oneK_eq (by omega) rfl]
  cases r.lout with
  |true=>rw[cond_true,abvK_eq (by rw[List.length_append];omega)];rfl
  |false=>rfl
def p_span23:PFn:=⟨fun xs k=>match xs with|[.int .i64 tb,.agg xc,.agg rc]=>(idxG xc).bind fun x=>rngO rc fun r=>k (.tuple [.str (spanS tb x r).1,.str (spanS tb x r).2])|_=>none,false⟩
theorem ok_span23:FOK NGk Tabs 18 p_span23:=by
 refine fok wokk ok_lSn (h:=⟨[],[]⟩) Tryz.func18 rfl (by decide) ?_ ?_
 ·intro R xs k
  simp only[p_span23]
  split
  ·rw[Option.bind_assoc]
   congr 1
   funext x
   exact rngO_nat _ (fun r=>some _) k
  ·rfl
 ·intro xs v h
  simp only[p_span23] at h
  split at h
  ·rename_i tb xc rc
   obtain⟨x,h1,ha⟩:=Option.bind_eq_some_iff.1 h
   clear h
   obtain rfl:=idxG_inv _ _ h1
   obtain⟨r,hr,hl,h⟩:=rngO_inv ha
   clear ha
   subst hr
   refine⟨0,((sn_raw tb x.id x.name x.nl x.cols.length (colC x.cols) x.u x.st r.ne r.eq.length (valsC r.eq) r.nlo r.lo.length (valsC r.lo) r.lout r.nhi r.hi.length (valsC r.hi) r.hout).trans ?_).trans h⟩
   unfold bdO
   refine (rngO_of (r:=r) hl _).trans ?_
   show (bif decide ((x.cols.length:Int)<((bndS r:Nat):Int)) then _ else _)=_
   unfold spanS fitS
   by_cases hf:bndS r≤x.cols.length
   ·rw[cond_f (decide_eq_false (by omega)),decide_eq_true hf,if_pos rfl]
    rw[spnO_eq (by omega)]
    have hb:(fromL tb x.id r.eq).length≤600000:=by
     have:=encs_length (numV tb::numV x.id::r.eq)
     unfold fromL
     simp only[List.length_cons] at this ⊢
     omega
    rw[wrapI_of (by omega) (by omega)]
    simp only
    by_cases h0:0<r.lo.length+r.hi.length
    ·rw[cond_t (decide_eq_true (by omega)),if_pos h0,catO_eq (by simp;omega),sn_lo hb,sn_hi hb]
     rfl
    ·rw[cond_f (decide_eq_false (by omega)),if_neg h0,sn_lo hb,sn_hi hb]
     rfl
   ·rw[cond_t (decide_eq_true (by omega)),decide_eq_false hf,if_neg (by simp)]
    rfl
  ·cases h
def eqV4 (a n b:Int)(s:List UInt8)(y:Val):Bool:=bif a==y.kind then (bif n==y.n then (bif b==y.scale then (bif s==y.s then true else false) else false) else false) else false
def p5O {R:Type}(a n b:Int)(s:List UInt8)(K:Val→Option R):Option R:=bif decide (s.length≤1000000)&&inI n then K (plain ⟨a,n,b,s⟩) else none
def spanO {R:Type}(tb:Int)(xc rc:List PV)(K:List UInt8→List UInt8→Option R):Option R:=(idxG xc).bind fun x=>rngO rc fun r=>K (spanS tb x r).1 (spanS tb x r).2
def rentO {R:Type}(t x0:Int)(n9:Nat)(c9:List PV)(r0:Int)(n1:Nat)(c1:List PV)(K:List UInt8→Option R):Option R:=(entK n9 c9 n1 c1).bind fun p=>bif celsSm p.2 then K (entL t x0 p.1 p.2 r0) else none
theorem eqV4_iff {v y:Val}:eqV4 v.kind v.n v.scale v.s y=true↔v=y:=by
 unfold eqV4
 obtain⟨a,n,b,s⟩:=v
 obtain⟨a',n',b',s'⟩:=y
 simp only[Val.mk.injEq]
 by_cases h1:a=a'
 ·by_cases h2:n=n'
  ·by_cases h3:b=b'
   ·by_cases h4:s=s'
    ·simp[h1,h2,h3,h4]
    ·simp[h1,h2,h3,h4]
   ·simp[h1,h2,h3]
  ·simp[h1,h2]
 ·simp[h1]
theorem pv_in64 {v:Val}(h:PVal v):v.in64:=h.2.1
theorem spanO_eq {R:Type}{tb:Int}{x:Idx}{r:Rng}(h:r.eq.length≤1000∧r.lo.length≤1000∧r.hi.length≤1000){K:List UInt8→List UInt8→Option R}:spanO tb (idxC x) (rngC r) K=K (spanS tb x r).1 (spanS tb x r).2:=by
 unfold spanO
 rw[idxG_of,Option.bind_some]
 exact rngO_of h _
theorem rentO_eq {R:Type}{t x0 r0:Int}{cols:List Int}{l:List Cel}(h1:cols.length≤90000)(h2:l.length≤1000000)(h3:celsSm l=true){K:List UInt8→Option R}:rentO t x0 cols.length (colC cols) r0 l.length (celsC l) K=K (entL t x0 cols l r0):=by
 unfold rentO entK
 rw[valsK_of (by omega) h2,Option.bind_some,if_pos h1,Option.bind_some]
 exact cond_t h3
theorem p5O_eq {R:Type}{v:Val}(h1:v.s.length≤1000000)(h2:v.in64){K:Val→Option R}:p5O v.kind v.n v.scale v.s K=K (plain v):=by
 unfold p5O
 exact cond_t (by rw[decide_eq_true h1,Bool.true_and];exact inI_iff.2 h2)
theorem k13_raw (t i:Int):prun (en [(51,p_numV),(60,p_RPut)]) ⟨[],[]⟩ 0 false Tryz.f31 [.int .i64 t,.int .i64 i] =
  catO [114] (encs [numV t,numV i]) (some (.str ([114]++encs [numV t,numV i]))):=by kernel_rfl
def p_K13:PFn:=⟨fun xs k=>match xs with|[.int .i64 t,.int .i64 i]=>bif decide ((encs [numV t,numV i]).length≤1000000) then k (.str (keyL t i)) else none|_=>none,false⟩
theorem ok_K13:FOK NGk Tabs 31 p_K13:=by
 refine fok wokk (allOK_cons ok_num13 (allOK_cons ok_RPut allOK_nil)) (h:=⟨[],[]⟩) Tryz.func31 rfl (by decide) ?_ ?_
 ·intro R xs k
  simp only[p_K13]
  split
  ·rename_i t i
   cases decide ((encs [numV t,numV i]).length≤1000000)<;>rfl
  ·rfl
 ·intro xs r h
  simp only[p_K13] at h
  split at h
  ·rename_i t i
   rcases hb:decide ((encs [numV t,numV i]).length≤1000000) with _|_<;>rw[hb] at h
   ·cases h
   ·have hs:(encs [numV t,numV i]).length≤1000000:=of_decide_eq_true hb
    exact⟨0,(k13_raw t i).trans ((catO_eq (by simp only[List.length_cons,List.length_nil];omega)).trans h)⟩
  ·cases h
end Go.Proofs.YthjmjoioagocdaaGreatDoor
end
section
set_option maxRecDepth 100000
namespace Go.Proofs.YthjmjoioagocdaaGreatDoor
open Go.RowKit
open TS (insK Srt Ky p_Kp ok_Kp prG prC prsC kpV putW putW_ins NGt Wt wokt prsC prC_len prG_of prG_inv)
noncomputable def lSt:List (FuncId×PFn):=[(32,p_RPt),(31,p_K13),(30,p_Kp),(20,p_REnt)]
theorem ok_lSt:AllOK NGt Wt lSt:=allOK_cons (ok_RPt ok_RT) (allOK_cons ok_K13 (allOK_cons ok_Kp (allOK_cons ok_REnt allOK_nil)))
noncomputable def fSt:Func:=Tryz.f9
def hSt:Hints:=⟨[],[(0,⟨[(2,false),(4,false),(7,false),(11,false),(12,false),(13,false)],[4]⟩)]⟩
def frSt (sp x0:Int)(x1:List UInt8)(nx:Option Bool)(lx:Nat)(cx:List PV)(x3:Bool)(x4:Int)(nl:Option Bool)(n:Nat)(c:List PV)(L i:Int)(l:List (Ky×Ky)):St :=
 frame 58 [(2,(.int .u8 sp,0)),(4,(.ptr 4 0,0)),(7,(.sl (some l.isEmpty) 2 l.length (prsC l),0)),(11,(.sl nl 2 n c,0)),(12,(.int .i64 L,0)),(13,(.int .i64 i,0))]
  [(4,[(.int .i64 x0,0),(.str x1,0),(.sl nx 1 lx cx,0),(.bool x3,0),(.int .i64 x4,0)])]
def frSt0 (sp x0:Int)(x1:List UInt8)(nx:Option Bool)(lx:Nat)(cx:List PV)(x3:Bool)(x4:Int)(nl:Option Bool)(n:Nat)(c:List PV)(L i:Int)(no:Option Bool)(lo:Nat)(co:List PV):St :=
 frame 58 [(2,(.int .u8 sp,0)),(4,(.ptr 4 0,0)),(7,(.sl no 2 lo co,0)),(11,(.sl nl 2 n c,0)),(12,(.int .i64 L,0)),(13,(.int .i64 i,0))]
  [(4,[(.int .i64 x0,0),(.str x1,0),(.sl nx 1 lx cx,0),(.bool x3,0),(.int .i64 x4,0)])]
noncomputable def stLoop (fu n:Nat)(st:St):Option PV:=loopF (en lSt) hSt fu false fSt [1,1,0,1,0] 0 n st
def ixW {R:Type}(n:Nat)(c:List PV)(i:Int)(K:Int→Option Bool→Nat→List PV→Option R):Option R :=
 bif decide (0≤i)&&decide (i<(n:Int)) then
  ((c.drop (i.toNat * 2)).take 2).head?.bind fun v=>(PV.asInt .i64 v).bind fun q=>((c.drop (i.toNat * 2)).take 2).tail.head?.bind fun v=>(PV.asSl 5 v).bind fun p=>K q p.1 p.2.1 p.2.2 else none
theorem ixW_eq {R:Type}{l:List Rw}{i:Nat}{x:Rw}{K:Int→Option Bool→Nat→List PV→Option R}(h:l[i]? = some x):ixW l.length (l.flatMap rwC) (i:Int) K=K x.1 x.2.1 x.2.2.length (celsC x.2.2):=by
 have:=(List.getElem?_eq_some_iff.1 h).1
 unfold ixW
 rw[cond_t (by rw[decide_eq_true (by omega),decide_eq_true (by omega)];rfl),Int.toNat_natCast,flat_at rwC_len h]
 rfl
def rptO {R:Type}(n:Nat)(c:List PV)(K:Ky→Option R):Option R:=(decG 5 celG n c).bind fun l=>bif decide (l.length≤1000000)&&l.all cGood then K (putB l) else none
def k13O {R:Type}(t i:Int)(K:Ky→Option R):Option R:=bif decide ((encs [numV t,numV i]).length≤1000000) then K (keyL t i) else none
def kpO {R:Type}(n:Nat)(c:List PV)(k v:Ky)(K:List (Ky×Ky)→Option R):Option R:=(decG 2 prG n c).bind fun l=>bif decide (l.length≤1000000) then K (putW k v false l) else none
def remO {R:Type}(i sp:Int)(K:Int→Option R):Option R:=bif IntKind.i64.wrap sp==0 then none else K (i.tmod (IntKind.i64.wrap sp))
section
variable {R:Type} (sp x0:Int) (lx:Nat) (cx:List PV) (q:Int) (m:Nat) (d:List PV) (i:Int) (G:List (Ky × Ky)→Option R)
def stD (lo:Nat)(co:List PV):Option R:=rentO 3 x0 lx cx q m d fun e=>kpO lo co e [] G
def stB (lo:Nat)(co:List PV)(v:Ky):Option R:=k13O 3 q fun k=>kpO lo co k v fun l=>stD x0 lx cx q m d G l.length (prsC l)
def stA (lo:Nat)(co:List PV)(v:Ky):Option R:=bif !(sp==0) then remO i sp fun z=>bif z != 1 then stB x0 lx cx q m d G lo co v else stD x0 lx cx q m d G lo co else stB x0 lx cx q m d G lo co v
def stR (lo:Nat)(co:List PV)(v:Ky):Option R:=bif decide (0<sp) then remO i sp fun z=>bif z==2 then catO v [63] (stA sp x0 lx cx q m d i G lo co (v++[63])) else stA sp x0 lx cx q m d i G lo co v else stA sp x0 lx cx q m d i G lo co v
end
def stEnd (lo:Nat)(co:List PV):Option PV:=k13O 4 1 fun k=>kpO lo co k [111,116,104,101,114] fun l=>kpO l.length (prsC l) [115] [115,99,104,101,109,97] fun l=>some (kpV l)
theorem st_raw (fu:Nat)(sp x0:Int)(x1:List UInt8)(nx:Option Bool)(lx:Nat)(cx:List PV)(x3:Bool)(x4:Int)(nl:Option Bool)(n:Nat)(c:List PV) :
  prun (en lSt) hSt fu false fSt [.sl nl 2 n c,.agg [.int .i64 x0,.str x1,.sl nx 1 lx cx,.bool x3,.int .i64 x4],.int .u8 sp]=stLoop fu fu (frSt sp x0 x1 nx lx cx x3 x4 nl n c (n:Int) 0 []):=prunN_eq.trans (by kernel_rfl)
theorem st_step (fu:Nat)(sp x0:Int)(x1:List UInt8)(nx:Option Bool)(lx:Nat)(cx:List PV)(x3:Bool)(x4:Int)(nl:Option Bool)(n:Nat)(c:List PV)(L i:Int)(no:Option Bool)(lo:Nat)(co:List PV)(K:St→Option PV) :
  stepF (en lSt) hSt fu false fSt [1,1,0,1,0] (frSt0 sp x0 x1 nx lx cx x3 x4 nl n c L i no lo co) (fun st=>pnorm (hSt.loop.lookup 0) st K) =
  bif decide (i<L) then ixW n c i fun q fl m d=>rptO m d fun v=>stR sp x0 lx cx q m d i (fun l=>K (frSt sp x0 x1 nx lx cx x3 x4 nl n c L (IntKind.i64.wrap (i+1)) l)) lo co v
  else stEnd lo co:=by kernel_rfl
def stV (sp i:Int)(r:Rw):Ky:=if 0<sp∧i.tmod sp=2 then putB r.2.2++[63] else putB r.2.2
def stPut (sp i:Int)(r:Rw)(v:Ky)(l:List (Ky×Ky)):List (Ky×Ky):=if sp=0∨i.tmod sp≠1 then insK (keyL 3 r.1) v l else l
def stOne (sp i:Int)(x:Idx)(r:Rw)(l:List (Ky×Ky)):List (Ky×Ky):=insK (entL 3 x.id x.cols r.2.2 r.1) [] (stPut sp i r (stV sp i r) l)
def stAll (sp:Int)(x:Idx):Nat→List Rw→List (Ky×Ky)→List (Ky×Ky)
 |_,[],l=>l
 |i,r::rs,l=>stAll sp x (i+1) rs (stOne sp i x r l)
def stFin (l:List (Ky×Ky)):List (Ky×Ky):=insK [115] [115,99,104,101,109,97] (insK (keyL 4 1) [111,116,104,101,114] l)
def storeS (sp:Int)(x:Idx)(rs:List Rw):List (Ky×Ky):=stFin (stAll sp x 0 rs [])
theorem insK_lenG {β:Type}{k:Ky}{v:β}:∀ (l:List (Ky×β)),(insK k v l).length≤l.length+1
 |[]=>Nat.le_refl _
 |p::r=>by
  rw[insK]
  split
  ·exact Nat.le_succ _
  ·split
   ·exact Nat.le_refl _
   ·have:=insK_lenG (k:=k) (v:=v) r
    rw[List.length_cons,List.length_cons]
    omega
theorem encs_len:∀ l:List Val,(encs l).length≤500 * l.length
 |[]=>Nat.le_refl _
 |v::l=>by
  have h1:=enc_length v
  have h2:=encs_len l
  show (enc v++encs l).length≤_
  rw[List.length_append,List.length_cons]
  omega
theorem k13O_eq {R:Type}{t i:Int}{K:Ky→Option R}:k13O t i K=K (keyL t i):=by
 unfold k13O
 have:=encs_len [numV t,numV i]
 exact cond_t (decide_eq_true (by simp only[List.length_cons,List.length_nil] at this;omega))
theorem kpO_eq {R:Type}{l:List (Ky×Ky)}(h:l.length≤1000000)(hs:Srt l){k v:Ky}{K:List (Ky×Ky)→Option R}:kpO l.length (prsC l) k v K=K (insK k v l):=by
 unfold kpO prsC
 rw[decG_of prC_len prG_of,Option.bind_some,cond_t (decide_eq_true h),putW_ins hs]
theorem rptO_eq {R:Type}{l:List Cel}(h:l.length≤1000000)(hg:l.all cGood=true){K:Ky→Option R}:rptO l.length (celsC l) K=K (putB l):=by
 unfold rptO celsC
 rw[decG_of celC_len celG_of,Option.bind_some,cond_t (by rw[decide_eq_true h,hg];rfl)]
theorem remO_eq {R:Type}{i sp:Int}(h:0<sp∧sp≤255){K:Int→Option R}:remO i sp K=K (i.tmod sp):=by
 unfold remO
 rw[wrapI_of (by omega) (by omega),cond_f (beq_eq_false_iff_ne.2 (by omega))]
section
variable {R:Type} {sp:Int} {x:Idx} {r:Rw} {G:List (Ky × Ky)→Option R} {l:List (Ky × Ky)}
def rwGd (r:Rw):Bool:=(decide (r.2.2.length≤20)&&r.2.2.all celSm)&&r.2.2.all cGood
theorem rwGd_sm (h:rwGd r=true):r.2.2.length≤20∧celsSm r.2.2=true∧r.2.2.all cGood=true:=by
 unfold rwGd at h
 simp only[Bool.and_eq_true,decide_eq_true_eq] at h
 refine⟨h.1.1,?_,h.2⟩
 unfold celsSm
 rw[List.all_eq_true]
 intro c hc
 have:=of_decide_eq_true (List.all_eq_true.1 h.1.2 c hc)
 exact decide_eq_true (by omega)
theorem stD_eq (hx:x.cols.length≤6)(hr:rwGd r=true)(hl:l.length≤900000)(hs:Srt l):stD x.id x.cols.length (colC x.cols) r.1 r.2.2.length (celsC r.2.2) G l.length (prsC l)=G (insK (entL 3 x.id x.cols r.2.2 r.1) [] l):=by
 obtain⟨h1,h2,h3⟩:=rwGd_sm hr
 unfold stD
 rw[rentO_eq (by omega) (by omega) h2,kpO_eq (by omega) hs]
theorem stB_eq (hx:x.cols.length≤6)(hr:rwGd r=true)(hl:l.length≤800000)(hs:Srt l){v:Ky}:stB x.id x.cols.length (colC x.cols) r.1 r.2.2.length (celsC r.2.2) G l.length (prsC l) v=G (insK (entL 3 x.id x.cols r.2.2 r.1) [] (insK (keyL 3 r.1) v l)):=by
 unfold stB
 have:=insK_lenG (k:=keyL 3 r.1) (v:=v) l
 rw[k13O_eq,kpO_eq (by omega) hs,stD_eq hx hr (by omega) hs.ins]
theorem stA_eq (hsp:0≤sp∧sp≤255)(i:Nat)(hx:x.cols.length≤6)(hr:rwGd r=true)(hl:l.length≤800000)(hs:Srt l){v:Ky}:stA sp x.id x.cols.length (colC x.cols) r.1 r.2.2.length (celsC r.2.2) (i:Int) G l.length (prsC l) v=G (insK (entL 3 x.id x.cols r.2.2 r.1) [] (stPut sp i r v l)):=by
 unfold stA stPut
 by_cases h0:sp=0
 ·rw[cond_f (by rw[h0];rfl),stB_eq hx hr hl hs,if_pos (.inl h0)]
 ·rw[cond_t (by rw[beq_eq_false_iff_ne.2 h0];rfl),remO_eq (by omega)]
  by_cases h1:(i:Int).tmod sp=1
  ·rw[cond_f (by rw[h1];rfl),stD_eq hx hr (by omega) hs,if_neg (fun q=>q.elim h0 (fun e=>e h1))]
  ·rw[cond_t (bne_iff_ne.2 h1),stB_eq hx hr hl hs,if_pos (.inr h1)]
theorem celB_len2 {c:Cel}(h:celSm c=true)(hg:cGood c=true):(celB c).length≤300:=by
 have h0:c.2.s.length≤250:=of_decide_eq_true h
 have h1:=numB_len c.1
 have h2:=numB_len c.2.kind
 have h3:=numB_len c.2.n
 have h4:=numB_len c.2.scale
 have h5:=numB_len c.2.s.length
 unfold celB vlB txB
 rw[List.length_append,List.length_append]
 split
 ·omega
 ·split
  ·rw[List.length_append];omega
  ·rw[List.length_append];omega
theorem putB_len2 {l:List Cel}(hl:l.length≤20)(h:l.all celSm=true)(hg:l.all cGood=true):(putB l).length≤6009:=by
 have h1:=numB_len l.length
 have:∀ l:List Cel,l.all celSm=true→l.all cGood=true→(putC l).length≤300 * l.length:=by
  intro l
  induction l with
  |nil=>intro _ _;exact Nat.le_refl _
  |cons c l ih =>
   intro a b
   rw[List.all_cons,Bool.and_eq_true] at a b
   have e1:=ih a.2 b.2
   have e2:=celB_len2 a.1 b.1
   show (celB c++putC l).length≤_
   rw[List.length_append,List.length_cons]
   omega
 have:=this l h hg
 unfold putB
 rw[List.length_append]
 omega
theorem stR_eq (hsp:0≤sp∧sp≤255)(i:Nat)(hx:x.cols.length≤6)(hr:rwGd r=true)(hl:l.length≤800000)(hs:Srt l):stR sp x.id x.cols.length (colC x.cols) r.1 r.2.2.length (celsC r.2.2) (i:Int) G l.length (prsC l) (putB r.2.2)=G (stOne sp i x r l):=by
 have hb:(putB r.2.2).length≤6009:=by
  unfold rwGd at hr
  simp only[Bool.and_eq_true,decide_eq_true_eq] at hr
  exact putB_len2 hr.1.1 hr.1.2 hr.2
 unfold stR stOne stV
 by_cases h0:0<sp
 ·rw[cond_t (decide_eq_true h0),remO_eq (by omega)]
  by_cases h1:(i:Int).tmod sp=2
  ·rw[cond_t (by rw[h1];rfl),catO_eq (by simp only[List.length_cons,List.length_nil];omega),stA_eq hsp i hx hr hl hs,if_pos ⟨h0,h1⟩]
  ·rw[cond_f (beq_eq_false_iff_ne.2 h1),stA_eq hsp i hx hr hl hs,if_neg (fun q=>h1 q.2)]
 ·rw[cond_f (decide_eq_false h0),stA_eq hsp i hx hr hl hs,if_neg (fun q=>h0 q.1)]
end
theorem stPut_srt {sp i:Int}{r:Rw}{v:Ky}{l:List (Ky×Ky)}(hs:Srt l):Srt (stPut sp i r v l):=by
 unfold stPut
 split
 ·exact hs.ins
 ·exact hs
theorem stOne_srt {sp i:Int}{x:Idx}{r:Rw}{l:List (Ky×Ky)}(hs:Srt l):Srt (stOne sp i x r l):=(stPut_srt hs).ins
theorem stOne_len {sp i:Int}{x:Idx}{r:Rw}{l:List (Ky×Ky)}:(stOne sp i x r l).length≤l.length+2:=by
 have h1:=insK_lenG (k:=entL 3 x.id x.cols r.2.2 r.1) (v:=([]:Ky)) (stPut sp i r (stV sp i r) l)
 have h2:=insK_lenG (k:=keyL 3 r.1) (v:=stV sp i r) l
 unfold stOne
 refine Nat.le_trans h1 ?_
 unfold stPut
 split<;>omega
theorem stAll_srt {sp:Int}{x:Idx}:∀ {rs:List Rw} {i:Nat} {l:List (Ky×Ky)},Srt l→Srt (stAll sp x i rs l)
 |[],_,_,h=>h
 |r::rs,i,l,h=>stAll_srt (rs:=rs) (stOne_srt h)
theorem stAll_len {sp:Int}{x:Idx}:∀ {rs:List Rw} {i:Nat} {l:List (Ky×Ky)},(stAll sp x i rs l).length≤l.length+2 * rs.length
 |[],_,_=>Nat.le_add_right _ _
 |r::rs,i,l=>by
  have h1:=stAll_len (sp:=sp) (x:=x) (rs:=rs) (i:=i+1) (l:=stOne sp i x r l)
  have h2:=stOne_len (sp:=sp) (i:=i) (x:=x) (r:=r) (l:=l)
  rw[stAll,List.length_cons]
  omega
theorem stEnd_eq {l:List (Ky×Ky)}(hl:l.length≤800000)(hs:Srt l):stEnd l.length (prsC l)=some (kpV (stFin l)):=by
 unfold stEnd
 have:=insK_lenG (k:=keyL 4 1) (v:=([111,116,104,101,114]:Ky)) l
 rw[k13O_eq,kpO_eq (by omega) hs,kpO_eq (by omega) hs.ins]
 rfl
theorem st_loop (fu:Nat){sp:Int}(hsp:0≤sp∧sp≤255){x:Idx}(hx:x.cols.length≤6)(nl:Option Bool)(rs:List Rw)(hn:rs.length≤60)(hr:rs.all rwGd=true):∀ (k i n:Nat) (l:List (Ky×Ky)),i+k=rs.length→k<n→l.length≤2 * i→Srt l →
  stLoop fu n (frSt sp x.id x.name x.nl x.cols.length (colC x.cols) x.u x.st nl rs.length (rs.flatMap rwC) (rs.length:Int) (i:Int) l)=some (kpV (stFin (stAll sp x i (rs.drop i) l)))
 |k,i,0,l,_,h,_,_=>by omega
 |0,i,n+1,l,hi,hn1,hl,hs=>by
  unfold stLoop
  rw[loopF_succ]
  refine (st_step fu sp x.id x.name x.nl x.cols.length (colC x.cols) x.u x.st nl rs.length (rs.flatMap rwC) (rs.length:Int) (i:Int) (some l.isEmpty) l.length (prsC l) _).trans ?_
  rw[cond_f (decide_eq_false (by omega)),List.drop_of_length_le (by omega)]
  exact stEnd_eq (by omega) hs
 |k+1,i,n+1,l,hi,hn1,hl,hs=>by
  have hc:=List.getElem?_eq_getElem (l:=rs) (i:=i) (by omega)
  have hg:rwGd rs[i]=true:=List.all_eq_true.1 hr _ (List.getElem_mem _)
  rw[List.drop_eq_getElem_cons (show i<rs.length by omega)]
  generalize rs[i]=r at hc hg
  have h2:=stOne_len (sp:=sp) (i:=i) (x:=x) (r:=r) (l:=l)
  have ih:=st_loop fu hsp hx nl rs hn hr k (i+1) n (stOne sp i x r l) (by omega) (by omega) (by omega) (stOne_srt hs)
  unfold stLoop at ih ⊢
  rw[loopF_succ]
  refine (st_step fu sp x.id x.name x.nl x.cols.length (colC x.cols) x.u x.st nl rs.length (rs.flatMap rwC) (rs.length:Int) (i:Int) (some l.isEmpty) l.length (prsC l) _).trans ?_
  obtain⟨g1,g2,g3⟩:=rwGd_sm hg
  rw[cond_t (decide_eq_true (by omega)),ixW_eq hc,rptO_eq (by omega) g3,stR_eq hsp i hx hg (by omega) hs,wrapI_of (by omega) (by omega)]
  exact ih
def p_St:PFn:=⟨fun xs k=>match xs with
 |[.sl _ 2 n c,.agg xc,.int .u8 sp]=>(decG 2 rwG n c).bind fun rs=>(idxG xc).bind fun x=>bif ((decide (0≤sp)&&decide (sp≤255))&&decide (x.cols.length≤6))&&(decide (rs.length≤60)&&rs.all rwGd) then k (kpV (storeS sp x rs)) else none
 |_=>none,false⟩
theorem ok_St:FOK NGt Wt 9 p_St:=by
 refine fok wokt ok_lSt (h:=hSt) Tryz.func9 rfl (by decide) ?_ ?_
 ·intro R xs k
  simp only[p_St]
  split
  ·rename_i nl n c xc sp
   rw[Option.bind_assoc]
   congr 1
   funext rs
   rw[Option.bind_assoc]
   congr 1
   funext x
   cases ((decide (0≤sp)&&decide (sp≤255))&&decide (x.cols.length≤6))&&(decide (rs.length≤60)&&rs.all rwGd)<;>rfl
  ·rfl
 ·intro xs r h
  simp only[p_St] at h
  split at h
  ·rename_i nl n c xc sp
   obtain⟨rs,h1,h2⟩:=Option.bind_eq_some_iff.1 h
   obtain⟨x,h3,h4⟩:=Option.bind_eq_some_iff.1 h2
   obtain⟨hg,h5⟩:=bif_inv h4
   clear h h2 h4
   injection h5 with h5
   subst h5
   obtain⟨rfl,rfl⟩:=decG_inv rwG_inv h1
   obtain rfl:=idxG_inv _ _ h3
   simp only[Bool.and_eq_true,decide_eq_true_eq] at hg
   obtain⟨⟨hsp,hx⟩,hn,hr⟩:=hg
   refine⟨rs.length+1,(st_raw _ sp x.id x.name x.nl x.cols.length (colC x.cols) x.u x.st nl _ _).trans ?_⟩
   exact st_loop _ hsp hx nl rs hn hr rs.length 0 (rs.length+1) [] (by omega) (by omega) (by simp) List.Pairwise.nil
  ·cases h
end Go.Proofs.YthjmjoioagocdaaGreatDoor
end
section
set_option maxRecDepth 100000
namespace Go.Proofs.YthjmjoioagocdaaGreatDoor.TS
open Go.RowKit
theorem ld_loop2 (l:List (Ky×Ky))(hl:l.length≤20000):∀ (m i:Nat) (x:PV) (o:List (Ky×PV)),i+m=l.length→RootIs x o→o.length≤i →
  ∃ x',RootIs x' (insAll (l.drop i) o)∧∀ (R:Type) (fu:Nat) (kk:List (List PV)→PV→Option R) (nl:Option Bool) (n:Nat),m<n→ldLoop fu kk n (frLd x nl l.length (prsC l) (l.length:Int) (i:Int))=kk [[x']] (.ptr 0 0)
 |0,i,x,o,hi,hx,ho=>by
  refine⟨x,by rw[List.drop_of_length_le (by omega)];exact hx,fun R fu kk nl n hn=>?_⟩
  obtain⟨n,rfl⟩:∃ k,n=k+1:=⟨n-1,by omega⟩
  unfold ldLoop
  rw[loopK_succ,ld_step fu kk hx.isR,cond_f (decide_eq_false (by omega))]
 |m+1,i,x,o,hi,hx,ho=>by
  have hc:=List.getElem?_eq_getElem (l:=l) (i:=i) (by omega)
  rw[List.drop_eq_getElem_cons (show i<l.length by omega)]
  generalize l[i]=p at hc
  obtain⟨x1,h1,h2⟩:=put_law hx (by omega) p.1 p.2
  have:=insK_len1 (k:=p.1) (v:=.str p.2) o
  obtain⟨x',h3,h4⟩:=ld_loop2 l hl m (i+1) x1 _ (by omega) h1 (by omega)
  refine⟨x',h3,fun R fu kk nl n hn=>?_⟩
  obtain⟨n,rfl⟩:∃ k,n=k+1:=⟨n-1,by omega⟩
  have h4:=h4 R fu kk nl n (by omega)
  unfold ldLoop at h4 ⊢
  rw[loopK_succ,ld_step fu kk hx.isR,cond_t (decide_eq_true (by omega)),ixP_eq hc,h2,wrapI_of (by omega) (by omega)]
  exact h4
theorem ld_ex (l:List (Ky×Ky))(hl:l.length≤20000)(hs:Srt l) :
  ∃ x,RootIs x (l.map prV)∧∀ (R:Type) (fu:Nat) (kk:List (List PV)→PV→Option R) (nl:Option Bool),l.length<fu→prunH enLd hLd fu fLd [] [.sl nl 2 l.length (prsC l)] kk=kk [[x]] (.ptr 0 0):=by
 obtain⟨x,h1,h2⟩:=ld_loop2 l hl l.length 0 .nilptr [] (by omega) (.inl ⟨rfl,rfl⟩) (by simp)
 rw[List.drop_zero,insAll_srt l [] hs (fun p _ q hq=>by cases hq),List.nil_append] at h1
 exact⟨x,h1,fun R fu kk nl hf=>(ld_raw fu kk nl _ _).trans (h2 R fu kk nl fu hf)⟩
noncomputable def ldG (l:List (Ky×Ky)):Bool:=@decide (l.length≤20000∧Srt l) (Classical.propDecidable _)
theorem ldG_iff {l:List (Ky×Ky)}:ldG l=true↔l.length≤20000∧Srt l:=by unfold ldG;exact @decide_eq_true_iff _ (Classical.propDecidable _)
noncomputable def rootOf (l:List (Ky×Ky)):PV:=@dite PV (l.length≤20000∧Srt l) (Classical.propDecidable _) (fun h=>Classical.choose (ld_ex l h.1 h.2)) (fun _=>.nilptr)
theorem rootOf_spec {l:List (Ky×Ky)}(h:l.length≤20000∧Srt l):RootIs (rootOf l) (l.map prV)∧∀ (R:Type) (fu:Nat) (kk:List (List PV)→PV→Option R) (nl:Option Bool),l.length<fu→prunH enLd hLd fu fLd [] [.sl nl 2 l.length (prsC l)] kk=kk [[rootOf l]] (.ptr 0 0):=by
 unfold rootOf
 rw[dif_pos h]
 exact Classical.choose_spec (ld_ex l h.1 h.2)
def rootK {S:Type}(x:PV)(k:PV→Option S):Option S:=match x with|.nilptr=>k .nilptr|.eptr cs=>k (.eptr cs)|_=>none
theorem rootK_eq {S:Type}{x:PV}(hx:IsR x)(k:PV→Option S):rootK x k=k x:=by rcases hx with rfl|⟨cs,rfl⟩<;>rfl
theorem rootK_nat {S T:Type}(x:PV)(f:PV→Option S)(k:S→Option T):rootK x (fun x=>(f x).bind k)=(rootK x f).bind k:=by cases x<;>rfl
noncomputable def hLaidS:HFn:=⟨fun bs xs k=>match bs,xs with
 |[],[.sl _ 2 n c]=>(decG 2 prG n c).bind fun l=>bif ldG l then rootK (rootOf l) fun x=>k [[x]] (.ptr 0 0) else none
 |_,_=>none⟩
theorem ok_laidS:HOK NGt Wt 12 hLaidS:=by
 refine hok wokt allOK_nil ok_lhLd allI_nil (h:=hLd) Tryz.func12 rfl (by decide) ?_ ?_
 ·intro R bs xs k
  simp only[hLaidS]
  split
  ·rw[obind_assoc];congr 1;funext l;rw[bif_bind];congr 1;rw[← rootK_nat];rfl
  ·rfl
 ·intro bs xs r h
  simp only[hLaidS] at h
  split at h
  ·rename_i nl n c
   obtain⟨l,hl,ha⟩:=bind_some_inv h
   obtain⟨hg,hb⟩:=bif_inv ha
   obtain⟨rfl,rfl⟩:=decG_inv prG_inv hl
   obtain⟨h1,h2⟩:=rootOf_spec (ldG_iff.1 hg)
   rw[rootK_eq h1.isR] at hb
   exact⟨l.length+1,(h2 _ _ _ nl (Nat.lt_succ_self _)).trans hb⟩
  ·cases h
theorem fok_or {NG:Nat}{W:World→Prop}{f:FuncId}{p p' q:PFn}(hp:FOK NG W f p)(hp':FOK NG W f p')(hn:q.nat)(ho:q.own=false)(h:∀ xs r,q.F xs (R:=PV) some=some r→p.F xs (R:=PV) some=some r∨p'.F xs (R:=PV) some=some r):FOK NG W f q where
 nat:=hn
 call:=by
  intro M xs vs r hW hng hg hr hF
  rcases h xs r hF with h|h
  ·refine (hp.call M xs vs r hW hng hg hr h).imp ?_ ?_
   ·rintro ⟨v,w',h1,U',h2,h3,_⟩
    exact⟨v,w',h1,U',h2,h3,fun e=>by rw[ho] at e;cases e⟩
   ·rintro ⟨h0,h1⟩
    refine⟨h0,h1.mono ?_⟩
    rintro e w' ⟨v,h2,U',h3,h4,_⟩
    exact⟨v,h2,U',h3,h4,fun e=>by rw[ho] at e;cases e⟩
  ·refine (hp'.call M xs vs r hW hng hg hr h).imp ?_ ?_
   ·rintro ⟨v,w',h1,U',h2,h3,_⟩
    exact⟨v,w',h1,U',h2,h3,fun e=>by rw[ho] at e;cases e⟩
   ·rintro ⟨h0,h1⟩
    refine⟨h0,h1.mono ?_⟩
    rintro e w' ⟨v,h2,U',h3,h4,_⟩
    exact⟨v,h2,U',h3,h4,fun e=>by rw[ho] at e;cases e⟩
def p_SmallB:PFn:=⟨fun xs k=>match xs with|[.sl _ 2 n _]=>bif decide (60<(n:Int)) then k (.bool false) else none|_=>none,false⟩
theorem ok_SmallB:FOK NGk Tabs 25 p_SmallB:=by
 refine fok wokk allOK_nil (h:=hSm) Tryz.func25 rfl (by decide) ?_ ?_
 ·intro R xs k
  simp only[p_SmallB]
  split
  ·rename_i nl n c
   cases decide (60<(n:Int))<;>rfl
  ·rfl
 ·intro xs r h
  simp only[p_SmallB] at h
  split at h
  ·rename_i nl n c
   obtain⟨hg,h⟩:=bif_inv h
   refine⟨9,(sm_raw 9 nl n c).trans ?_⟩
   rw[hg]
   exact h
  ·cases h
def p_longB:PFn:=⟨fun xs k=>match xs with|[.sl _ 2 lr _,.agg xc,.agg rc]=>(idxG xc).bind fun _=>(rngG rc).bind fun _=>bif decide (60<(lr:Int)) then k (.bool true) else none|_=>none,false⟩
theorem lgB_raw (nr:Option Bool)(lr:Nat)(cr:List PV)(x0:Int)(x1:List UInt8)(nx:Option Bool)(lx:Nat)(cx:List PV)(x3:Bool)(x4:Int)(ne:Option Bool)(le:Nat)(ce:List PV)(nl:Option Bool)(ll:Nat)(cl:List PV)(lo:Bool)(nh:Option Bool)(lh:Nat)(ch:List PV)(ho:Bool) :
  prun (en [(25,p_SmallB)]) hLg 0 false fLg [.sl nr 2 lr cr,.agg [.int .i64 x0,.str x1,.sl nx 1 lx cx,.bool x3,.int .i64 x4],.agg [.sl ne 4 le ce,.sl nl 4 ll cl,.bool lo,.sl nh 4 lh ch,.bool ho]] =
   bif decide (60<(lr:Int)) then some (.bool true) else none:=by kernel_rfl
theorem ok_longB:FOK NGk Tabs 8 p_longB:=by
 refine fok wokk (allOK_cons ok_SmallB allOK_nil) (h:=hLg) Tryz.func8 rfl (by decide) ?_ ?_
 ·intro R xs k
  simp only[p_longB]
  split
  ·rename_i nl lr cr xc rc
   simp only[Option.bind_assoc]
   congr 1;funext x;congr 1;funext r
   cases decide (60<(lr:Int))<;>rfl
  ·rfl
 ·intro xs r h
  simp only[p_longB] at h
  split at h
  ·rename_i nl lr cr xc rc
   obtain⟨x,h2,ha⟩:=Option.bind_eq_some_iff.1 h
   obtain⟨g,h3,hb⟩:=Option.bind_eq_some_iff.1 ha
   obtain rfl:=idxG_inv _ _ h2
   obtain rfl:=rngG_inv _ _ h3
   exact⟨0,(lgB_raw nl lr cr x.id x.name x.nl x.cols.length (colC x.cols) x.u x.st g.ne g.eq.length (valsC g.eq) g.nlo g.lo.length (valsC g.lo) g.lout g.nhi g.hi.length (valsC g.hi) g.hout).trans hb⟩
  ·cases h
def p_longA:PFn:=⟨fun xs k=>match xs with|[.sl _ 2 lr cr,.agg xc,.agg rc]=>(decG 2 rwG lr cr).bind fun rs=>(idxG xc).bind fun x=>(rngG rc).bind fun r=>k (.bool (longS rs x r))|_=>none,false⟩
theorem ok_longA:FOK NGk Tabs 8 p_longA:=by
 refine fok_or ok_long23 ok_longB ?_ rfl ?_
 ·intro R xs k
  simp only[p_longA]
  split
  ·simp only[Option.bind_assoc]
   rfl
  ·rfl
 ·intro xs r h
  simp only[p_longA] at h
  split at h
  ·rename_i nl lr cr xc rc
   obtain⟨rs,h1,ha⟩:=Option.bind_eq_some_iff.1 h
   obtain⟨x,h2,hb⟩:=Option.bind_eq_some_iff.1 ha
   obtain⟨g,h3,hc⟩:=Option.bind_eq_some_iff.1 hb
   by_cases hn:60<rs.length
   ·right
    obtain⟨rfl,rfl⟩:=decG_inv rwG_inv h1
    simp only[p_longB]
    rw[h2,Option.bind_some,h3,Option.bind_some,cond_t (decide_eq_true (by omega))]
    rw[← hc]
    have:longS rs x g=true:=by
     unfold longS smS
     rw[decide_eq_false (by omega)]
     rfl
    rw[this]
   ·left
    simp only[p_long23]
    rw[h1,Option.bind_some,h2,Option.bind_some,h3,Option.bind_some,cond_t (decide_eq_true (by omega))]
    exact hc
  ·cases h
def gRw0 (s:Ky):Option (Int×Int×Bool):=bif decide (s.length≤1000000) then some (rowK s) else none
noncomputable def hListR:HFn:=hListS gRw0 gParK gKeyK gGe goR
theorem ok_hListR:HOK NGt Wt 10 hListR:=ok_list ok_Row ok_Parse ok_Key ok_rowOf ok_get
def zRng:List PV:=[.sl (some true) 4 0 [],.sl (some true) 4 0 [],.bool false,.sl (some true) 4 0 [],.bool false]
def stO {R:Type}(n:Nat)(c xc:List PV)(sp:Int)(K:List (Ky×Ky)→Option R):Option R:=(decG 2 rwG n c).bind fun rs=>(idxG xc).bind fun x=>bif ((decide (0≤sp)&&decide (sp≤255))&&decide (x.cols.length≤6))&&(decide (rs.length≤60)&&rs.all rwGd) then K (storeS sp x rs) else none
noncomputable def ldO {R:Type}(n:Nat)(c:List PV)(K:PV→Option R):Option R:=(decG 2 prG n c).bind fun l=>bif ldG l then rootK (rootOf l) K else none
def lgO3 {R:Type}(lr:Nat)(cr xc rc:List PV)(K:Bool→Option R):Option R:=(decG 2 rwG lr cr).bind fun rs=>(idxG xc).bind fun x=>(rngG rc).bind fun r=>K (longS rs x r)
theorem takeWhile_filter {β:Type}{B:Ky×β→Bool}:∀ {m:List (Ky×β)},Srt m→(∀ p∈m,∀ q∈m,Op.bytesLess p.1 q.1=true→B q=true→B p=true)→m.takeWhile B=m.filter B
 |[],_,_=>rfl
 |p::m,h,hB=>by
  have h2:=List.pairwise_cons.1 h
  rw[List.takeWhile_cons,List.filter_cons]
  cases hp:B p with
  |true =>
   rw[if_pos rfl,if_pos rfl,takeWhile_filter h2.2 fun a ha b hb=>hB a (List.mem_cons_of_mem _ ha) b (List.mem_cons_of_mem _ hb)]
  |false =>
   rw[if_neg (by simp),if_neg (by simp)]
   refine (List.filter_eq_nil_iff.2 fun q hq hBq=>?_).symm
   have:=hB p List.mem_cons_self q (List.mem_cons_of_mem _ hq) (h2.1 q hq) hBq
   rw[hp] at this
   cases this
def inB (f t k:Ky):Bool:=!Op.bytesLess k f&&Op.bytesLess k t
theorem tw_inB {l:List (Ky×PV)}(h:Srt l)(f:Ky){t:Ky}(ht:t≠[]):(fromK f l).takeWhile (btT t)=l.filter fun p=>inB f t p.1:=by
 have hb:∀ p:Ky×PV,btT t p=Op.bytesLess p.1 t:=by
  intro p
  unfold btT
  rw[cond_t (bne_iff_ne.2 ht),Bool.not_not]
 show (l.filter fun p=>!Op.bytesLess p.1 f).takeWhile (btT t)=_
 rw[takeWhile_filter (List.Pairwise.filter _ h)]
 ·rw[List.filter_filter]
  congr 1
  funext p
  rw[hb]
  unfold inB
  rw[Bool.and_comm]
 ·intro p _ q _ hpq hq
  rw[hb] at hq ⊢
  exact kl_trans hpq hq
structure EOK (t:Int)(p:Ky×Ky):Prop where
 k:p.1.length≤100000
 v:p.2.length≤1000000
 a:inB (tblF t) (aboveL (tblF t)) p.1=!(bif !(rowK p.1).2.2 then true else (rowK p.1).1 != t)
theorem ins_mem {β:Type}{k:Ky}{v:β}:∀ {l:List (Ky×β)} {p:Ky×β},p∈insK k v l→p=(k,v)∨p∈l
 |[],p,h=>by
  rw[insK,List.mem_singleton] at h
  exact .inl h
 |q::l,p,h=>by
  rw[insK] at h
  split at h
  ·rcases List.mem_cons.1 h with h|h
   ·exact .inl h
   ·exact .inr (List.mem_cons_of_mem _ h)
  ·split at h
   ·rcases List.mem_cons.1 h with h|h
    ·exact .inl h
    ·exact .inr h
   ·rcases List.mem_cons.1 h with h|h
    ·exact .inr (by rw[h];exact List.mem_cons_self)
    ·rcases ins_mem h with h|h
     ·exact .inl h
     ·exact .inr (List.mem_cons_of_mem _ h)
theorem inB_span (t:Int)(k:Ky):inB (tblF t) (aboveL (tblF t)) k=decide (k.take (tblF t).length=tblF t):=by
 rw[← span_iff (show aboveL (tblF t)≠[] from above_ne (by decide) _)]
 unfold inB inSpan
 rw[leK_or]
 rfl
theorem eok_not {t:Int}{k v:Ky}(h:k.take 1≠[114])(hk:k.length≤100000)(hv:v.length≤1000000):EOK t (k,v):=by
 refine⟨hk,hv,?_⟩
 have e:rowK k=(0,0,false):=by
  unfold rowK mkV
  rw[cond_f (beq_eq_false_iff_ne.2 h)]
  rfl
 show inB _ _ k=_
 rw[inB_span,e]
 refine decide_eq_false fun q=>h ?_
 have:=congrArg (List.take 1) q
 rw[List.take_take,Nat.min_eq_left (by unfold tblF;rw[List.length_cons];omega)] at this
 rw[this]
 rfl
theorem rowK_key {t i:Int}(ht:-9223372036854775808≤t∧t≤9223372036854775807)(hi:-9223372036854775808≤i∧i≤9223372036854775807):rowK (keyL t i)=(t,i,true):=by
 unfold rowK mkV keyL
 rw[cond_t (by rfl)]
 show rowO (getV (Go.Proofs.YthjmjoioagocdaaGreatDoor.encs [numV t,numV i]))=_
 rw[getV_encs [numV t,numV i] (by
  intro x hx
  rcases List.mem_cons.1 hx with rfl|hx
  ·exact ht
  ·rw[List.mem_singleton] at hx
   subst hx
   exact hi)]
 rw[List.map_cons,List.map_cons,plain_right (right_num t),plain_right (right_num i)]
 rfl
theorem keyL_eq (t i:Int):keyL t i=tblF t++Go.Proofs.YthjmjoioagocdaaGreatDoor.enc (numV i):=by
 unfold keyL tblF Go.Proofs.YthjmjoioagocdaaGreatDoor.encs
 simp
theorem eok_key {t i:Int}{v:Ky}(ht:-9223372036854775808≤t∧t≤9223372036854775807)(hi:-9223372036854775808≤i∧i≤9223372036854775807)(hv:v.length≤1000000):EOK t (keyL t i,v):=by
 refine⟨?_,hv,?_⟩
 ·have:=encs_len [numV t,numV i]
  simp only[List.length_cons,List.length_nil] at this
  show (114::Go.Proofs.YthjmjoioagocdaaGreatDoor.encs [numV t,numV i]).length≤_
  rw[List.length_cons]
  omega
 ·show inB _ _ (keyL t i)=_
  rw[inB_span,rowK_key ht hi,keyL_eq,List.take_left]
  simp
theorem eok_41 {v:Ky}(hv:v.length≤1000000):EOK 3 (keyL 4 1,v):=by
 refine⟨show (keyL 4 1).length≤100000 by decide +kernel,hv,?_⟩
 show inB _ _ (keyL 4 1)=_
 rw[inB_span,rowK_key (by omega) (by omega)]
 decide +kernel
theorem stAll_eok {sp:Int}{x:Idx}(hx:x.cols.length≤6):∀ {rs:List Rw} {i:Nat} {l:List (Ky×Ky)},rs.all rwGd=true→(∀ r∈rs,-9223372036854775808≤r.1∧r.1≤9223372036854775807)→(∀ p∈l,EOK 3 p)→∀ p∈stAll sp x i rs l,EOK 3 p
 |[],_,_,_,_,h,p,hp=>h p hp
 |r::rs,i,l,hg,hi,h,p,hp=>by
  rw[List.all_cons,Bool.and_eq_true] at hg
  refine stAll_eok hx (rs:=rs) (i:=i+1) (l:=stOne sp i x r l) hg.2 (fun q hq=>hi q (List.mem_cons_of_mem _ hq)) ?_ p hp
  intro q hq
  have hb:(putB r.2.2).length≤6009:=by
   have:=hg.1
   unfold rwGd at this
   simp only[Bool.and_eq_true,decide_eq_true_eq] at this
   exact putB_len2 this.1.1 this.1.2 this.2
  rcases ins_mem hq with rfl|hq
  ·refine eok_not (by unfold entL;simp) ?_ (Nat.zero_le _)
   have:=encs_len (numV 3::numV x.id::(valsOf x.cols r.2.2++[numV r.1]))
   have h2:=valsOf_len x.cols r.2.2
   rw[List.length_cons,List.length_cons,List.length_append,h2] at this
   show (105::Go.Proofs.YthjmjoioagocdaaGreatDoor.encs _).length≤_
   rw[List.length_cons]
   have h3:([numV r.1]:List Val).length=1:=rfl
   omega
  ·unfold stPut at hq
   split at hq
   ·rcases ins_mem hq with rfl|hq
    ·refine eok_key (by omega) (hi r List.mem_cons_self) ?_
     unfold stV
     split
     ·rw[List.length_append]
      have:([63]:Ky).length=1:=rfl
      omega
     ·omega
    ·exact h q hq
   ·exact h q hq
theorem store_eok {sp:Int}{x:Idx}{rs:List Rw}(hx:x.cols.length≤6)(hg:rs.all rwGd=true)(hi:∀ r∈rs,-9223372036854775808≤r.1∧r.1≤9223372036854775807):∀ p∈storeS sp x rs,EOK 3 p:=by
 intro p hp
 rcases ins_mem hp with rfl|hp
 ·exact eok_not (by decide) (by decide) (by decide)
 ·rcases ins_mem hp with rfl|hp
  ·exact eok_41 (by decide)
  ·exact stAll_eok hx hg hi (by intro p hp;cases hp) p hp
theorem store_srt {sp:Int}{x:Idx}{rs:List Rw}:Srt (storeS sp x rs):=(Srt.ins (Srt.ins (stAll_srt List.Pairwise.nil)))
theorem store_len {sp:Int}{x:Idx}{rs:List Rw}:(storeS sp x rs).length≤2 * rs.length+2:=by
 have h1:=stAll_len (sp:=sp) (x:=x) (rs:=rs) (i:=0) (l:=[])
 have h2:=insK_lenG (k:=keyL 4 1) (v:=([111,116,104,101,114]:Ky)) (stAll sp x 0 rs [])
 have h3:=insK_lenG (k:=[115]) (v:=([115,99,104,101,109,97]:Ky)) (insK (keyL 4 1) ([111,116,104,101,114]:Ky) (stAll sp x 0 rs []))
 have h4:([]:List (Ky×Ky)).length=0:=rfl
 show (stFin (stAll sp x 0 rs [])).length≤_
 unfold stFin
 omega
theorem law_runH {en:Env}{NG:Nat}{W:World→Prop}(hE:EnvOK en NG W)(hy:en.Y=none)(hG:∀ g,en.G g=none){f:FuncId}{fn:Func}(hf:en.P.funcs[f]? = some fn){h:Hints}{w:World}{xs:List PV}{vs:List Value}
  (hw:W w) (hng:NG≤w.heap.size) (hr:ArgsU w xs vs) (hrun:∃ fuel,prun en h fuel false fn xs=some (.bool true)):Calls en.P f vs.toArray w fun e w'=>e=.returned (.bool true)∧Below w.heap.size w w':=by
 obtain⟨B,hB⟩:=hr
 obtain⟨fuel,hrun⟩:=hrun
 refine (run_ok hE hy hf (M:=memU w fun _=>B) hw hng (fun g cs hg=>by rw[hG g] at hg;cases hg) (hB _ fun _=>Nat.le_refl _) hrun).mono ?_
 rintro e w' ⟨v,rfl,U',hm,hv,_⟩
 simp only[RelD] at hv
 subst hv
 exact⟨rfl,hm.os,hm.tape,hm.output,hm.size,fun b hb=>(hm.block b hb (by simp[memU])).1⟩
def zRngR:Rng:=⟨some true,[],some true,[],false,some true,[],false⟩
theorem rwGd_of {r:Rw}(h:rwSm r=true)(p:PRw r):rwGd r=true:=by
 unfold rwGd
 unfold rwSm at h
 rw[h,Bool.true_and,List.all_eq_true]
 intro c hc
 have hs:c.2.s.length≤250:=of_decide_eq_true (List.all_eq_true.1 (Bool.and_eq_true_iff.1 h).2 c hc)
 obtain⟨q1,q2,q3,q4⟩:=p.2 c hc
 have e:∀ {a:Int},inR a→rng a=true:=by
  intro a ha
  unfold rng
  rw[decide_eq_true ha.1,decide_eq_true ha.2]
  rfl
 unfold cGood vGood
 rw[e q1,e q2,e q3,e q4,decide_eq_true (by omega)]
 rfl
theorem rows_good {rs:List Rw}(h:rs.all rwSm=true)(p:∀ r∈rs,PRw r):rs.all rwGd=true:=by
 rw[List.all_eq_true] at h ⊢
 exact fun r hr=>rwGd_of (h r hr) (p r hr)
theorem stO_eq {R:Type}{rs:List Rw}{x:Idx}{sp:Int}{K:List (Ky×Ky)→Option R}(hsp:0≤sp∧sp≤255)(hx:x.cols.length≤6)(hn:rs.length≤60)(hg:rs.all rwGd=true):stO rs.length (rs.flatMap rwC) (idxC x) sp K=K (storeS sp x rs):=by
 unfold stO
 rw[decG_of rwC_len rwG_of,Option.bind_some,idxG_of,Option.bind_some,cond_t (by rw[decide_eq_true hsp.1,decide_eq_true hsp.2,decide_eq_true hx,decide_eq_true hn,hg];rfl)]
theorem ldO_eq {R:Type}{l:List (Ky×Ky)}(h:l.length≤20000)(hs:Srt l){K:PV→Option R}:ldO l.length (prsC l) K=K (rootOf l):=by
 unfold ldO prsC
 rw[decG_of prC_len prG_of,Option.bind_some,cond_t (ldG_iff.2 ⟨h,hs⟩),rootK_eq (rootOf_spec ⟨h,hs⟩).1.isR]
theorem prV_srt {l:List (Ky×Ky)}(hs:Srt l):Srt (l.map prV):=by
 unfold Srt at hs ⊢
 rw[List.pairwise_map]
 exact hs
noncomputable def hEntsP:HFn:=evalH [(18,p_span23)] [] [] h0 9 Tryz.f23
theorem ok_hEntsP:HOK NGt Wt 23 hEntsP:=evalH_ok wokt (allOK_cons ok_span23 allOK_nil) allH_nil allI_nil Tryz.func23 rfl (by decide)
noncomputable def lQ:List (FuncId×PFn):=[(7,p_first23),(8,p_longA),(17,p_plain5),(16,p_rowR),(9,p_St)]
theorem ok_lQ:AllOK NGt Wt lQ:=allOK_cons ok_first23 (allOK_cons ok_longA (allOK_cons ok_plain5 (allOK_cons ok_rowR (allOK_cons ok_St allOK_nil))))
noncomputable def lhQ:List (FuncId×HFn):=[(12,hLaidS),(23,hEntsP),(10,hListR)]
theorem ok_lhQ:AllH NGt Wt lhQ:=allH_cons ok_laidS (allH_cons ok_hEntsP (allH_cons ok_hListR allH_nil))
noncomputable def enQ:Env:=enH lQ lhQ []
noncomputable def fQs:Func:=Tryz.f5
def hQ:Hints:=⟨[],[(4,⟨[(0,false),(4,false),(11,false),(12,false),(86,false),(87,false),(88,false)],[4,73]⟩),
 (2,⟨[(0,false),(4,false),(5,false),(8,false),(44,false),(45,false),(46,false),(57,false),(58,false),(59,false)],[4,5,8]⟩),(0,⟨[(0,false),(4,false),(5,false),(44,false),(45,false),(46,false)],[4,5]⟩)]⟩
def frQ (xc vc:List PV)(nl:Option Bool)(n:Nat)(c:List PV)(L i:Int):St :=
 frame 129 [(0,(.sl nl 2 n c,0)),(4,(.ptr 4 0,0)),(5,(.ptr 5 0,0)),(44,(.sl nl 2 n c,0)),(45,(.int .i64 L,0)),(46,(.int .i64 i,0))] [(4,xc.map fun v=>(v,0)),(5,vc.map fun v=>(v,0))]
def frQI (xc vc:List PV)(nl:Option Bool)(n:Nat)(c:List PV)(L i q:Int)(fl:Option Bool)(m:Nat)(d:List PV)(l1:Nat)(c1:List PV)(M j:Int):St :=
 frame 129 [(0,(.sl nl 2 n c,0)),(4,(.ptr 4 0,0)),(5,(.ptr 5 0,0)),(8,(.ptr 8 0,0)),(44,(.sl nl 2 n c,0)),(45,(.int .i64 L,0)),(46,(.int .i64 i,0)),(57,(.sl nl 2 l1 c1,0)),(58,(.int .i64 M,0)),(59,(.int .i64 j,0))]
  [(4,xc.map fun v=>(v,0)),(5,vc.map fun v=>(v,0)),(8,[(.int .i64 q,0),(.sl fl 5 m d,0)])]
def fr4 (m:Nat)(xc:List PV)(x:PV)(nl:Option Bool)(n:Nat)(c:List PV)(k:Int)(cs:List PV)(L i:Int):St :=
 frameB 129 m [(0,(.sl nl 2 n c,0)),(4,(.ptr 4 0,0)),(11,(.ptr 73 0,0)),(12,(.int .i64 k,0)),(86,(.sl (some false) 5 4 cs,0)),(87,(.int .i64 L,0)),(88,(.int .i64 i,0))] [(4,xc.map fun v=>(v,0)),(73,[(x,0)])]
noncomputable def qLoop (fu n:Nat)(st:St):Option PV:=loopF enQ hQ fu false fQs [1,1,1,0,1,0] 0 n st
noncomputable def qI (fu:Nat)(K:St→Option PV)(n:Nat)(st:St):Option PV:=loopP enQ hQ fu false fQs (fun st=>pnorm (hQ.loop.lookup 0) st K) [1,1,1,0,1,0,0,1,1,0,0,1,1,1,0] 2 n st
noncomputable def q4 (fu n:Nat)(st:St):Option PV:=loopF enQ hQ fu false fQs [1,1,1,1,1,1,0,1,0] 4 n st
def zS:PV:=.sl (some true) 4 0 []
def vS (vc:List PV):PV:=.sl (some false) 4 1 vc
def cs4 (vc:List PV):List PV:=[zS,zS,.bool false,vS vc,.bool true]++[vS vc,zS,.bool false,zS,.bool false]++[zS,vS vc,.bool true,zS,.bool false]++[vS [.int .i64 0,.int .i64 0,.int .i64 0,.str []],zS,.bool false,zS,.bool false]
def slO {R:Type}(n:Nat)(c:List PV)(i:Int)(K:Nat→List PV→Option R):Option R:=bif decide (0≤i)&&decide (i≤(n:Int)) then K i.toNat (c.take (i.toNat * 2)) else none
theorem sq_raw (fu:Nat)(x0:Int)(x1:List UInt8)(nx:Option Bool)(lx:Nat)(cx:List PV)(x3:Bool)(x4:Int)(nl:Option Bool)(n:Nat)(c:List PV)(a b s:Int)(t:List UInt8) :
  prun enQ hQ fu false fQs [.sl nl 2 n c,.agg [.int .i64 x0,.str x1,.sl nx 1 lx cx,.bool x3,.int .i64 x4],.agg [.int .i64 a,.int .i64 b,.int .i64 s,.str t]] =
   lgO3 n c [.int .i64 x0,.str x1,.sl nx 1 lx cx,.bool x3,.int .i64 x4] [vS [.int .i64 a,.int .i64 b,.int .i64 s,.str t],zS,.bool false,zS,.bool false] fun g =>
    bif !(bif (bif g then true else (lx:Int)==0) then true else a==0) then p5O a b s t fun y=>bif !eqV4 a b s t y then some (.bool true) else
     qLoop fu fu (frQ [.int .i64 x0,.str x1,.sl nx 1 lx cx,.bool x3,.int .i64 x4] [.int .i64 a,.int .i64 b,.int .i64 s,.str t] nl n c (n:Int) 0)
    else some (.bool true):=prunN_eq.trans (by kernel_rfl)
theorem sq_step (fu:Nat)(x0:Int)(x1:List UInt8)(nx:Option Bool)(lx:Nat)(cx:List PV)(x3:Bool)(x4:Int)(nl:Option Bool)(n:Nat)(c:List PV)(a b s:Int)(t:List UInt8)(L i:Int)(K:St→Option PV) :
  stepF enQ hQ fu false fQs [1,1,1,0,1,0] (frQ [.int .i64 x0,.str x1,.sl nx 1 lx cx,.bool x3,.int .i64 x4] [.int .i64 a,.int .i64 b,.int .i64 s,.str t] nl n c L i) (fun st=>pnorm (hQ.loop.lookup 0) st K) =
  bif decide (i<L) then ixW n c i fun q fl m d=>rrO m d fun g=>bif !g then some (.bool true) else slO n c i fun l1 c1 =>
    qI fu K fu (frQI [.int .i64 x0,.str x1,.sl nx 1 lx cx,.bool x3,.int .i64 x4] [.int .i64 a,.int .i64 b,.int .i64 s,.str t] nl n c L i q fl m d l1 c1 (l1:Int) 0)
  else stO n c [.int .i64 x0,.str x1,.sl nx 1 lx cx,.bool x3,.int .i64 x4] 0 fun l=>ldO l.length (prsC l) fun x=>q4 fu fu (fr4 129 [.int .i64 x0,.str x1,.sl nx 1 lx cx,.bool x3,.int .i64 x4] x nl n c 0 (cs4 [.int .i64 a,.int .i64 b,.int .i64 s,.str t]) 4 0):=(stepF_eq (by kernel_rfl)).trans (by kernel_rfl)
theorem qI_step (fu:Nat)(x0:Int)(x1:List UInt8)(nx:Option Bool)(lx:Nat)(cx:List PV)(x3:Bool)(x4:Int)(nl:Option Bool)(n:Nat)(c:List PV)(a b s:Int)(t:List UInt8)(L i q:Int)(fl:Option Bool)(m:Nat)(d:List PV)(l1:Nat)(c1:List PV)(M j:Int)(K K2:St→Option PV) :
  stepP enQ hQ fu false fQs [1,1,1,0,1,0,0,1,1,0,0,1,1,1,0] (fun st=>pnorm (hQ.loop.lookup 0) st K) (frQI [.int .i64 x0,.str x1,.sl nx 1 lx cx,.bool x3,.int .i64 x4] [.int .i64 a,.int .i64 b,.int .i64 s,.str t] nl n c L i q fl m d l1 c1 M j) (fun st=>pnorm (hQ.loop.lookup 2) st K2) =
  bif decide (j<M) then ixW l1 c1 j fun q' _ _ _=>bif q'==q then some (.bool true) else K2 (frQI [.int .i64 x0,.str x1,.sl nx 1 lx cx,.bool x3,.int .i64 x4] [.int .i64 a,.int .i64 b,.int .i64 s,.str t] nl n c L i q fl m d l1 c1 M (IntKind.i64.wrap (j+1)))
  else K (frQ [.int .i64 x0,.str x1,.sl nx 1 lx cx,.bool x3,.int .i64 x4] [.int .i64 a,.int .i64 b,.int .i64 s,.str t] nl n c L (IntKind.i64.wrap (i+1))):=(stepP_eq (by kernel_rfl)).trans (by kernel_rfl)
def ixQ {R:Type}(n:Nat)(c:List PV)(i:Int)(K:Option Bool→Nat→List PV→Option Bool→Nat→List PV→Bool→Option Bool→Nat→List PV→Bool→Option R):Option R :=
 bif decide (0≤i)&&decide (i<(n:Int)) then
  ((c.drop (i.toNat * 5)).take 5).head?.bind fun v=>(PV.asSl 4 v).bind fun p=>((c.drop (i.toNat * 5)).take 5).tail.head?.bind fun v=>(PV.asSl 4 v).bind fun p2=>((c.drop (i.toNat * 5)).take 5).tail.tail.head?.bind fun v=>v.asBool.bind fun b =>
   ((c.drop (i.toNat * 5)).take 5).tail.tail.tail.head?.bind fun v=>(PV.asSl 4 v).bind fun p3=>((c.drop (i.toNat * 5)).take 5).tail.tail.tail.tail.head?.bind fun v=>v.asBool.bind fun b2=>K p.1 p.2.1 p.2.2 p2.1 p2.2.1 p2.2.2 b p3.1 p3.2.1 p3.2.2 b2 else none
def esO {R:Type}(x:PV)(xc rc:List PV)(K:List (RowC×Int)→Option R):Option R:=spanO 3 xc rc fun f t=>(gRf x f).bind fun _=>(entsB gParK gKeyK gGe goR 3 f t x).bind fun ys=>bif decide (ys.length≤1000000) then K ys else none
theorem q4_step0 (fu:Nat)(x0:Int)(x1:List UInt8)(nx:Option Bool)(lx:Nat)(cx:List PV)(x3:Bool)(x4:Int){x:PV}(hx:IsR x)(nl:Option Bool)(n:Nat)(c:List PV)(k:Int)(cs:List PV)(L i:Int)(K:St→Option PV) :
  stepF enQ hQ fu false fQs [1,1,1,1,1,1,0,1,0] (fr4 129 [.int .i64 x0,.str x1,.sl nx 1 lx cx,.bool x3,.int .i64 x4] x nl n c k cs L i) (fun st=>pnorm (hQ.loop.lookup 4) st K) =
  bif decide (i<L) then ixQ 4 cs i fun ne le ce nlo ll cl lo nh lh ch ho=>esO x [.int .i64 x0,.str x1,.sl nx 1 lx cx,.bool x3,.int .i64 x4] [.sl ne 4 le ce,.sl nlo 4 ll cl,.bool lo,.sl nh 4 lh ch,.bool ho] fun ys =>
    bif (listR ys).2 != 0 then some (.bool false) else K (fr4 132 [.int .i64 x0,.str x1,.sl nx 1 lx cx,.bool x3,.int .i64 x4] x nl n c (IntKind.i64.wrap (k+((listR ys).1.length:Int))) cs L (IntKind.i64.wrap (i+1)))
  else esO x [.int .i64 x0,.str x1,.sl nx 1 lx cx,.bool x3,.int .i64 x4] zRng fun ys=>bif (listR ys).2==0 then bif k==((listR ys).1.length:Int) then some (.bool (k==(n:Int))) else some (.bool false) else some (.bool false):=by
 rcases hx with rfl|⟨cx',rfl⟩
 ·exact (stepF_eq (by kernel_rfl)).trans (by kernel_rfl)
 ·exact (stepF_eq (by kernel_rfl)).trans (by kernel_rfl)
theorem q4_step1 (fu:Nat)(x0:Int)(x1:List UInt8)(nx:Option Bool)(lx:Nat)(cx:List PV)(x3:Bool)(x4:Int){x:PV}(hx:IsR x)(nl:Option Bool)(n:Nat)(c:List PV)(k:Int)(cs:List PV)(L i:Int)(K:St→Option PV) :
  stepF enQ hQ fu false fQs [1,1,1,1,1,1,0,1,0] (fr4 132 [.int .i64 x0,.str x1,.sl nx 1 lx cx,.bool x3,.int .i64 x4] x nl n c k cs L i) (fun st=>pnorm (hQ.loop.lookup 4) st K) =
  bif decide (i<L) then ixQ 4 cs i fun ne le ce nlo ll cl lo nh lh ch ho=>esO x [.int .i64 x0,.str x1,.sl nx 1 lx cx,.bool x3,.int .i64 x4] [.sl ne 4 le ce,.sl nlo 4 ll cl,.bool lo,.sl nh 4 lh ch,.bool ho] fun ys =>
    bif (listR ys).2 != 0 then some (.bool false) else K (fr4 135 [.int .i64 x0,.str x1,.sl nx 1 lx cx,.bool x3,.int .i64 x4] x nl n c (IntKind.i64.wrap (k+((listR ys).1.length:Int))) cs L (IntKind.i64.wrap (i+1)))
  else esO x [.int .i64 x0,.str x1,.sl nx 1 lx cx,.bool x3,.int .i64 x4] zRng fun ys=>bif (listR ys).2==0 then bif k==((listR ys).1.length:Int) then some (.bool (k==(n:Int))) else some (.bool false) else some (.bool false):=by
 rcases hx with rfl|⟨cx',rfl⟩
 ·exact (stepF_eq (by kernel_rfl)).trans (by kernel_rfl)
 ·exact (stepF_eq (by kernel_rfl)).trans (by kernel_rfl)
theorem q4_step2 (fu:Nat)(x0:Int)(x1:List UInt8)(nx:Option Bool)(lx:Nat)(cx:List PV)(x3:Bool)(x4:Int){x:PV}(hx:IsR x)(nl:Option Bool)(n:Nat)(c:List PV)(k:Int)(cs:List PV)(L i:Int)(K:St→Option PV) :
  stepF enQ hQ fu false fQs [1,1,1,1,1,1,0,1,0] (fr4 135 [.int .i64 x0,.str x1,.sl nx 1 lx cx,.bool x3,.int .i64 x4] x nl n c k cs L i) (fun st=>pnorm (hQ.loop.lookup 4) st K) =
  bif decide (i<L) then ixQ 4 cs i fun ne le ce nlo ll cl lo nh lh ch ho=>esO x [.int .i64 x0,.str x1,.sl nx 1 lx cx,.bool x3,.int .i64 x4] [.sl ne 4 le ce,.sl nlo 4 ll cl,.bool lo,.sl nh 4 lh ch,.bool ho] fun ys =>
    bif (listR ys).2 != 0 then some (.bool false) else K (fr4 138 [.int .i64 x0,.str x1,.sl nx 1 lx cx,.bool x3,.int .i64 x4] x nl n c (IntKind.i64.wrap (k+((listR ys).1.length:Int))) cs L (IntKind.i64.wrap (i+1)))
  else esO x [.int .i64 x0,.str x1,.sl nx 1 lx cx,.bool x3,.int .i64 x4] zRng fun ys=>bif (listR ys).2==0 then bif k==((listR ys).1.length:Int) then some (.bool (k==(n:Int))) else some (.bool false) else some (.bool false):=by
 rcases hx with rfl|⟨cx',rfl⟩
 ·exact (stepF_eq (by kernel_rfl)).trans (by kernel_rfl)
 ·exact (stepF_eq (by kernel_rfl)).trans (by kernel_rfl)
theorem q4_step3 (fu:Nat)(x0:Int)(x1:List UInt8)(nx:Option Bool)(lx:Nat)(cx:List PV)(x3:Bool)(x4:Int){x:PV}(hx:IsR x)(nl:Option Bool)(n:Nat)(c:List PV)(k:Int)(cs:List PV)(L i:Int)(K:St→Option PV) :
  stepF enQ hQ fu false fQs [1,1,1,1,1,1,0,1,0] (fr4 138 [.int .i64 x0,.str x1,.sl nx 1 lx cx,.bool x3,.int .i64 x4] x nl n c k cs L i) (fun st=>pnorm (hQ.loop.lookup 4) st K) =
  bif decide (i<L) then ixQ 4 cs i fun ne le ce nlo ll cl lo nh lh ch ho=>esO x [.int .i64 x0,.str x1,.sl nx 1 lx cx,.bool x3,.int .i64 x4] [.sl ne 4 le ce,.sl nlo 4 ll cl,.bool lo,.sl nh 4 lh ch,.bool ho] fun ys =>
    bif (listR ys).2 != 0 then some (.bool false) else K (fr4 141 [.int .i64 x0,.str x1,.sl nx 1 lx cx,.bool x3,.int .i64 x4] x nl n c (IntKind.i64.wrap (k+((listR ys).1.length:Int))) cs L (IntKind.i64.wrap (i+1)))
  else esO x [.int .i64 x0,.str x1,.sl nx 1 lx cx,.bool x3,.int .i64 x4] zRng fun ys=>bif (listR ys).2==0 then bif k==((listR ys).1.length:Int) then some (.bool (k==(n:Int))) else some (.bool false) else some (.bool false):=by
 rcases hx with rfl|⟨cx',rfl⟩
 ·exact (stepF_eq (by kernel_rfl)).trans (by kernel_rfl)
 ·exact (stepF_eq (by kernel_rfl)).trans (by kernel_rfl)
theorem q4_step4 (fu:Nat)(x0:Int)(x1:List UInt8)(nx:Option Bool)(lx:Nat)(cx:List PV)(x3:Bool)(x4:Int){x:PV}(hx:IsR x)(nl:Option Bool)(n:Nat)(c:List PV)(k:Int)(cs:List PV)(K:St→Option PV) :
  stepF enQ hQ fu false fQs [1,1,1,1,1,1,0,1,0] (fr4 141 [.int .i64 x0,.str x1,.sl nx 1 lx cx,.bool x3,.int .i64 x4] x nl n c k cs 4 4) (fun st=>pnorm (hQ.loop.lookup 4) st K) =
  esO x [.int .i64 x0,.str x1,.sl nx 1 lx cx,.bool x3,.int .i64 x4] zRng fun ys=>bif (listR ys).2==0 then bif k==((listR ys).1.length:Int) then some (.bool (k==(n:Int))) else some (.bool false) else some (.bool false):=by
 rcases hx with rfl|⟨cx',rfl⟩
 ·exact (stepF_eq (by kernel_rfl)).trans (by kernel_rfl)
 ·exact (stepF_eq (by kernel_rfl)).trans (by kernel_rfl)
end Go.Proofs.YthjmjoioagocdaaGreatDoor.TS
end
section
set_option maxRecDepth 100000
namespace Go.Proofs.YthjmjoioagocdaaGreatDoor
open Go.RowKit
theorem be_dig:∀ (f n:Nat) (acc:List UInt8),n<256^f→be (digN f n acc)=n * 256^acc.length+be acc
 |0,n,acc,h=>by
  have:n=0:=by simpa using h
  subst this
  show be acc=_
  omega
 |f+1,n,acc,h=>by
  rw[digN]
  by_cases h0:n=0
  ·rw[if_pos h0,h0];omega
  ·rw[Nat.pow_succ] at h
   rw[if_neg h0,be_dig f (n/256) _ (by omega),List.length_cons,be_cons,UInt8.toNat_ofNat',Nat.pow_succ]
   have e1:n%256%2^8=n%256:=by omega
   rw[e1]
   have e2:n=n/256 * 256+n%256:=by omega
   generalize 256^acc.length=p
   conv=>rhs;rw[e2]
   rw[Nat.add_mul,Nat.mul_assoc,Nat.mul_comm 256 p]
   omega
theorem dig_head:∀ (f n:Nat) (acc:List UInt8),n≠0→n<256^f→∃ c r,digN f n acc=c::r∧c≠0
 |0,n,acc,h0,h=>by
  exfalso
  have:n=0:=by simpa using h
  exact h0 this
 |f+1,n,acc,h0,h=>by
  rw[Nat.pow_succ] at h
  rw[digN,if_neg h0]
  by_cases h1:n/256=0
  ·rw[h1,digN_zero]
   refine⟨_,_,rfl,fun e=>?_⟩
   have:=congrArg UInt8.toNat e
   rw[UInt8.toNat_ofNat'] at this
   have e0:(0:UInt8).toNat=0:=rfl
   omega
  ·exact dig_head f _ _ h1 (by omega)
theorem numM_lt {n:Int}(h:rng n=true):numM n<9223372036854775808:=by
 unfold rng at h
 simp only[Bool.and_eq_true,decide_eq_true_eq] at h
 unfold numM
 split<;>omega
theorem getN_num {n:Int}(h:rng n=true)(r:List UInt8):getN (numB n++r)=some (n,(numB n).length):=by
 have hm:=numM_lt h
 have hl:=digN_len 8 (numM n) []
 have hv:=be_dig 8 (numM n) [] (by omega)
 have hh:=dig_head 8 (numM n) []
 rw[show be []=0 from rfl,List.length_nil,Nat.pow_zero,Nat.mul_one,Nat.add_zero] at hv
 rw[List.length_nil,Nat.add_zero] at hl
 unfold numB
 generalize hds:digN 8 (numM n) []=ds at hl hv hh
 have hH:numH n=0∨numH n=128:=by unfold numH;split<;>simp
 have hb:(UInt8.ofNat (numH n+ds.length)).toNat=numH n+ds.length:=by
  rw[UInt8.toNat_ofNat']
  omega
 have hk:kOf (UInt8.ofNat (numH n+ds.length))=ds.length:=by
  unfold kOf
  rw[hb]
  omega
 rw[List.cons_append]
 unfold getN
 simp only
 rw[hk,hb]
 have hz:ds≠[]→∃ c t,ds=c::t∧c≠0:=by
  intro hne
  have h0:numM n≠0:=by
   intro e
   rw[e] at hds
   exact hne (by rw[← hds];rfl)
  exact hh h0 (by omega)
 rw[if_pos]
 ·rw[List.take_left,hv]
  have hs:(if 127<numH n+ds.length then -1-((numM n:Nat):Int) else ((numM n:Nat):Int))=n:=by
   unfold numH numM at *
   by_cases hn:n<0
   ·rw[if_pos hn,if_pos hn,if_pos (by omega)]
    omega
   ·rw[if_neg hn,if_neg hn,if_neg (by omega)]
    omega
  rw[hs,List.length_cons,Nat.add_comm]
 ·refine⟨hl,by rw[List.length_append];omega,?_,?_⟩
  ·rintro ⟨h1,h2⟩
   obtain⟨c,t,e,hc⟩:=hz (by intro e;rw[e] at h1;exact Nat.lt_irrefl _ h1)
   rw[e] at h2
   injection h2 with h2
   exact hc h2
  ·rintro ⟨h1,b,h2,h3⟩
   obtain⟨c,t,e,hc⟩:=hz (by intro e;rw[e] at h1;cases h1)
   rw[e] at h2 hv h1
   injection h2 with h2
   rw[be_cons] at hv
   rw[List.length_cons] at h1
   have e7:t.length=7:=by omega
   rw[e7] at hv
   have h8:128 * 256^7≤c.toNat * 256^7:=Nat.mul_le_mul_right _ (by rw[h2];omega)
   have h9:(128:Nat) * 256^7=9223372036854775808:=by decide
   omega
theorem drop_len {α:Type}(a b:List α):(a++b).drop a.length=b:=List.drop_left
theorem getT_txt {s:List UInt8}(h:s.length≤1000000)(r:List UInt8):getT (txB s++r)=some (s,(txB s).length):=by
 unfold getT txB
 rw[List.append_assoc,getN_num (by unfold rng;rw[decide_eq_true (by omega),decide_eq_true (by omega)];rfl)]
 simp only
 rw[if_neg,drop_len,Int.toNat_natCast,List.take_left,List.length_append]
 rw[List.length_append,List.length_append]
 omega
theorem celP_cel {c:Cel}(h:cGood c=true)(hr:right c.2=true)(h0:c.2.kind≠0)(r:List UInt8):celP (celB c++r)=some (c,r):=by
 have hv:=hr
 obtain⟨i,a,n,b,s⟩:=c
 unfold cGood vGood at h
 simp only[Bool.and_eq_true,decide_eq_true_eq] at h
 obtain⟨g0,⟨⟨⟨g1,g2⟩,g3⟩,g4⟩⟩:=h
 simp only at g0 g1 g2 g3 g4 h0 hr
 unfold celP celB vlB
 simp only
 rw[List.append_assoc,getN_num g0]
 simp only
 rw[drop_len,List.append_assoc,getN_num g1]
 simp only
 rw[drop_len]
 unfold right at hr
 simp only at hr
 rw[if_neg h0] at hr
 by_cases h1:a=1
 ·subst h1
  rw[if_pos rfl,decide_eq_true_eq] at hr
  obtain⟨_,rfl,rfl⟩:=hr
  rw[if_neg (by omega),if_neg (by omega),if_pos (by omega),getN_num g2]
  simp only
  rw[if_neg (by omega),drop_len]
 rw[if_neg h1] at hr
 by_cases h2:a=2
 ·subst h2
  rw[if_pos rfl,decide_eq_true_eq] at hr
  obtain⟨rfl,rfl⟩:=hr
  rw[if_neg (by omega),if_neg (by omega),if_pos (by omega),getN_num g2]
  simp only
  rw[if_neg (by omega),drop_len]
 rw[if_neg h2] at hr
 by_cases h3:a=3
 ·subst h3
  rw[if_pos rfl,decide_eq_true_eq] at hr
  obtain⟨rfl,_⟩:=hr
  rw[if_neg (by omega),if_neg (by omega),if_neg (by omega),if_pos rfl,List.append_assoc,getN_num g3]
  simp only
  rw[if_pos trivial,drop_len,getN_num g2]
  simp only
  rw[drop_len]
 rw[if_neg h3] at hr
 have hz:(3<a∧a≤5)∧n=0∧b=0:=by
  by_cases h4:a=4
  ·rw[if_pos h4,Bool.and_eq_true,decide_eq_true_eq] at hr
   exact⟨by omega,hr.1.1,hr.1.2.1⟩
  ·rw[if_neg h4] at hr
   by_cases h5:a=5
   ·rw[if_pos h5,decide_eq_true_eq] at hr
    exact⟨by omega,hr.1,hr.2.1⟩
   ·rw[if_neg h5] at hr;cases hr
 obtain⟨h4,rfl,rfl⟩:=hz
 rw[if_neg (by omega),if_pos h4.1,if_neg (by omega),if_neg (by omega),getT_txt g4]
 simp only
 rw[drop_len]
theorem rowsP_cels:∀ (l:List Cel) (was:Int),l.all cGood=true→rowR was l=true→rowsP l.length (putC l)=some (l,[])
 |[],_,_,_=>rfl
 |c::l,was,h,hr=>by
  rw[List.all_cons,Bool.and_eq_true] at h
  rw[rowR] at hr
  rcases h1:(decide (c.1≤was)||c.2.kind==0) with _|_<;>rw[h1] at hr
  ·rw[cond_false] at hr
   rcases h2:right c.2 with _|_<;>rw[h2] at hr
   ·cases hr
   ·rw[cond_true] at hr
    rw[Bool.or_eq_false_iff] at h1
    show rowsP (l.length+1) (celB c++putC l)=_
    rw[rowsP,celP_cel h.1 h2 (beq_eq_false_iff_ne.1 h1.2),Option.bind_some,rowsP_cels l c.1 h.2 hr]
    rfl
  ·cases hr
theorem parseR_put {l:List Cel}(hl:l.length≤1000000)(h:l.all cGood=true)(hr:rowR (-1) l=true):parseR (putB l)=some l:=by
 unfold parseR putB
 rw[getN_num (by unfold rng;rw[decide_eq_true (by omega),decide_eq_true (by omega)];rfl)]
 simp only
 rw[if_neg (by omega),drop_len,Int.toNat_natCast,rowsP_cels l (-1) h hr,Option.bind_some,if_pos ⟨rfl,hr⟩]
end Go.Proofs.YthjmjoioagocdaaGreatDoor
end
section
set_option maxRecDepth 100000
namespace Go.Proofs.YthjmjoioagocdaaGreatDoor.TS
open Go.RowKit
def cnt (B:Ky→Bool)(l:List (Ky×Ky)):Nat:=(l.filter fun p=>B p.1).length
theorem cnt_ins_false {B:Ky→Bool}{k v:Ky}(h:B k=false):∀ l:List (Ky×Ky),cnt B (insK k v l)=cnt B l
 |[]=>by unfold cnt;rw[insK,List.filter_cons,if_neg (by rw[h];simp)]
 |p::l=>by
  have ih:=cnt_ins_false (v:=v) h l
  unfold cnt at ih ⊢
  rw[insK]
  split
  ·rename_i he
   have he:=eq_of_beq he
   rw[List.filter_cons,List.filter_cons,if_neg (by rw[h];simp),if_neg (by rw[he,h];simp)]
  ·split
   ·rw[List.filter_cons,if_neg (by rw[h];simp)]
   ·rw[List.filter_cons,List.filter_cons]
    split
    ·rw[List.length_cons,List.length_cons,ih]
    ·exact ih
theorem cnt_ins_new {B:Ky→Bool}{k v:Ky}:∀ l:List (Ky×Ky),(∀ p∈l,p.1≠k)→cnt B (insK k v l)=cnt B l+(if B k=true then 1 else 0)
 |[],_=>by
  unfold cnt
  rw[insK,List.filter_cons]
  split<;>rfl
 |p::l,h=>by
  have ih:=cnt_ins_new (B:=B) (v:=v) l fun q hq=>h q (List.mem_cons_of_mem _ hq)
  have hp:=h p List.mem_cons_self
  unfold cnt at ih ⊢
  rw[insK,if_neg (by rw[beq_eq_false_iff_ne.2 hp];simp)]
  split
  ·rw[List.filter_cons]
   split
   ·rw[List.length_cons]
   ·rfl
  ·rw[List.filter_cons,List.filter_cons]
   split
   ·rw[List.length_cons,List.length_cons,ih];omega
   ·exact ih
theorem getK_ins {β:Type} {k k':Ky} {v:β}:∀ l:List (Ky × β),getK k (insK k' v l)=if k'=k then some v else getK k l
  | []=>by
    unfold getK
    rw [insK,List.find?_cons]
    by_cases h:k'=k
    · rw [if_pos h,show (k' == k)=true from beq_iff_eq.2 h];rfl
    · rw [if_neg h,show (k' == k)=false from beq_eq_false_iff_ne.2 h]
  | p :: l=>by
    have ih:=getK_ins (k:=k) (k':=k') (v:=v) l
    unfold getK at ih ⊢
    rw [insK]
    split
    · rename_i he
      have he:=eq_of_beq he
      rw [List.find?_cons,List.find?_cons,he]
      by_cases h:k'=k
      · rw [if_pos h,show (k' == k)=true from beq_iff_eq.2 h];rfl
      · rw [if_neg h,show (k' == k)=false from beq_eq_false_iff_ne.2 h]
    · rename_i hne
      split
      · rw [List.find?_cons]
        by_cases h:k'=k
        · rw [if_pos h,show (k' == k)=true from beq_iff_eq.2 h];rfl
        · rw [if_neg h,show (k' == k)=false from beq_eq_false_iff_ne.2 h]
      · rw [List.find?_cons,List.find?_cons]
        by_cases h:k'=k
        · rw [if_pos h] at ih ⊢
          have:(p.1 == k)=false:=by
            rw [beq_eq_false_iff_ne]
            intro e
            exact hne (by rw [beq_iff_eq,e,h])
          rw [this]
          exact ih
        · rw [if_neg h] at ih ⊢
          cases hb:p.1 == k with
          | true=>rfl
          | false=>exact ih
def I64 (i:Int):Prop:=-9223372036854775808≤i∧i≤9223372036854775807
theorem keyL_inj {t i j:Int}(ht:I64 t)(hi:I64 i)(hj:I64 j)(h:keyL t i=keyL t j):i=j:=by
 have h1:=rowK_key ht hi
 rw[h,rowK_key ht hj] at h1
 injection h1 with _ h1
 injection h1 with h1 _
 exact h1.symm
structure RwOK (r:Rw):Prop where
 id:I64 r.1
 good:rwGd r=true
 right:rowR (-1) r.2.2=true
theorem RwOK.in64 {r:Rw}(h:RwOK r):∀ c∈r.2.2,c.2.in64:=by
 intro c hc
 have:=List.all_eq_true.1 (rwGd_sm h.good).2.2 c hc
 unfold cGood vGood at this
 simp only[Bool.and_eq_true] at this
 have:=this.2.1.1.2
 unfold rng at this
 simp only[Bool.and_eq_true,decide_eq_true_eq] at this
 exact this
theorem RwOK.vals {r:Rw}(h:RwOK r)(cols:List Int):∀ v∈valsOf cols r.2.2,okR v:=by
 have:=valsOf_ok (cols:=cols) h.right h.in64
 exact fun v hv=>this v hv
def entVs (x:Idx)(r:Rw):List Val:=numV 3::numV x.id::(valsOf x.cols r.2.2++[numV r.1])
theorem ent_get {x:Idx}(hx:I64 x.id){r:Rw}(h:RwOK r):getV (Go.Proofs.YthjmjoioagocdaaGreatDoor.encs (entVs x r))=some (entVs x r):=by
 have hv:=h.vals x.cols
 have hall:∀ v∈entVs x r,okR v:=by
  intro v hv'
  have hnum:∀ {n:Int},I64 n→okR (numV n):=fun hn=>⟨right_num _,hn⟩
  rcases List.mem_cons.1 hv' with rfl|hv'
  ·exact hnum (by unfold I64;omega)
  rcases List.mem_cons.1 hv' with rfl|hv'
  ·exact hnum hx
  rcases List.mem_append.1 hv' with hv' | hv'
  ·exact hv v hv'
  ·rw[List.mem_singleton] at hv'
   subst hv'
   exact hnum h.id
 rw[getV_encs _ fun v hv=>(hall v hv).2]
 congr 1
 refine (List.map_congr_left fun v hv=>?_).trans (List.map_id _)
 exact plain_right (hall v hv).1
theorem ent_inj {x:Idx}(hx:I64 x.id){r r':Rw}(h:RwOK r)(h':RwOK r')(e:entL 3 x.id x.cols r.2.2 r.1=entL 3 x.id x.cols r'.2.2 r'.1):r.1=r'.1:=by
 have e1:Go.Proofs.YthjmjoioagocdaaGreatDoor.encs (entVs x r)=Go.Proofs.YthjmjoioagocdaaGreatDoor.encs (entVs x r'):=by
  unfold entL at e
  injection e
 have h1:=ent_get hx h
 rw[e1,ent_get hx h'] at h1
 injection h1 with h1
 unfold entVs at h1
 injection h1 with _ h1
 injection h1 with _ h1
 have:=List.append_inj_right' h1 rfl
 injection this with this
 injection this with _ this
 exact this.symm
theorem last_app (a:Val):∀ (l:List Val) (d:Val),(l++[a]).getLastD d=a
 |[],_=>rfl
 |x::l,d=>by
  rw[List.cons_append,List.getLastD_cons]
  exact last_app a l x
theorem ent_parse {x:Idx}(hx:I64 x.id)(hc:1≤x.cols.length){r:Rw}(h:RwOK r):∃ q,parK (entL 3 x.id x.cols r.2.2 r.1)=(3,x.id,q,r.1,true):=by
 unfold parK mkV entL
 rw[cond_t (by rfl)]
 show ∃ q,parO (getV (Go.Proofs.YthjmjoioagocdaaGreatDoor.encs (entVs x r)))=_
 rw[ent_get hx h]
 have hl:=valsOf_len x.cols r.2.2
 unfold entVs
 rcases hv:valsOf x.cols r.2.2 with _|⟨c,vs⟩
 ·rw[hv] at hl
  have:([]:List Val).length=0:=rfl
  omega
 ·rw[List.cons_append]
  unfold parO
  simp only
  have hlast:(c::(vs++[numV r.1])).getLastD c=numV r.1:=by
   rw[List.getLastD_cons]
   exact last_app _ _ _
  rw[hlast,if_pos ⟨by simp,rfl,rfl,rfl⟩]
  exact⟨_,rfl⟩
theorem leK_pre_l {p s k:Ky}(h:leK (p++s) k=true):leK p k=true:=by
 have h1:=leK_app p s
 unfold leK at h h1 ⊢
 rw[Bool.not_eq_true'] at h h1 ⊢
 rcases hb:Op.bytesLess k p with _|_
 ·rfl
 ·have:=kl_lt_le hb h1
  rw[h] at this
  cases this
theorem less_above {p s k:Ky}(hp:aboveL p≠[])(h:Op.bytesLess k (p++s)=true):Op.bytesLess k (aboveL p)=true:=kl_trans h (lt_above p s hp)
theorem above_above {p s k:Ky}(hp:aboveL p≠[])(hs:aboveL (p++s)≠[])(h:Op.bytesLess k (aboveL (p++s))=true):Op.bytesLess k (aboveL p)=true:=by
 have h0:=lt_above p s hp
 have h1:=above_le (p++s) (aboveL p) hs (by unfold leK;rw[kl_asym h0];rfl) fun r e=>by
  have h2:=lt_above p (s++r) hp
  rw[← List.append_assoc,← e,kl_irr] at h2
  cases h2
 unfold leK at h1
 rw[Bool.not_eq_true'] at h1
 exact kl_lt_le h h1
theorem span_head {x:Idx}{r:Rng}(hf:fitS x r=true){k:Ky}(h:inBetween (spanS 3 x r) k=true):k.take 1=[105]:=by
 have hb:fromL 3 x.id r.eq=fromL 3 x.id []++Go.Proofs.YthjmjoioagocdaaGreatDoor.encs r.eq:=by
  have:=from_app 3 x.id [] r.eq
  rwa [List.nil_append] at this
 have h0:aboveL (fromL 3 x.id [])≠[]:=from_ne' _ _ _
 have hs:∀ s,aboveL (fromL 3 x.id []++s)≠[]:=fun s=>from_ne _ _ _ _
 unfold inBetween spanS at h
 rw[if_pos hf] at h
 simp only[Bool.and_eq_true] at h
 obtain⟨h1,h2⟩:=h
 have hlo:leK (fromL 3 x.id []) k=true:=by
  have hf0:leK (if 0<r.lo.length+r.hi.length then fromL 3 x.id r.eq++[1] else fromL 3 x.id r.eq) k=true→leK (fromL 3 x.id []) k=true:=by
   intro q
   rw[hb] at q
   split at q
   ·rw[List.append_assoc] at q;exact leK_pre_l q
   ·exact leK_pre_l q
  apply hf0
  rcases hl:r.lo with _|⟨v,t⟩
  ·rw[hl] at h1
   exact h1
  ·rw[hl] at h1
   simp only at h1
   split at h1
   ·rw[leK_max,leK_max] at h1
    simp only[Bool.and_eq_true] at h1
    exact h1.1.1
   ·rw[leK_max] at h1
    simp only[Bool.and_eq_true] at h1
    exact h1.1
 have hhi:Op.bytesLess k (aboveL (fromL 3 x.id []))=true:=by
  rw[hb] at h2
  rcases hl:r.hi with _|⟨v,t⟩
  ·rw[hl] at h2
   exact above_above h0 (hs _) h2
  ·rw[hl] at h2
   simp only at h2
   split at h2
   ·rw[List.append_assoc] at h2;exact less_above h0 h2
   ·rw[List.append_assoc] at h2;exact above_above h0 (hs _) h2
 have hsp:inSpan (fromL 3 x.id []) k=true:=by
  unfold inSpan
  rw[leK_or,hlo,hhi]
  rfl
 rw[span_iff h0] at hsp
 have:=of_decide_eq_true hsp
 have:=congrArg (List.take 1) this
 rw[List.take_take,Nat.min_eq_left (by unfold fromL;rw[List.length_cons];omega)] at this
 rw[this]
 rfl
abbrev ent (x:Idx)(r:Rw):Ky:=entL 3 x.id x.cols r.2.2 r.1
theorem ent_head (x:Idx)(r:Rw):(ent x r).take 1=[105]:=rfl
theorem stOne0 (i:Nat)(x:Idx)(r:Rw)(l:List (Ky×Ky)):stOne 0 i x r l=insK (ent x r) [] (insK (keyL 3 r.1) (putB r.2.2) l):=by
 unfold stOne stPut stV
 rw[if_pos (.inl rfl),if_neg (fun q=>absurd q.1 (by decide))]
theorem cnt_stAll {x:Idx}(hx:I64 x.id){B:Ky→Bool}(hB:∀ k,B k=true→k.take 1=[105]):∀ (rs:List Rw) (i:Nat) (l:List (Ky×Ky)),(∀ r∈rs,RwOK r)→rs.Pairwise (fun a b=>a.1≠b.1)→(∀ p∈l,∀ r∈rs,p.1≠ent x r) →
  cnt B (stAll 0 x i rs l)=cnt B l+(rs.filter fun r=>B (ent x r)).length
 |[],_,_,_,_,_=>rfl
 |r::rs,i,l,hr,hd,hn=>by
  have hd2:=List.pairwise_cons.1 hd
  have hk:B (keyL 3 r.1)=false:=by
   rcases h:B (keyL 3 r.1) with _|_
   ·rfl
   ·have:=hB _ h
    rw[show (keyL 3 r.1).take 1=[114] from rfl] at this
    exact absurd this (by decide)
  have hne:∀ {r':Rw},keyL 3 r.1≠ent x r':=by
   intro r' e
   have:=congrArg (List.take 1) e
   rw[ent_head,show (keyL 3 r.1).take 1=[114] from rfl] at this
   exact absurd this (by decide)
  rw[stAll,cnt_stAll hx hB rs (i+1) _ (fun q hq=>hr q (List.mem_cons_of_mem _ hq)) hd2.2 ?_,stOne0,cnt_ins_new _ ?_,cnt_ins_false hk,List.filter_cons]
  ·split
   ·rw[List.length_cons];omega
   ·rfl
  ·intro p hp
   rcases ins_mem hp with rfl|hp
   ·exact hne
   ·exact hn p hp r List.mem_cons_self
  ·intro p hp r' hr'
   rw[stOne0] at hp
   rcases ins_mem hp with rfl|hp
   ·exact fun e=>hd2.1 r' hr' (ent_inj hx (hr r List.mem_cons_self) (hr r' (List.mem_cons_of_mem _ hr')) e)
   ·rcases ins_mem hp with rfl|hp
    ·exact hne
    ·exact hn p hp r' (List.mem_cons_of_mem _ hr')
theorem get_stAll_ne {x:Idx}{id:Int}(hi:I64 id):∀ (rs:List Rw) (i:Nat) (l:List (Ky×Ky)),(∀ r∈rs,RwOK r∧r.1≠id)→getK (keyL 3 id) (stAll 0 x i rs l)=getK (keyL 3 id) l
 |[],_,_,_=>rfl
 |r::rs,i,l,h=>by
  have hr:=h r List.mem_cons_self
  rw[stAll,get_stAll_ne hi rs (i+1) _ fun q hq=>h q (List.mem_cons_of_mem _ hq),stOne0,getK_ins,if_neg,getK_ins,if_neg]
  ·exact fun e=>hr.2 (keyL_inj (by unfold I64;omega) hr.1.id hi e)
  ·intro e
   have:=congrArg (List.take 1) e
   rw[ent_head,show (keyL 3 id).take 1=[114] from rfl] at this
   exact absurd this (by decide)
theorem get_stAll {x:Idx}:∀ (rs:List Rw) (i:Nat) (l:List (Ky×Ky)),(∀ r∈rs,RwOK r)→rs.Pairwise (fun a b=>a.1≠b.1)→∀ r∈rs,getK (keyL 3 r.1) (stAll 0 x i rs l)=some (putB r.2.2)
 |[],_,_,_,_,r,hr=>by cases hr
 |q::rs,i,l,h,hd,r,hr=>by
  have hd2:=List.pairwise_cons.1 hd
  rw[stAll]
  rcases List.mem_cons.1 hr with rfl|hr
  ·rw[get_stAll_ne (h r List.mem_cons_self).id rs (i+1) _ fun q hq=>⟨h q (List.mem_cons_of_mem _ hq),fun e=>hd2.1 q hq e.symm⟩,stOne0,getK_ins,if_neg,getK_ins,if_pos rfl]
   intro e
   have:=congrArg (List.take 1) e
   rw[ent_head,show (keyL 3 r.1).take 1=[114] from rfl] at this
   exact absurd this (by decide)
  ·exact get_stAll rs (i+1) _ (fun q hq=>h q (List.mem_cons_of_mem _ hq)) hd2.2 r hr
theorem mem_stAll {x:Idx}:∀ (rs:List Rw) (i:Nat) (l:List (Ky×Ky)) (p:Ky×Ky),p∈stAll 0 x i rs l→(∃ r∈rs,p.1=ent x r)∨(∃ r∈rs,p.1=keyL 3 r.1)∨p∈l
 |[],_,_,p,h=>.inr (.inr h)
 |r::rs,i,l,p,h=>by
  rw[stAll] at h
  rcases mem_stAll rs (i+1) _ p h with ⟨q,hq,e⟩|⟨q,hq,e⟩|h
  ·exact .inl ⟨q,List.mem_cons_of_mem _ hq,e⟩
  ·exact .inr (.inl ⟨q,List.mem_cons_of_mem _ hq,e⟩)
  ·rw[stOne0] at h
   rcases ins_mem h with rfl|h
   ·exact .inl ⟨r,List.mem_cons_self,rfl⟩
   ·rcases ins_mem h with rfl|h
    ·exact .inr (.inl ⟨r,List.mem_cons_self,rfl⟩)
    ·exact .inr (.inr h)
theorem getR_of {X:PV}{l:List (Ky×PV)}(h:RootIs X l)(hl:l.length≤50000)(s:Ky):getR gGe X s=some (valP ((getK s l).getD (.str [])),hasK s l):=by
 have hvk:=h.vok
 rcases h with ⟨rfl,rfl⟩|⟨d,t,rfl,h1,h2,rfl,hv⟩
 ·rfl
 ·obtain⟨cs,e⟩:=enc_ptr d t
  have hdep:=gdP_dep (gdP_root h1 h2 hl)
  rw[e]
  show gGe cs s=_
  unfold gGe
  rw[← e,hdep,dec_enc hv,Option.bind_some,gdP_root h1 h2 hl,cond_true]
theorem getK_map (s:Ky):∀ l:List (Ky×Ky),getK s (l.map prV)=(getK s l).map PV.str
 |[]=>rfl
 |p::l=>by
  have ih:=getK_map s l
  unfold getK at ih ⊢
  rw[List.map_cons,List.find?_cons,List.find?_cons]
  show (match (p.1==s) with|true=>_|false=>_:Option (Ky×PV)).map _=_
  cases p.1==s with
  |true=>rfl
  |false=>exact ih
theorem ents_of {x:Idx}(hx:I64 x.id)(hc:1≤x.cols.length){rs:List Rw}(hr:∀ r∈rs,RwOK r){X:PV}(hg:∀ r∈rs,getR gGe X (keyL 3 r.1)=some (putB r.2.2,true)){B:Ky→Bool}:∀ l:List (Ky×Ky),(∀ p∈l,p.1.length≤100000)→(∀ p∈l,B p.1=true→∃ r∈rs,p.1=ent x r) →
  ∃ ys,entsL gParK gKeyK gGe goR 3 X ((l.map prV).filter fun p=>B p.1)=some ys∧ys.length=cnt B l∧∀ c∈ys,c.2=0
 |[],_,_=>⟨[],rfl,rfl,by intro c h;cases h⟩
 |p::l,hk,hB=>by
  obtain⟨ys,h1,h2,h3⟩:=ents_of hx hc hr hg (B:=B) l (fun q hq=>hk q (List.mem_cons_of_mem _ hq)) fun q hq=>hB q (List.mem_cons_of_mem _ hq)
  rw[List.map_cons,List.filter_cons]
  unfold cnt at h2 ⊢
  rw[List.filter_cons]
  show ∃ ys,entsL _ _ _ _ _ _ (if B p.1=true then prV p::_ else _)=_∧_
  rcases hb:B p.1 with _|_
  ·rw[if_neg (by simp),if_neg (by simp)]
   exact⟨ys,h1,h2,h3⟩
  ·rw[if_pos rfl,if_pos rfl]
   obtain⟨r,hm,e⟩:=hB p List.mem_cons_self hb
   obtain⟨q,hq⟩:=ent_parse hx hc (hr r hm)
   have hl:=hk p List.mem_cons_self
   have hrw:=hr r hm
   have hput:=(rwGd_sm hrw.good)
   have hput2:(putB r.2.2).length≤6009:=by
    have:=hrw.good
    unfold rwGd at this
    simp only[Bool.and_eq_true,decide_eq_true_eq] at this
    exact putB_len2 this.1.1 this.1.2 this.2
   refine⟨rowG r.1 (putB r.2.2)::ys,?_,by rw[List.length_cons,List.length_cons,h2],?_⟩
   ·rw[entsL]
    have e1:gParK (prV p).1=some (3,x.id,q,r.1,true):=by
     show gParK p.1=_
     unfold gParK
     rw[cond_t (decide_eq_true (by omega)),e,hq]
    rw[e1,Option.bind_some]
    simp only[Bool.not_true,cond_false]
    unfold entRow
    rw[show gKeyK 3 r.1=some (keyL 3 r.1) from rfl,Option.bind_some,hg r hm,Option.bind_some]
    simp only[Bool.not_true,cond_false]
    rw[show goR r.1 (putB r.2.2)=some (rowG r.1 (putB r.2.2)) from cond_t (decide_eq_true (by omega)),Option.bind_some,h1]
    rfl
   ·intro c hc'
    rcases List.mem_cons.1 hc' with rfl|hc'
    ·unfold rowG
     rw[parseR_put (by omega) hput.2.2 hrw.right]
    ·exact h3 c hc'
theorem listR_all:∀ ys:List (RowC×Int),(∀ c∈ys,c.2=0)→(listR ys).2=0∧(listR ys).1.length=ys.length
 |[],_=>⟨rfl,rfl⟩
 |c::ys,h=>by
  obtain⟨h1,h2⟩:=listR_all ys fun d hd=>h d (List.mem_cons_of_mem _ hd)
  rw[listR,if_pos (h c List.mem_cons_self)]
  exact⟨h1,by rw[List.length_cons,List.length_cons,h2]⟩
theorem esO_eq {rs:List Rw}{x:Idx}{r:Rng}(hx:I64 x.id)(hc:1≤x.cols.length)(hc6:x.cols.length≤6)(hr:∀ r∈rs,RwOK r)(hd:rs.Pairwise (fun a b=>a.1≠b.1))(hn:rs.length≤60)(hf:fitS x r=true)
  (hlen:r.eq.length≤1000∧r.lo.length≤1000∧r.hi.length≤1000) (he:∀ v∈r.eq,okR v) (hlo:∀ v∈r.lo,v.in64) (hhi:∀ v∈r.hi,v.in64) :
  ∃ ys,(∀ (R:Type) (K:List (RowC×Int)→Option R),esO (rootOf (storeS 0 x rs)) (idxC x) (rngC r) K=K ys)∧(listR ys).2=0∧(listR ys).1.length=(rs.filter fun q=>inS (valsOf x.cols q.2.2) r).length:=by
 have hg:rs.all rwGd=true:=List.all_eq_true.2 fun q hq=>(hr q hq).good
 have hek:=store_eok (sp:=0) hc6 hg (fun q hq=>(hr q hq).id)
 have hs:=store_srt (sp:=0) (x:=x) (rs:=rs)
 have hl:=store_len (sp:=0) (x:=x) (rs:=rs)
 have hroot:=(rootOf_spec ⟨by omega,hs⟩).1
 have hml:((storeS 0 x rs).map prV).length≤50000:=by rw[List.length_map];omega
 have hB:∀ k,inBetween (spanS 3 x r) k=true→k.take 1=[105]:=fun k h=>span_head hf h
 have hcnt:cnt (inBetween (spanS 3 x r)) (storeS 0 x rs)=(rs.filter fun q=>inS (valsOf x.cols q.2.2) r).length:=by
  have e1:inBetween (spanS 3 x r) [115]=false:=by
   rcases h:inBetween (spanS 3 x r) [115] with _|_
   ·rfl
   ·exact absurd (hB _ h) (by decide)
  have e2:inBetween (spanS 3 x r) (keyL 4 1)=false:=by
   rcases h:inBetween (spanS 3 x r) (keyL 4 1) with _|_
   ·rfl
   ·have:=hB _ h
    rw[show (keyL 4 1).take 1=[114] from rfl] at this
    exact absurd this (by decide)
  show cnt _ (stFin (stAll 0 x 0 rs []))=_
  unfold stFin
  rw[cnt_ins_false e1,cnt_ins_false e2,cnt_stAll hx hB rs 0 [] hr hd (by intro p hp;cases hp)]
  show 0+_=_
  rw[Nat.zero_add]
  congr 1
  refine List.filter_congr fun q hq=>?_
  exact span_in hf q.2.2 q.1 ((hr q hq).vals x.cols) he hlo hhi
 have hget:∀ q∈rs,getR gGe (rootOf (storeS 0 x rs)) (keyL 3 q.1)=some (putB q.2.2,true):=by
  intro q hq
  have hgk:getK (keyL 3 q.1) (storeS 0 x rs)=some (putB q.2.2):=by
   show getK _ (stFin (stAll 0 x 0 rs []))=_
   unfold stFin
   rw[getK_ins,if_neg,getK_ins,if_neg,get_stAll rs 0 [] hr hd q hq]
   ·intro e
    have h1:=rowK_key (t:=4) (i:=1) (by omega) (by omega)
    rw[e,rowK_key (by omega) (hr q hq).id] at h1
    injection h1 with h1 _
    exact absurd h1 (by decide)
   ·intro e
    have:=congrArg (List.take 1) e
    rw[show (keyL 3 q.1).take 1=[114] from rfl] at this
    exact absurd this (by decide)
  rw[getR_of hroot hml,← get_has,getK_map,hgk]
  rfl
 have hmem:∀ p∈storeS 0 x rs,inBetween (spanS 3 x r) p.1=true→∃ q∈rs,p.1=ent x q:=by
  intro p hp hb
  have hh:=hB _ hb
  rcases ins_mem hp with rfl|hp
  ·exact absurd hh (by decide)
  rcases ins_mem hp with rfl|hp
  ·rw[show (keyL 4 1).take 1=[114] from rfl] at hh
   exact absurd hh (by decide)
  rcases mem_stAll rs 0 [] p hp with h|⟨q,_,e⟩|h
  ·exact h
  ·rw[e,show (keyL 3 q.1).take 1=[114] from rfl] at hh
   exact absurd hh (by decide)
  ·cases h
 obtain⟨ys,h1,h2,h3⟩:=ents_of hx hc hr hget (B:=inBetween (spanS 3 x r)) (storeS 0 x rs) (fun p hp=>(hek p hp).k) hmem
 obtain⟨q1,q2⟩:=listR_all ys h3
 refine⟨ys,?_,q1,by rw[q2,h2,hcnt]⟩
 intro R K
 have hyl:ys.length≤1000000:=by
  have:=List.length_filter_le (fun p:Ky×Ky=>inBetween (spanS 3 x r) p.1) (storeS 0 x rs)
  unfold cnt at h2
  omega
 unfold esO
 rw[spanO_eq hlen,gRf_of hroot hml,Option.bind_some]
 unfold entsB
 rcases hlt:Op.bytesLess (spanS 3 x r).1 (spanS 3 x r).2 with _|_
 ·rw[Bool.not_false,cond_true,Option.bind_some]
  have hno:∀ k,inBetween (spanS 3 x r) k=false:=by
   intro k
   unfold inBetween leK
   rcases ha:Op.bytesLess k (spanS 3 x r).1 with _|_
   ·rcases hb:Op.bytesLess k (spanS 3 x r).2 with _|_
    ·rfl
    ·have:=kl_le_lt ha hb
     rw[hlt] at this
     cases this
   ·rfl
  have:((storeS 0 x rs).map prV).filter (fun p=>inBetween (spanS 3 x r) p.1)=[]:=List.filter_eq_nil_iff.2 fun p _=>by rw[hno];simp
  rw[this] at h1
  injection h1 with h1
  subst h1
  rfl
 ·have ht:(spanS 3 x r).2≠[]:=by
   intro e
   rw[e,less_nil] at hlt
   cases hlt
  rw[Bool.not_true,cond_false,gRf_of hroot hml,Option.bind_some,tw_inB (prV_srt hs) _ ht]
  have:(fun p:Ky×PV=>inB (spanS 3 x r).1 (spanS 3 x r).2 p.1)=fun p=>inBetween (spanS 3 x r) p.1:=rfl
  rw[this,h1,Option.bind_some,cond_t (decide_eq_true hyl)]
def vR1 (v:Val):Rng:=⟨some true,[],some true,[],false,some false,[v],true⟩
def vR2 (v:Val):Rng:=⟨some false,[v],some true,[],false,some true,[],false⟩
def vR3 (v:Val):Rng:=⟨some true,[],some false,[v],true,some true,[],false⟩
theorem enc_inj {v w:Val}(hv:okR v)(hw:okR w)(h:Go.Proofs.YthjmjoioagocdaaGreatDoor.enc v=Go.Proofs.YthjmjoioagocdaaGreatDoor.enc w):v=w:=by
 have e:∀ u:Val,okR u→getV (Go.Proofs.YthjmjoioagocdaaGreatDoor.enc u)=some [u]:=by
  intro u hu
  have:=getV_encs [u] (fun y hy=>by rw[List.mem_singleton] at hy;subst hy;exact hu.2)
  rw[List.map_cons,List.map_nil,plain_right hu.1] at this
  rw[← this]
  simp[Go.Proofs.YthjmjoioagocdaaGreatDoor.encs]
 have h1:=e v hv
 rw[h,e w hw] at h1
 injection h1 with h1
 injection h1 with h1 _
 exact h1.symm
theorem one_of {v w:Val}(hv:okR v)(h0:v.kind≠0)(hw:okR w)(vs:List Val) :
  (inS (w::vs) (vR1 v)).toNat+(inS (w::vs) (vR2 v)).toNat+(inS (w::vs) (vR3 v)).toNat+(inS (w::vs) (vR2 vnull)).toNat=1:=by
 have e1:inS (w::vs) (vR1 v)=(!(w.kind==0)&&!(decide (0<txtL (Go.Proofs.YthjmjoioagocdaaGreatDoor.enc w) (Go.Proofs.YthjmjoioagocdaaGreatDoor.enc v))||(decide (txtL (Go.Proofs.YthjmjoioagocdaaGreatDoor.enc w) (Go.Proofs.YthjmjoioagocdaaGreatDoor.enc v)=0)))):=by
  show (decide ((w::vs).take 0=[])&&(!(w.kind==0)&&(true&&!(_||(_&&true)))))=_
  simp
 have e3:inS (w::vs) (vR3 v)=(!(w.kind==0)&&!(decide (txtL (Go.Proofs.YthjmjoioagocdaaGreatDoor.enc w) (Go.Proofs.YthjmjoioagocdaaGreatDoor.enc v)<0)||(decide (txtL (Go.Proofs.YthjmjoioagocdaaGreatDoor.enc w) (Go.Proofs.YthjmjoioagocdaaGreatDoor.enc v)=0)))):=by
  show (decide ((w::vs).take 0=[])&&(!(w.kind==0)&&(!(_||(_&&true))&&true)))=_
  simp
 have e2:∀ u,inS (w::vs) (vR2 u)=decide (w=u):=by
  intro u
  show (decide ((w::vs).take 1=[u])&&true)=_
  simp
 rw[e1,e3,e2,e2]
 by_cases hk:w.kind=0
 ·have hwn:w=vnull:=by
   have:=hw.1
   unfold Go.Proofs.YthjmjoioagocdaaGreatDoor.right at this
   rw[if_pos hk] at this
   obtain⟨a,n,b,s⟩:=w
   simp only[decide_eq_true_eq] at this hk
   obtain⟨rfl,rfl,rfl⟩:=this
   rw[hk]
   rfl
  have hne:w≠v:=by rintro rfl;exact h0 hk
  rw[decide_eq_false hne,decide_eq_true hwn,hk]
  rfl
 ·have hne:w≠vnull:=by rintro rfl;exact hk rfl
  rw[decide_eq_false hne,beq_eq_false_iff_ne.2 hk]
  rcases one_cmp hw hv.2 [] with ⟨h1,h2⟩|⟨z,h1,h2⟩
  ·rw[h1,decide_eq_true (enc_inj hw hv h2)]
   rfl
  ·have hz:=h1.ne
   have hwv:w≠v:=by
    rintro rfl
    rw[txt_self] at h2
    exact hz h2.symm
   rw[h2,decide_eq_false hwv,decide_eq_false hz]
   by_cases hp:0<z
   ·rw[decide_eq_true hp,decide_eq_false (show ¬ z<0 by omega)];rfl
   ·rw[decide_eq_false hp,decide_eq_true (show z<0 by omega)];rfl
theorem four_len {α:Type}{a b c d:α→Bool}:∀ l:List α,(∀ x∈l,(a x).toNat+(b x).toNat+(c x).toNat+(d x).toNat=1)→(l.filter a).length+(l.filter b).length+(l.filter c).length+(l.filter d).length=l.length
 |[],_=>rfl
 |x::l,h=>by
  have ih:=four_len l fun y hy=>h y (List.mem_cons_of_mem _ hy)
  have hx:=h x List.mem_cons_self
  simp only[List.filter_cons]
  have e:∀ p:α→Bool,(if p x=true then x::l.filter p else l.filter p).length=(p x).toNat+(l.filter p).length:=by
   intro p
   cases p x
   ·simp
   ·simp;omega
  rw[e,e,e,e,List.length_cons]
  omega
theorem rw_take:∀ (rs:List Rw) (i:Nat),(rs.flatMap rwC).take (i * 2)=(rs.take i).flatMap rwC
 |[],i=>by simp
 |r::rs,0=>by simp
 |r::rs,i+1=>by
  rw[List.flatMap_cons,List.take_succ_cons,List.flatMap_cons,← rw_take rs i]
  show ([PV.int .i64 r.1,.sl r.2.1 5 r.2.2.length (celsC r.2.2)]++rs.flatMap rwC).take ((i+1) * 2)=[PV.int .i64 r.1,.sl r.2.1 5 r.2.2.length (celsC r.2.2)]++_
  rw[show (i+1) * 2=i * 2+1+1 by omega]
  rfl
section
variable (fu:Nat) {x:Idx} {v:Val} (nl:Option Bool) (rs:List Rw)
theorem qI_loop (K:St→Option PV)(hn:rs.length≤60){r:Rw}(i:Nat)(hi:i≤rs.length):∀ (k j n:Nat),j+k=i→k<n →
  qI fu K n (frQI (idxC x) (V4.cs v) nl rs.length (rs.flatMap rwC) (rs.length:Int) (i:Int) r.1 r.2.1 r.2.2.length (celsC r.2.2) i ((rs.flatMap rwC).take (i * 2)) (i:Int) (j:Int)) =
   if (∃ q∈(rs.take i).drop j,q.1=r.1) then some (.bool true) else K (frQ (idxC x) (V4.cs v) nl rs.length (rs.flatMap rwC) (rs.length:Int) (IntKind.i64.wrap ((i:Int)+1)))
 |k,j,0,_,h=>by omega
 |0,j,n+1,hj,hk=>by
  unfold qI
  rw[loopP_succ]
  refine (qI_step fu x.id x.name x.nl x.cols.length (colC x.cols) x.u x.st nl rs.length (rs.flatMap rwC) v.kind v.n v.scale v.s (rs.length:Int) (i:Int) r.1 r.2.1 r.2.2.length (celsC r.2.2) i _ (i:Int) (j:Int) K _).trans ?_
  have hl:(rs.take i).length=i:=by rw[List.length_take];omega
  rw[cond_f (decide_eq_false (by omega)),List.drop_of_length_le (by omega),if_neg (by rintro ⟨q,hq,_⟩;cases hq)]
  rfl
 |k+1,j,n+1,hj,hk=>by
  have hl:(rs.take i).length=i:=by rw[List.length_take];omega
  have hc:=List.getElem?_eq_getElem (l:=rs.take i) (i:=j) (by omega)
  have ih:=qI_loop K hn (r:=r) i hi k (j+1) n (by omega) (by omega)
  rw[List.drop_eq_getElem_cons (show j<(rs.take i).length by omega)]
  generalize (rs.take i)[j]=q at hc
  have hx:=@ixW_eq PV (rs.take i) j q (fun q' _ _ _=>bif q'==r.1 then some (.bool true) else qI fu K n (frQI (idxC x) (V4.cs v) nl rs.length (rs.flatMap rwC) (rs.length:Int) (i:Int) r.1 r.2.1 r.2.2.length (celsC r.2.2) i ((rs.flatMap rwC).take (i * 2)) (i:Int) (IntKind.i64.wrap ((j:Int)+1)))) hc
  rw[hl,← rw_take] at hx
  unfold qI at ih hx ⊢
  rw[loopP_succ]
  refine (qI_step fu x.id x.name x.nl x.cols.length (colC x.cols) x.u x.st nl rs.length (rs.flatMap rwC) v.kind v.n v.scale v.s (rs.length:Int) (i:Int) r.1 r.2.1 r.2.2.length (celsC r.2.2) i _ (i:Int) (j:Int) K _).trans ?_
  rw[cond_t (decide_eq_true (by omega))]
  refine hx.trans ?_
  by_cases he:q.1=r.1
  ·rw[cond_t (beq_iff_eq.2 he),if_pos ⟨q,List.mem_cons_self,he⟩]
  ·rw[cond_f (beq_eq_false_iff_ne.2 he),wrapI_of (x:=(j:Int)+1) (by omega) (by omega)]
   refine ih.trans ?_
   congr 1
   simp only[List.mem_cons,exists_eq_or_imp,eq_iff_iff]
   constructor
   ·exact fun h=>.inr h
   ·exact fun h=>h.elim (fun e=>absurd e he) id
theorem ixQ4 {R:Type}(K:Option Bool→Nat→List PV→Option Bool→Nat→List PV→Bool→Option Bool→Nat→List PV→Bool→Option R) :
  ixQ 4 (cs4 (V4.cs v)) 0 K=K (some true) 0 [] (some true) 0 [] false (some false) 1 (V4.cs v) true∧ixQ 4 (cs4 (V4.cs v)) 1 K=K (some false) 1 (V4.cs v) (some true) 0 [] false (some true) 0 [] false ∧
  ixQ 4 (cs4 (V4.cs v)) 2 K=K (some true) 0 [] (some false) 1 (V4.cs v) true (some true) 0 [] false∧ixQ 4 (cs4 (V4.cs v)) 3 K=K (some false) 1 (V4.cs vnull) (some true) 0 [] false (some true) 0 [] false:=⟨rfl,rfl,rfl,rfl⟩
theorem v1C:valsC [v]=V4.cs v:=by unfold valsC;simp
theorem q_end (hx:I64 x.id)(hc:1≤x.cols.length)(hc6:x.cols.length≤6)(hv:okR v)(h0:v.kind≠0)(hr:∀ r∈rs,RwOK r)(hd:rs.Pairwise (fun a b=>a.1≠b.1))(hn:rs.length≤60)(hfu:9<fu) :
  (stO rs.length (rs.flatMap rwC) (idxC x) 0 fun l=>ldO l.length (prsC l) fun y=>q4 fu fu (fr4 129 (idxC x) y nl rs.length (rs.flatMap rwC) 0 (cs4 (V4.cs v)) 4 0))=some (.bool true):=by
 have hg:rs.all rwGd=true:=List.all_eq_true.2 fun q hq=>(hr q hq).good
 rw[stO_eq (by omega) hc6 hn hg,ldO_eq (by have:=store_len (sp:=0) (x:=x) (rs:=rs);omega) store_srt]
 have hroot:=(rootOf_spec ⟨by have:=store_len (sp:=0) (x:=x) (rs:=rs);omega,store_srt (sp:=0) (x:=x) (rs:=rs)⟩).1.isR
 have hnul:okR vnull:=⟨right_null,by show (-9223372036854775808:Int)≤0∧(0:Int)≤9223372036854775807;omega⟩
 have fit1:∀ {r:Rng},bndS r≤1→fitS x r=true:=fun h=>decide_eq_true (Nat.le_trans h hc)
 obtain⟨y1,a1,b1,c1⟩:=esO_eq (r:=vR1 v) hx hc hc6 hr hd hn (fit1 (Nat.le_refl _)) ⟨Nat.le_of_ble_eq_true rfl,Nat.le_of_ble_eq_true rfl,Nat.le_of_ble_eq_true rfl⟩ (by intro u hu;cases hu) (by intro u hu;cases hu) (by intro u hu;rw[List.mem_singleton.1 hu];exact hv.2)
 obtain⟨y2,a2,b2,c2⟩:=esO_eq (r:=vR2 v) hx hc hc6 hr hd hn (fit1 (Nat.le_refl _)) ⟨Nat.le_of_ble_eq_true rfl,Nat.le_of_ble_eq_true rfl,Nat.le_of_ble_eq_true rfl⟩ (by intro u hu;rw[List.mem_singleton.1 hu];exact hv) (by intro u hu;cases hu) (by intro u hu;cases hu)
 obtain⟨y3,a3,b3,c3⟩:=esO_eq (r:=vR3 v) hx hc hc6 hr hd hn (fit1 (Nat.le_refl _)) ⟨Nat.le_of_ble_eq_true rfl,Nat.le_of_ble_eq_true rfl,Nat.le_of_ble_eq_true rfl⟩ (by intro u hu;cases hu) (by intro u hu;rw[List.mem_singleton.1 hu];exact hv.2) (by intro u hu;cases hu)
 obtain⟨y4,a4,b4,c4⟩:=esO_eq (r:=vR2 vnull) hx hc hc6 hr hd hn (fit1 (Nat.le_refl _)) ⟨Nat.le_of_ble_eq_true rfl,Nat.le_of_ble_eq_true rfl,Nat.le_of_ble_eq_true rfl⟩ (by intro u hu;rw[List.mem_singleton.1 hu];exact hnul) (by intro u hu;cases hu) (by intro u hu;cases hu)
 obtain⟨y5,a5,b5,c5⟩:=esO_eq (r:=zRngR) hx hc hc6 hr hd hn (fit1 (Nat.zero_le _)) ⟨Nat.le_of_ble_eq_true rfl,Nat.le_of_ble_eq_true rfl,Nat.le_of_ble_eq_true rfl⟩ (by intro u hu;cases hu) (by intro u hu;cases hu) (by intro u hu;cases hu)
 have hsum:(listR y1).1.length+(listR y2).1.length+(listR y3).1.length+(listR y4).1.length=rs.length:=by
  rw[c1,c2,c3,c4]
  refine four_len rs fun q hq=>?_
  have hvs:=(hr q hq).vals x.cols
  have hl:=valsOf_len x.cols q.2.2
  generalize valsOf x.cols q.2.2=vs at hvs hl
  match vs,hvs,hl with
  |[],_,hl =>
   have:([]:List Val).length=0:=rfl
   omega
  |w::t,hvs,_=>exact one_of hv h0 (hvs w List.mem_cons_self) t
 have hall:(listR y5).1.length=rs.length:=by
  rw[c5]
  congr 1
  exact List.filter_eq_self.2 fun q _=>rfl
 obtain⟨n,rfl⟩:∃ n,fu=n+9:=⟨fu-9,by omega⟩
 generalize rootOf (storeS 0 x rs)=X at hroot a1 a2 a3 a4 a5
 have step0:=fun k K=>q4_step0 (n+9) x.id x.name x.nl x.cols.length (colC x.cols) x.u x.st hroot nl rs.length (rs.flatMap rwC) k (cs4 (V4.cs v)) 4 0 K
 have step1:=fun k K=>q4_step1 (n+9) x.id x.name x.nl x.cols.length (colC x.cols) x.u x.st hroot nl rs.length (rs.flatMap rwC) k (cs4 (V4.cs v)) 4 1 K
 have step2:=fun k K=>q4_step2 (n+9) x.id x.name x.nl x.cols.length (colC x.cols) x.u x.st hroot nl rs.length (rs.flatMap rwC) k (cs4 (V4.cs v)) 4 2 K
 have step3:=fun k K=>q4_step3 (n+9) x.id x.name x.nl x.cols.length (colC x.cols) x.u x.st hroot nl rs.length (rs.flatMap rwC) k (cs4 (V4.cs v)) 4 3 K
 have step4:=fun k K=>q4_step4 (n+9) x.id x.name x.nl x.cols.length (colC x.cols) x.u x.st hroot nl rs.length (rs.flatMap rwC) k (cs4 (V4.cs v)) K
 have es1:=fun K=>a1 PV K
 have es2:=fun K=>a2 PV K
 have es3:=fun K=>a3 PV K
 have es4:=fun K=>a4 PV K
 have es5:=fun K=>a5 PV K
 have w:∀ a:Int,0≤a→a≤1000→IntKind.i64.wrap a=a:=fun a h1 h2=>wrapI_of (by omega) (by omega)
 unfold q4
 rw[loopF_succ]
 refine (step0 0 _).trans ?_
 rw[cond_t (by rfl)]
 refine ((ixQ4 (v:=v) _).1).trans ?_
 rw[← v1C]
 refine (es1 _).trans ?_
 rw[b1,cond_f (by rfl),w _ (by omega) (by omega),w _ (by omega) (by omega),v1C,loopF_succ]
 refine (step1 _ _).trans ?_
 rw[cond_t (by rfl)]
 refine ((ixQ4 (v:=v) _).2.1).trans ?_
 rw[← v1C]
 refine (es2 _).trans ?_
 rw[b2,cond_f (by rfl),w _ (by omega) (by omega),w _ (by omega) (by omega),v1C,loopF_succ]
 refine (step2 _ _).trans ?_
 rw[cond_t (by rfl)]
 refine ((ixQ4 (v:=v) _).2.2.1).trans ?_
 rw[← v1C]
 refine (es3 _).trans ?_
 rw[b3,cond_f (by rfl),w _ (by omega) (by omega),w _ (by omega) (by omega),v1C,loopF_succ]
 refine (step3 _ _).trans ?_
 rw[cond_t (by rfl)]
 refine ((ixQ4 (v:=v) _).2.2.2).trans ?_
 rw[← v1C (v:=vnull)]
 refine (es4 _).trans ?_
 rw[b4,cond_f (by rfl),w _ (by omega) (by omega),w _ (by omega) (by omega),loopF_succ]
 refine (step4 _ _).trans ?_
 refine (es5 _).trans ?_
 rw[b5,cond_t (by rfl),hall,cond_t (beq_iff_eq.2 (by omega))]
 congr 2
 exact beq_iff_eq.2 (by omega)
theorem q_loop (hx:I64 x.id)(hc:1≤x.cols.length)(hc6:x.cols.length≤6)(hv:okR v)(h0:v.kind≠0)(hi64:∀ r∈rs,I64 r.1)(hg:rs.all rwGd=true)(hn:rs.length≤60)(hfu:70<fu):∀ (k i n:Nat),i+k=rs.length→k<n →
  (∀ r∈rs.take i,RwOK r)→(rs.take i).Pairwise (fun a b=>a.1≠b.1)→qLoop fu n (frQ (idxC x) (V4.cs v) nl rs.length (rs.flatMap rwC) (rs.length:Int) (i:Int))=some (.bool true)
 |k,i,0,_,h,_,_=>by omega
 |0,i,n+1,hi,hk,hr,hd=>by
  unfold qLoop
  rw[loopF_succ]
  refine (sq_step fu x.id x.name x.nl x.cols.length (colC x.cols) x.u x.st nl rs.length (rs.flatMap rwC) v.kind v.n v.scale v.s (rs.length:Int) (i:Int) _).trans ?_
  rw[List.take_of_length_le (by omega)] at hr hd
  rw[cond_f (decide_eq_false (by omega))]
  exact q_end fu nl rs hx hc hc6 hv h0 hr hd hn (by omega)
 |k+1,i,n+1,hi,hk,hr,hd=>by
  have hcc:=List.getElem?_eq_getElem (l:=rs) (i:=i) (by omega)
  have hm:=List.getElem_mem (l:=rs) (n:=i) (by omega)
  have hgr:=List.all_eq_true.1 hg _ hm
  have hir:=hi64 _ hm
  have htk:rs.take (i+1)=rs.take i++[rs[i]]:=by rw[List.take_add_one,hcc];rfl
  generalize rs[i]=r at hcc hm hgr hir htk
  have ih:=q_loop hx hc hc6 hv h0 hi64 hg hn hfu k (i+1) n (by omega) (by omega)
  have hin:=qI_loop fu (x:=x) (v:=v) nl rs (loopF enQ hQ fu false fQs [1,1,1,0,1,0] 0 n) hn (r:=r) i (by omega) i 0 fu (by omega) (by omega)
  unfold qLoop at ih ⊢
  rw[loopF_succ]
  refine (sq_step fu x.id x.name x.nl x.cols.length (colC x.cols) x.u x.st nl rs.length (rs.flatMap rwC) v.kind v.n v.scale v.s (rs.length:Int) (i:Int) _).trans ?_
  rw[cond_t (decide_eq_true (by omega)),ixW_eq hcc]
  have hsm:r.2.2.length≤20∧r.2.2.all celSm=true:=by
   unfold rwGd at hgr
   simp only[Bool.and_eq_true,decide_eq_true_eq] at hgr
   exact hgr.1
  rw[rrO_eq hsm.1 hsm.2]
  rcases hrr:rowR (-1) r.2.2 with _|_
  ·rfl
  ·rw[Bool.not_true,cond_false]
   unfold slO
   rw[cond_t (by rw[decide_eq_true (by omega),decide_eq_true (by omega)];rfl),Int.toNat_natCast]
   refine hin.trans ?_
   rw[List.drop_zero]
   by_cases he:∃ q∈rs.take i,q.1=r.1
   ·rw[if_pos he]
   ·rw[if_neg he,wrapI_of (by omega) (by omega)]
    refine ih ?_ ?_
    ·rw[htk]
     intro q hq
     rcases List.mem_append.1 hq with hq|hq
     ·exact hr q hq
     ·rw[List.mem_singleton] at hq
      subst hq
      exact⟨hir,hgr,hrr⟩
    ·rw[htk,List.pairwise_append]
     refine⟨hd,List.pairwise_singleton _ _,?_⟩
     intro a ha b hb e
     rw[List.mem_singleton] at hb
     subst hb
     exact he ⟨a,ha,e⟩
end
theorem sq_true {rs:List Rw}(pr:∀ r∈rs,PRw r){x:Idx}(px:PIdx x){v:Val}(pv:PVal v):∃ fuel,prun enQ hQ fuel false fQs [.sl none 2 rs.length (rs.flatMap rwC),.agg (idxC x),.agg (V4.cs v)]=some (.bool true):=by
 refine⟨80,(sq_raw 80 x.id x.name x.nl x.cols.length (colC x.cols) x.u x.st none rs.length (rs.flatMap rwC) v.kind v.n v.scale v.s).trans ?_⟩
 have e:lgO3 rs.length (rs.flatMap rwC) (idxC x) [vS (V4.cs v),zS,.bool false,zS,.bool false]=fun (K:Bool→Option PV)=>K (longS rs x (vR2 v)):=by
  funext K
  unfold lgO3
  rw[decG_of rwC_len rwG_of,Option.bind_some,idxG_of,Option.bind_some]
  have:rngG [vS (V4.cs v),zS,.bool false,zS,.bool false]=some (vR2 v):=by
   have:=rngG_of (vR2 v)
   rw[← this]
   show _=rngG [.sl (some false) 4 1 (valsC [v]),zS,.bool false,zS,.bool false]
   rw[v1C]
   rfl
  rw[this,Option.bind_some]
 refine (congrFun e _).trans ?_
 rcases hl:longS rs x (vR2 v) with _|_
 rotate_left
 ·rfl
 obtain⟨h1,h2,-,-,-,h6,-⟩:=longS_not hl
 unfold smS at h1
 rw[Bool.and_eq_true,decide_eq_true_eq] at h1
 have hg:=rows_good h1.2 pr
 simp only[cond_false]
 rcases hz:((x.cols.length:Int)==0) with _|_
 rotate_left
 ·rfl
 rcases hk:(v.kind==0) with _|_
 rotate_left
 ·rfl
 simp only[cond_false,Bool.not_false,cond_true]
 have hs:v.s.length≤1000000:=by have:=h6 v List.mem_cons_self;omega
 rw[p5O_eq hs (pv_in64 pv)]
 rcases hq:eqV4 v.kind v.n v.scale v.s (Go.Proofs.YthjmjoioagocdaaGreatDoor.plain v) with _|_
 ·rfl
 ·have ev:=eqV4_iff.1 hq
  have hri:Go.Proofs.YthjmjoioagocdaaGreatDoor.right v=true:=by rw[ev];exact right_plain _
  rw[Bool.not_true,cond_false]
  have hcl:1≤x.cols.length:=by
   have:=beq_eq_false_iff_ne.1 hz
   omega
  exact q_loop 80 none rs px.1 hcl h2 ⟨hri,pv_in64 pv⟩ (beq_eq_false_iff_ne.1 hk) (fun r hr=>(pr r hr).1) hg h1.1 (by omega) rs.length 0 80 (by omega) (by omega) (by simp) (by simp)
end Go.Proofs.YthjmjoioagocdaaGreatDoor.TS
end
