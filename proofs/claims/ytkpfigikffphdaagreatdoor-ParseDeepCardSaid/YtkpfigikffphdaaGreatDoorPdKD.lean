/-
  Lemmas, part K4: what the claim needs of the texts of wip/tpl.
-/
import Derived.Lib.AppendZerosOnto
import Derived.Lib.SliceRun
import Derived.Shelf.RegionOpenPlain
import Derived.Test.YtkpfigikffphdaaGreatDoorCards
import Derived.Test.YtkpfigikffphdaaGreatDoorTie
import Derived.ProofKit
import Derived.OpenShut
import Derived.Deep.DeepHandedRow
import Derived.Lib.LaidU8
import Derived.Lib.LaidTab
import Derived.Stop.LaidErr
import Derived.ChangeMaps5
import Derived.Shelf.Vars
import Derived.Deep.DeepLaidRun
import Derived.Test.YtkpfigikffphdaaGreatDoorPdKC
set_option linter.unusedVariables false
set_option linter.unusedSimpArgs false
section
set_option maxRecDepth 100000
namespace Go.Proofs.YtkpfigikffphdaaGreatDoor
open Go.RowKit
structure SlS where
 nl:Option Bool
 n:Nat
 c:List PV
def SlS.pv (z:Nat)(l:SlS):PV:=.sl l.nl z l.n l.c
def SlS.nil:SlS:=⟨some true,0,[]⟩
def SlS.put (l:SlS)(c:List PV):SlS:=⟨l.nl.map (· && false),l.n+1,l.c++c⟩
def SlS.one (c:List PV):SlS:=⟨some false,1,c⟩
structure IR where
 x:XR
 n:List UInt8
def IR.cells (i:IR):List PV:=i.x.cells++[.str i.n]
structure OR where
 x:XR
 d:Bool
def OR.cells (i:OR):List PV:=i.x.cells++[.bool i.d]
structure SoR where
 t:List UInt8
 n:List UInt8
def SoR.cells (i:SoR):List PV:=[.str i.t,.str i.n]
structure SR where
 k:Int
 tb:List UInt8
 nm:List UInt8
 un:Bool
 ns:SlS
 cs:SlS
 rs:SlS
 us:SlS
 wh:SlS
 it:SlS
 fr:SlS
 on:SlS
 gr:SlS
 od:SlS
 lim:Int
def SR.cells (s:SR):List PV:=[.int .i64 s.k,.str s.tb,.str s.nm,.bool s.un,s.ns.pv 1,s.cs.pv 10,s.rs.pv 1,s.us.pv 14,s.wh.pv 13,s.it.pv 14,s.fr.pv 2,s.on.pv 13,s.gr.pv 13,s.od.pv 14,.int .i64 s.lim]
def SR.zero:SR:=⟨0,[],[],false,.nil,.nil,.nil,.nil,.nil,.nil,.nil,.nil,.nil,.nil,0⟩
section
variable {NG:Nat} {W:World→Prop}
def tSSt (f:PS→Option (SR×PS)):HFn:=⟨fun bs xs k=>match xs with|[.ptr 0 0]=>onPS bs fun s=>(f s).bind fun r=>k [r.2.box] (.agg r.1.cells)|_=>none⟩
theorem tSSt_nat (f:PS→Option (SR×PS)):(tSSt f).nat:=by
 intro R bs xs k
 simp only[tSSt]
 split
 ·simp only[onPS_bind,onXR_bind,iteo_bind,Option.bind_assoc,Option.bind_some]
 ·rfl
theorem hok_tSSt (hW:WOK NG W){l:List (FuncId×PFn)}(hl:AllOK NG W l){lh:List (FuncId×HFn)}(hh:AllH NG W lh){h:Hints}{f:FuncId}{fn:Func}(hf:Tryz.prog.funcs[f]? = some fn)(hb:fn.body.isSome=true)(hname:fn.name ≠ "runtime.NumGoroutine"){g:PS→Option (SR×PS)}(hr:∀ s  r,g s=some r→∃ fu,∀ (K:KR),prunH (enH l lh []) h fu fn [s.box] [.ptr 0 0] K=K [r.2.box] (.agg r.1.cells)):HOK NG W f (tSSt g) :=
 hok hW hl hh allI_nil (h:=h) hf hb hname (tSSt_nat g) fun bs xs r h=>by
  simp only[tSSt] at h
  split at h
  ·obtain⟨s,hbs,hs⟩:=onPS_inv h
   subst hbs
   obtain⟨qq,hq,hend⟩:=Option.bind_eq_some_iff.1 hs
   obtain⟨fu,hr⟩:=hr s _ hq
   exact⟨fu,(hr _).trans hend⟩
  ·cases h
theorem none_tSSt {f:FuncId}{g:PS→Option (SR×PS)}(hg:∀ s , g s=none):HOK NG W f (tSSt g) where
 nat:=tSSt_nat _
 call:=by
  intro M β bs xs vs bs' r _ _ _ _ _ h
  exfalso
  simp only[tSSt] at h
  split at h
  ·obtain⟨s,-,hs⟩:=onPS_inv h
   rw[hg] at hs
   cases hs
  ·cases h
def tSIt (f:PS→Option (IR×PS)):HFn:=⟨fun bs xs k=>match xs with|[.ptr 0 0]=>onPS bs fun s=>(f s).bind fun r=>k [r.2.box] (.agg r.1.cells)|_=>none⟩
theorem tSIt_nat (f:PS→Option (IR×PS)):(tSIt f).nat:=by
 intro R bs xs k
 simp only[tSIt]
 split
 ·simp only[onPS_bind,onXR_bind,iteo_bind,Option.bind_assoc,Option.bind_some]
 ·rfl
theorem hok_tSIt (hW:WOK NG W){l:List (FuncId×PFn)}(hl:AllOK NG W l){lh:List (FuncId×HFn)}(hh:AllH NG W lh){h:Hints}{f:FuncId}{fn:Func}(hf:Tryz.prog.funcs[f]? = some fn)(hb:fn.body.isSome=true)(hname:fn.name ≠ "runtime.NumGoroutine"){g:PS→Option (IR×PS)}(hr:∀ s  r,g s=some r→∃ fu,∀ (K:KR),prunH (enH l lh []) h fu fn [s.box] [.ptr 0 0] K=K [r.2.box] (.agg r.1.cells)):HOK NG W f (tSIt g) :=
 hok hW hl hh allI_nil (h:=h) hf hb hname (tSIt_nat g) fun bs xs r h=>by
  simp only[tSIt] at h
  split at h
  ·obtain⟨s,hbs,hs⟩:=onPS_inv h
   subst hbs
   obtain⟨qq,hq,hend⟩:=Option.bind_eq_some_iff.1 hs
   obtain⟨fu,hr⟩:=hr s _ hq
   exact⟨fu,(hr _).trans hend⟩
  ·cases h
def tSOr (f:PS→Option (OR×PS)):HFn:=⟨fun bs xs k=>match xs with|[.ptr 0 0]=>onPS bs fun s=>(f s).bind fun r=>k [r.2.box] (.agg r.1.cells)|_=>none⟩
theorem tSOr_nat (f:PS→Option (OR×PS)):(tSOr f).nat:=by
 intro R bs xs k
 simp only[tSOr]
 split
 ·simp only[onPS_bind,onXR_bind,iteo_bind,Option.bind_assoc,Option.bind_some]
 ·rfl
theorem hok_tSOr (hW:WOK NG W){l:List (FuncId×PFn)}(hl:AllOK NG W l){lh:List (FuncId×HFn)}(hh:AllH NG W lh){h:Hints}{f:FuncId}{fn:Func}(hf:Tryz.prog.funcs[f]? = some fn)(hb:fn.body.isSome=true)(hname:fn.name ≠ "runtime.NumGoroutine"){g:PS→Option (OR×PS)}(hr:∀ s  r,g s=some r→∃ fu,∀ (K:KR),prunH (enH l lh []) h fu fn [s.box] [.ptr 0 0] K=K [r.2.box] (.agg r.1.cells)):HOK NG W f (tSOr g) :=
 hok hW hl hh allI_nil (h:=h) hf hb hname (tSOr_nat g) fun bs xs r h=>by
  simp only[tSOr] at h
  split at h
  ·obtain⟨s,hbs,hs⟩:=onPS_inv h
   subst hbs
   obtain⟨qq,hq,hend⟩:=Option.bind_eq_some_iff.1 hs
   obtain⟨fu,hr⟩:=hr s _ hq
   exact⟨fu,(hr _).trans hend⟩
  ·cases h
def tSFr (f:PS→Option (SoR×PS)):HFn:=⟨fun bs xs k=>match xs with|[.ptr 0 0]=>onPS bs fun s=>(f s).bind fun r=>k [r.2.box] (.agg r.1.cells)|_=>none⟩
theorem tSFr_nat (f:PS→Option (SoR×PS)):(tSFr f).nat:=by
 intro R bs xs k
 simp only[tSFr]
 split
 ·simp only[onPS_bind,onXR_bind,iteo_bind,Option.bind_assoc,Option.bind_some]
 ·rfl
theorem hok_tSFr (hW:WOK NG W){l:List (FuncId×PFn)}(hl:AllOK NG W l){lh:List (FuncId×HFn)}(hh:AllH NG W lh){h:Hints}{f:FuncId}{fn:Func}(hf:Tryz.prog.funcs[f]? = some fn)(hb:fn.body.isSome=true)(hname:fn.name ≠ "runtime.NumGoroutine"){g:PS→Option (SoR×PS)}(hr:∀ s  r,g s=some r→∃ fu,∀ (K:KR),prunH (enH l lh []) h fu fn [s.box] [.ptr 0 0] K=K [r.2.box] (.agg r.1.cells)):HOK NG W f (tSFr g) :=
 hok hW hl hh allI_nil (h:=h) hf hb hname (tSFr_nat g) fun bs xs r h=>by
  simp only[tSFr] at h
  split at h
  ·obtain⟨s,hbs,hs⟩:=onPS_inv h
   subst hbs
   obtain⟨qq,hq,hend⟩:=Option.bind_eq_some_iff.1 hs
   obtain⟨fu,hr⟩:=hr s _ hq
   exact⟨fu,(hr _).trans hend⟩
  ·cases h
def tSK (f:PS→Option (SlS×PS)):HFn:=⟨fun bs xs k=>match xs with|[.ptr 0 0]=>onPS bs fun s=>(f s).bind fun r=>k [r.2.box] (r.1.pv 13)|_=>none⟩
theorem tSK_nat (f:PS→Option (SlS×PS)):(tSK f).nat:=by
 intro R bs xs k
 simp only[tSK]
 split
 ·simp only[onPS_bind,onXR_bind,iteo_bind,Option.bind_assoc,Option.bind_some]
 ·rfl
theorem hok_tSK (hW:WOK NG W){l:List (FuncId×PFn)}(hl:AllOK NG W l){lh:List (FuncId×HFn)}(hh:AllH NG W lh){h:Hints}{f:FuncId}{fn:Func}(hf:Tryz.prog.funcs[f]? = some fn)(hb:fn.body.isSome=true)(hname:fn.name ≠ "runtime.NumGoroutine"){g:PS→Option (SlS×PS)}(hr:∀ s  r,g s=some r→∃ fu,∀ (K:KR),prunH (enH l lh []) h fu fn [s.box] [.ptr 0 0] K=K [r.2.box] (r.1.pv 13)):HOK NG W f (tSK g) :=
 hok hW hl hh allI_nil (h:=h) hf hb hname (tSK_nat g) fun bs xs r h=>by
  simp only[tSK] at h
  split at h
  ·obtain⟨s,hbs,hs⟩:=onPS_inv h
   subst hbs
   obtain⟨qq,hq,hend⟩:=Option.bind_eq_some_iff.1 hs
   obtain⟨fu,hr⟩:=hr s _ hq
   exact⟨fu,(hr _).trans hend⟩
  ·cases h
def tLEx (f:PS→Int→Option (SlS×PS)):HFn:=⟨fun bs xs k=>match xs with|[.ptr 0 0,.int .i64 m,.clo q [.ptr 0 0]]=>if q=1000000+22 then onPS bs fun s=>(f s m).bind fun r=>k [r.2.box] (r.1.pv 13) else none|_=>none⟩
theorem tLEx_nat (f:PS→Int→Option (SlS×PS)):(tLEx f).nat:=by
 intro R bs xs k
 simp only[tLEx]
 split
 ·simp only[onPS_bind,onXR_bind,iteo_bind,Option.bind_assoc,Option.bind_some]
 ·rfl
theorem hok_tLEx (hW:WOK NG W){l:List (FuncId×PFn)}(hl:AllOK NG W l){lh:List (FuncId×HFn)}(hh:AllH NG W lh){h:Hints}{f:FuncId}{fn:Func}(hf:Tryz.prog.funcs[f]? = some fn)(hb:fn.body.isSome=true)(hname:fn.name ≠ "runtime.NumGoroutine"){g:PS→Int→Option (SlS×PS)}(hr:∀ s (m:Int) r,g s m=some r→∃ fu,∀ (K:KR),prunH (enH l lh []) h fu fn [s.box] [.ptr 0 0,.int .i64 m,.clo (1000000+22) [.ptr 0 0]] K=K [r.2.box] (r.1.pv 13)):HOK NG W f (tLEx g) :=
 hok hW hl hh allI_nil (h:=h) hf hb hname (tLEx_nat g) fun bs xs r h=>by
  simp only[tLEx] at h
  split at h
  ·obtain⟨hzq,h1⟩:=ite_inv h
   subst hzq
   obtain⟨s,hbs,hs⟩:=onPS_inv h1
   subst hbs
   obtain⟨qq,hq,hend⟩:=Option.bind_eq_some_iff.1 hs
   obtain⟨fu,hr⟩:=hr s _ _ hq
   exact⟨fu,(hr _).trans hend⟩
  ·cases h
def tLIt (f:PS→Int→Option (SlS×PS)):HFn:=⟨fun bs xs k=>match xs with|[.ptr 0 0,.int .i64 m,.clo q [.ptr 0 0]]=>if q=1000000+130 then onPS bs fun s=>(f s m).bind fun r=>k [r.2.box] (r.1.pv 14) else none|_=>none⟩
theorem tLIt_nat (f:PS→Int→Option (SlS×PS)):(tLIt f).nat:=by
 intro R bs xs k
 simp only[tLIt]
 split
 ·simp only[onPS_bind,onXR_bind,iteo_bind,Option.bind_assoc,Option.bind_some]
 ·rfl
theorem hok_tLIt (hW:WOK NG W){l:List (FuncId×PFn)}(hl:AllOK NG W l){lh:List (FuncId×HFn)}(hh:AllH NG W lh){h:Hints}{f:FuncId}{fn:Func}(hf:Tryz.prog.funcs[f]? = some fn)(hb:fn.body.isSome=true)(hname:fn.name ≠ "runtime.NumGoroutine"){g:PS→Int→Option (SlS×PS)}(hr:∀ s (m:Int) r,g s m=some r→∃ fu,∀ (K:KR),prunH (enH l lh []) h fu fn [s.box] [.ptr 0 0,.int .i64 m,.clo (1000000+130) [.ptr 0 0]] K=K [r.2.box] (r.1.pv 14)):HOK NG W f (tLIt g) :=
 hok hW hl hh allI_nil (h:=h) hf hb hname (tLIt_nat g) fun bs xs r h=>by
  simp only[tLIt] at h
  split at h
  ·obtain⟨hzq,h1⟩:=ite_inv h
   subst hzq
   obtain⟨s,hbs,hs⟩:=onPS_inv h1
   subst hbs
   obtain⟨qq,hq,hend⟩:=Option.bind_eq_some_iff.1 hs
   obtain⟨fu,hr⟩:=hr s _ _ hq
   exact⟨fu,(hr _).trans hend⟩
  ·cases h
def tLOr (f:PS→Int→Option (SlS×PS)):HFn:=⟨fun bs xs k=>match xs with|[.ptr 0 0,.int .i64 m,.clo q [.ptr 0 0]]=>if q=1000000+134 then onPS bs fun s=>(f s m).bind fun r=>k [r.2.box] (r.1.pv 14) else none|_=>none⟩
theorem tLOr_nat (f:PS→Int→Option (SlS×PS)):(tLOr f).nat:=by
 intro R bs xs k
 simp only[tLOr]
 split
 ·simp only[onPS_bind,onXR_bind,iteo_bind,Option.bind_assoc,Option.bind_some]
 ·rfl
theorem hok_tLOr (hW:WOK NG W){l:List (FuncId×PFn)}(hl:AllOK NG W l){lh:List (FuncId×HFn)}(hh:AllH NG W lh){h:Hints}{f:FuncId}{fn:Func}(hf:Tryz.prog.funcs[f]? = some fn)(hb:fn.body.isSome=true)(hname:fn.name ≠ "runtime.NumGoroutine"){g:PS→Int→Option (SlS×PS)}(hr:∀ s (m:Int) r,g s m=some r→∃ fu,∀ (K:KR),prunH (enH l lh []) h fu fn [s.box] [.ptr 0 0,.int .i64 m,.clo (1000000+134) [.ptr 0 0]] K=K [r.2.box] (r.1.pv 14)):HOK NG W f (tLOr g) :=
 hok hW hl hh allI_nil (h:=h) hf hb hname (tLOr_nat g) fun bs xs r h=>by
  simp only[tLOr] at h
  split at h
  ·obtain⟨hzq,h1⟩:=ite_inv h
   subst hzq
   obtain⟨s,hbs,hs⟩:=onPS_inv h1
   subst hbs
   obtain⟨qq,hq,hend⟩:=Option.bind_eq_some_iff.1 hs
   obtain⟨fu,hr⟩:=hr s _ _ hq
   exact⟨fu,(hr _).trans hend⟩
  ·cases h
end
def roomL {R:Type}(b l:Nat)(x:Option R):Option R:=bif decide (l+1≤9223372036854775807)&&decide ((l+1) * b≤140737488355328) then x else none
def hLs:Hints:=⟨[],[(0,⟨[(0,false),(1,false),(2,false),(7,true)],[31]⟩)]⟩
def frLs (q:FuncId)(z:Nat)(m:Int)(A:SlS)(s:PS):St:=frameB 31 32 [(0,(.ptr 31 0,0)),(1,(.int .i64 m,0)),(2,(.clo q [.ptr 31 0],0)),(7,(A.pv z,40))] [(31,s.box.map fun x=>(x,0))]
structure FLs where
 ff:PS→Option PS
 fs:PS→Nat→List PV→Option (Bool×PS)
 ft:PS→Option (TR×PS)
section
variable {R:Type}
noncomputable def fLEx:Func:=Tryz.f132
noncomputable def enLEx (F:FLs)(fp:PS→Option (XR×PS)):Env:=enH [] [(52,tSU F.ff),(128,tSBl F.fs),(102,tST F.ft),(22,tSX fp)] []
noncomputable def krLEx (F:FLs)(fp:PS→Option (XR×PS))(K:List (List PV)→PV→Option R)(st:St):Option R:=pfinH (enLEx F fp) 1 fLEx st fun bs _ v=>K bs v
noncomputable def lpLEx (F:FLs)(fp:PS→Option (XR×PS))(fu:Nat)(K:List (List PV)→PV→Option R)(n:Nat)(st:St):Option R:=loopK (enLEx F fp) hLs fu (krLEx F fp K) fLEx (fun _=>none) [1,1,0,0] 0 n st
theorem raLEx (F:FLs)(fp:PS→Option (XR×PS))(fu:Nat)(s:PS)(m:Int)(K:List (List PV)→PV→Option R) :
  prunH (enLEx F fp) hLs fu fLEx [s.box] [.ptr 0 0,.int .i64 m,.clo (1000000+22) [.ptr 0 0]] K=lpLEx F fp fu K fu (frLs (1000000+22) 13 m SlS.nil s):=prunHN_eq.trans (by kernel_rfl)
theorem stLEx (F:FLs)(fp:PS→Option (XR×PS))(fu:Nat)(s:PS)(m:Int)(A:SlS)(K:List (List PV)→PV→Option R)(G:St→Option R) :
  stepK (enLEx F fp) hLs fu (krLEx F fp K) fLEx [1,1,0,0] (fun _=>none) (frLs (1000000+22) 13 m A s) (fun st=>pnorm (hLs.loop.lookup 0) st G) =
   bif decide (s.b<0) then bif decide (m≤(A.n:Int)) then (F.ff s).bind fun s=>K [s.box] (A.pv 13) else (fp s).bind fun r=>roomL 152 A.n ((F.fs r.2 1 [.str [44]]).bind fun q=>bif !q.1 then K [q.2.box] ((A.put (r.1.cells)).pv 13) else (F.ft q.2).bind fun t=>G (frLs (1000000+22) 13 m (A.put (r.1.cells)) t.2)) else K [s.box] (A.pv 13):=by kernel_rfl
end
section
variable {R:Type}
noncomputable def fLIt:Func:=Tryz.f129
noncomputable def enLIt (F:FLs)(fp:PS→Option (IR×PS)):Env:=enH [] [(52,tSU F.ff),(128,tSBl F.fs),(102,tST F.ft),(130,tSIt fp)] []
noncomputable def krLIt (F:FLs)(fp:PS→Option (IR×PS))(K:List (List PV)→PV→Option R)(st:St):Option R:=pfinH (enLIt F fp) 1 fLIt st fun bs _ v=>K bs v
noncomputable def lpLIt (F:FLs)(fp:PS→Option (IR×PS))(fu:Nat)(K:List (List PV)→PV→Option R)(n:Nat)(st:St):Option R:=loopK (enLIt F fp) hLs fu (krLIt F fp K) fLIt (fun _=>none) [1,1,0,0] 0 n st
theorem raLIt (F:FLs)(fp:PS→Option (IR×PS))(fu:Nat)(s:PS)(m:Int)(K:List (List PV)→PV→Option R) :
  prunH (enLIt F fp) hLs fu fLIt [s.box] [.ptr 0 0,.int .i64 m,.clo (1000000+130) [.ptr 0 0]] K=lpLIt F fp fu K fu (frLs (1000000+130) 14 m SlS.nil s):=prunHN_eq.trans (by kernel_rfl)
theorem stLIt (F:FLs)(fp:PS→Option (IR×PS))(fu:Nat)(s:PS)(m:Int)(A:SlS)(K:List (List PV)→PV→Option R)(G:St→Option R) :
  stepK (enLIt F fp) hLs fu (krLIt F fp K) fLIt [1,1,0,0] (fun _=>none) (frLs (1000000+130) 14 m A s) (fun st=>pnorm (hLs.loop.lookup 0) st G) =
   bif decide (s.b<0) then bif decide (m≤(A.n:Int)) then (F.ff s).bind fun s=>K [s.box] (A.pv 14) else (fp s).bind fun r=>roomL 168 A.n ((F.fs r.2 1 [.str [44]]).bind fun q=>bif !q.1 then K [q.2.box] ((A.put (r.1.cells)).pv 14) else (F.ft q.2).bind fun t=>G (frLs (1000000+130) 14 m (A.put (r.1.cells)) t.2)) else K [s.box] (A.pv 14):=by kernel_rfl
end
section
variable {R:Type}
noncomputable def fLOr:Func:=Tryz.f133
noncomputable def enLOr (F:FLs)(fp:PS→Option (OR×PS)):Env:=enH [] [(52,tSU F.ff),(128,tSBl F.fs),(102,tST F.ft),(134,tSOr fp)] []
noncomputable def krLOr (F:FLs)(fp:PS→Option (OR×PS))(K:List (List PV)→PV→Option R)(st:St):Option R:=pfinH (enLOr F fp) 1 fLOr st fun bs _ v=>K bs v
noncomputable def lpLOr (F:FLs)(fp:PS→Option (OR×PS))(fu:Nat)(K:List (List PV)→PV→Option R)(n:Nat)(st:St):Option R:=loopK (enLOr F fp) hLs fu (krLOr F fp K) fLOr (fun _=>none) [1,1,0,0] 0 n st
theorem raLOr (F:FLs)(fp:PS→Option (OR×PS))(fu:Nat)(s:PS)(m:Int)(K:List (List PV)→PV→Option R) :
  prunH (enLOr F fp) hLs fu fLOr [s.box] [.ptr 0 0,.int .i64 m,.clo (1000000+134) [.ptr 0 0]] K=lpLOr F fp fu K fu (frLs (1000000+134) 14 m SlS.nil s):=prunHN_eq.trans (by kernel_rfl)
theorem stLOr (F:FLs)(fp:PS→Option (OR×PS))(fu:Nat)(s:PS)(m:Int)(A:SlS)(K:List (List PV)→PV→Option R)(G:St→Option R) :
  stepK (enLOr F fp) hLs fu (krLOr F fp K) fLOr [1,1,0,0] (fun _=>none) (frLs (1000000+134) 14 m A s) (fun st=>pnorm (hLs.loop.lookup 0) st G) =
   bif decide (s.b<0) then bif decide (m≤(A.n:Int)) then (F.ff s).bind fun s=>K [s.box] (A.pv 14) else (fp s).bind fun r=>roomL 160 A.n ((F.fs r.2 1 [.str [44]]).bind fun q=>bif !q.1 then K [q.2.box] ((A.put (r.1.cells)).pv 14) else (F.ft q.2).bind fun t=>G (frLs (1000000+134) 14 m (A.put (r.1.cells)) t.2)) else K [s.box] (A.pv 14):=by kernel_rfl
end
section
variable {R:Type}
end
section
variable {R:Type}
end
section
variable {R:Type}
end
section
variable {R:Type}
end
section
variable {R:Type}
theorem as_raw (fk:PS→List UInt8→Option (Bool×PS))(fn:PS→Option (List UInt8×PS))(fu:Nat)(s:PS)(K:List (List PV)→PV→Option R) :
  prunH (enH [] [(64,tSBw fk),(115,tSS fn)] []) hh0 fu Tryz.f201 [s.box] [.ptr 0 0] K=(fk s [65,83]).bind fun q=>bif !q.1 then K [q.2.box] (.str []) else (fn q.2).bind fun r=>K [r.2.box] (.str r.1):=by kernel_rfl
theorem source_raw (fn fa:PS→Option (List UInt8×PS))(fu:Nat)(s:PS)(K:List (List PV)→PV→Option R) :
  prunH (enH [] [(115,tSS fn),(201,tSS fa)] []) hh0 fu Tryz.f131 [s.box] [.ptr 0 0] K=(fn s).bind fun q=>(fa q.2).bind fun r=>K [r.2.box] (.agg (SoR.cells ⟨q.1,r.1⟩)):=by kernel_rfl
theorem item_raw (fx:PS→Option (XR×PS))(fa:PS→Option (List UInt8×PS))(fu:Nat)(s:PS)(K:List (List PV)→PV→Option R) :
  prunH (enH [] [(22,tSX fx),(201,tSS fa)] []) hh0 fu Tryz.f130 [s.box] [.ptr 0 0] K=(fx s).bind fun q=>(fa q.2).bind fun r=>K [r.2.box] (.agg (IR.cells ⟨q.1,r.1⟩)):=by kernel_rfl
theorem order_raw (fx:PS→Option (XR×PS))(fk:PS→List UInt8→Option (Bool×PS))(fu:Nat)(s:PS)(K:List (List PV)→PV→Option R) :
  prunH (enH [] [(22,tSX fx),(64,tSBw fk)] []) hh0 fu Tryz.f134 [s.box] [.ptr 0 0] K=(fx s).bind fun q=>(fk q.2 [68,69,83,67]).bind fun r=>K [r.2.box] (.agg (OR.cells ⟨q.1,r.1⟩)):=by kernel_rfl
theorem where_raw (fk:PS→List UInt8→Option (Bool×PS))(fx:PS→Option (XR×PS))(fu:Nat)(s:PS)(K:List (List PV)→PV→Option R) :
  prunH (enH [] [(64,tSBw fk),(22,tSX fx)] []) hh0 fu Tryz.f127 [s.box] [.ptr 0 0] K=(fk s [87,72,69,82,69]).bind fun q=>bif !q.1 then K [q.2.box] (SlS.nil.pv 13) else (fx q.2).bind fun r=>K [r.2.box] ((SlS.one r.1.cells).pv 13):=by kernel_rfl
theorem remove_raw (fw:PS→List UInt8→Option PS)(fn:PS→Option (List UInt8×PS))(fh:PS→Option (SlS×PS))(fu:Nat)(s:PS)(K:List (List PV)→PV→Option R) :
  prunH (enH [] [(118,tSUw fw),(115,tSS fn),(127,tSK fh)] []) hh0 fu Tryz.f70 [s.box] [.ptr 0 0] K =
   (fw s [70,82,79,77]).bind fun s=>(fn s).bind fun q=>(fh q.2).bind fun r=>K [r.2.box] (.agg (SR.cells ⟨8,q.1,[],false,.nil,.nil,.nil,.nil,r.1,.nil,.nil,.nil,.nil,.nil,-1⟩)):=by kernel_rfl
structure FSe where
 fs:PS→Nat→List PV→Option (Bool×PS)
 ft:PS→Option (TR×PS)
 li:PS→Int→Option (SlS×PS)
 fw:PS→List UInt8→Option PS
 fo:PS→Option (SoR×PS)
 fk:PS→List UInt8→Option (Bool×PS)
 fx:PS→Option (XR×PS)
 fh:PS→Option (SlS×PS)
 le:PS→Int→Option (SlS×PS)
 lo:PS→Int→Option (SlS×PS)
 fn:PS→Int→Option (Int×PS)
noncomputable def enSe (F:FSe):Env:=enH [] [(128,tSBl F.fs),(102,tST F.ft),(129,tLIt F.li),(118,tSUw F.fw),(131,tSFr F.fo),(64,tSBw F.fk),(22,tSX F.fx),(127,tSK F.fh),(132,tLEx F.le),(133,tLOr F.lo),(135,tSIi F.fn)] []
section
variable (F:FSe) (K:SR→PS→Option R)
def sel4 (it fr on wh gr od:SlS)(s:PS):Option R:=(F.fk s [76,73,77,73,84]).bind fun q=>bif q.1 then (F.fn q.2 1000000).bind fun n=>K ⟨9,[],[],false,.nil,.nil,.nil,.nil,wh,it,fr,on,gr,od,n.1⟩ n.2 else K ⟨9,[],[],false,.nil,.nil,.nil,.nil,wh,it,fr,on,gr,od,-1⟩ q.2
def sel3 (it fr on wh gr:SlS)(s:PS):Option R:=(F.fk s [79,82,68,69,82]).bind fun q=>bif q.1 then (F.fw q.2 [66,89]).bind fun s=>(F.lo s 20).bind fun l=>sel4 F K it fr on wh gr l.1 l.2 else sel4 F K it fr on wh gr .nil q.2
def sel2 (it fr on:SlS)(s:PS):Option R:=(F.fh s).bind fun w=>(F.fk w.2 [71,82,79,85,80]).bind fun q=>bif q.1 then (F.fw q.2 [66,89]).bind fun s=>(F.le s 20).bind fun l=>sel3 F K it fr on w.1 l.1 l.2 else sel3 F K it fr on w.1 .nil q.2
def sel1 (it:SlS)(s:PS):Option R:=(F.fw s [70,82,79,77]).bind fun s=>(F.fo s).bind fun f=>(F.fk f.2 [74,79,73,78]).bind fun j=>bif j.1 then (F.fo j.2).bind fun g=>roomL 32 1 ((F.fw g.2 [79,78]).bind fun s=>(F.fx s).bind fun x=>sel2 F K it ((SlS.one f.1.cells).put g.1.cells) (.one x.1.cells) x.2) else sel2 F K it (.one f.1.cells) .nil j.2
def sel0 (s:PS):Option R:=(F.fs s 1 [.str [42]]).bind fun q=>bif q.1 then (F.ft q.2).bind fun t=>sel1 F K .nil t.2 else (F.li q.2 20).bind fun l=>sel1 F K l.1 l.2
end
theorem selects_raw (F:FSe)(fu:Nat)(s:PS)(K:List (List PV)→PV→Option R):prunH (enSe F) hh0 fu Tryz.f71 [s.box] [.ptr 0 0] K=sel0 F (fun r s=>K [s.box] (.agg r.cells)) s:=by kernel_rfl
structure FSt where
 fk:PS→List UInt8→Option (Bool×PS)
 f1:PS→Option (SR×PS)
 f2:PS→Option (SR×PS)
 f3:PS→Option (SR×PS)
 f4:PS→Option (SR×PS)
 f5:PS→Option (SR×PS)
 f6:PS→Option (SR×PS)
 f7:PS→Option (SR×PS)
 ff:PS→Option PS
noncomputable def enSt (F:FSt):Env:=enH [] [(64,tSBw F.fk),(65,tSSt F.f1),(66,tSSt F.f2),(67,tSSt F.f3),(68,tSSt F.f4),(69,tSSt F.f5),(70,tSSt F.f6),(71,tSSt F.f7),(52,tSU F.ff)] []
def stO (F:FSt)(K:SR→PS→Option R)(s:PS):Option R :=
 (F.fk s [67,82,69,65,84,69]).bind fun q=>bif q.1 then (F.f1 q.2).bind fun r=>K r.1 r.2 else (F.fk q.2 [68,82,79,80]).bind fun q=>bif q.1 then (F.f2 q.2).bind fun r=>K r.1 r.2 else (F.fk q.2 [65,76,84,69,82]).bind fun q=>bif q.1 then (F.f3 q.2).bind fun r=>K r.1 r.2 else
 (F.fk q.2 [73,78,83,69,82,84]).bind fun q=>bif q.1 then (F.f4 q.2).bind fun r=>K r.1 r.2 else (F.fk q.2 [85,80,68,65,84,69]).bind fun q=>bif q.1 then (F.f5 q.2).bind fun r=>K r.1 r.2 else (F.fk q.2 [68,69,76,69,84,69]).bind fun q=>bif q.1 then (F.f6 q.2).bind fun r=>K r.1 r.2 else
 (F.fk q.2 [83,69,76,69,67,84]).bind fun q=>bif q.1 then (F.f7 q.2).bind fun r=>K r.1 r.2 else (F.ff q.2).bind fun s=>K SR.zero s
theorem stmt_raw (F:FSt)(fu:Nat)(s:PS)(K:List (List PV)→PV→Option R):prunH (enSt F) hh0 fu Tryz.f31 [s.box] [.ptr 0 0] K=stO F (fun r s=>K [s.box] (.agg r.cells)) s:=by kernel_rfl
end
def onSR {R:Type}(x:PV)(k:SR→Option R):Option R:=match x with
 | .agg [.int .i64 k1,.str tb,.str nm,.bool un,.sl l1 z1 n1 c1,.sl l2 z2 n2 c2,.sl l3 z3 n3 c3,.sl l4 z4 n4 c4,.sl l5 z5 n5 c5,.sl l6 z6 n6 c6,.sl l7 z7 n7 c7,.sl l8 z8 n8 c8,.sl l9 z9 n9 c9,.sl l10 z10 n10 c10,.int .i64 lim] =>
  if (((z1=1∧z2=10)∧(z3=1∧z4=14))∧((z5=13∧z6=14)∧(z7=2∧z8=13)))∧(z9=13∧z10=14) then k ⟨k1,tb,nm,un,⟨l1,n1,c1⟩,⟨l2,n2,c2⟩,⟨l3,n3,c3⟩,⟨l4,n4,c4⟩,⟨l5,n5,c5⟩,⟨l6,n6,c6⟩,⟨l7,n7,c7⟩,⟨l8,n8,c8⟩,⟨l9,n9,c9⟩,⟨l10,n10,c10⟩,lim⟩ else none
 |_=>none
theorem onSR_inv {R:Type}{x:PV}{k:SR→Option R}{r:R}(h:onSR x k=some r):∃ e:SR,x=.agg e.cells∧k e=some r:=by
 unfold onSR at h
 split at h
 ·obtain⟨hz,h⟩:=ite_inv h
  obtain⟨⟨⟨⟨rfl,rfl⟩,rfl,rfl⟩,⟨rfl,rfl⟩,rfl,rfl⟩,rfl,rfl⟩:=hz
  exact⟨_,rfl,h⟩
 ·cases h
theorem onSR_bind {R S:Type}{x:PV}{k:SR→Option R}{g:R→Option S}:(onSR x k).bind g=onSR x (fun s=>(k s).bind g):=by
 unfold onSR
 split
 ·rw[iteo_bind]
 ·rfl
def tStB (f:SR→Option Bool):PFn:=⟨fun xs k=>match xs with|[x]=>onSR x fun e=>(f e).bind fun b=>k (.bool b)|_=>none,false⟩
theorem tStB_nat (f:SR→Option Bool):(tStB f).nat:=by
 intro R xs k
 simp only[tStB]
 split
 ·simp only[onSR_bind,Option.bind_assoc,Option.bind_some]
 ·rfl
def prEnd (e:SR)(b:Int):Option PV:=bif decide ((0:Int)≤b) then some (.tuple [.agg SR.zero.cells,.int .i64 b,.int .i64 170]) else some (.tuple [.agg e.cells,.int .i64 0,.int .i64 0])
def prTail (fr:SR→Option Bool)(e:SR)(s:PS):Option PV:=bif decide (s.b<0) then (fr e).bind fun ok=>bif !ok then prEnd e 0 else prEnd e s.b else prEnd e s.b
theorem readS_raw (fl:List UInt8→Option LX)(fe:PS→Option (SR×PS))(ff:PS→Option PS)(fr:SR→Option Bool)(fu:Nat)(w:List UInt8) :
  prun (enH [(51,tLx fl),(32,tStB fr)] [(31,tSSt fe),(52,tSU ff)] []) hh0 fu false Tryz.f30 [.str w,.clo 31 [],.clo 32 []] =
   (fl w).bind fun l=>bif l.e != 0 then some (.tuple [.agg SR.zero.cells,.int .i64 l.a,.int .i64 l.e]) else (fe ⟨l.nl,l.n,l.cs,(w.length:Int),0,-1⟩).bind fun e=>bif decide ((0:Int)<(e.2.n:Int)) then (ff e.2).bind fun s=>prTail fr e.1 s else prTail fr e.1 e.2:=by kernel_rfl
theorem roomL_bind {α β:Type}{b l:Nat}{x:Option α}{k:α→Option β}:(roomL b l x).bind k=roomL b l (x.bind k):=by unfold roomL;rw[cond_bindo];rfl
def xE:PS→Option (XR×PS):=(pfs fldF 231).expr
def wE:PS→List UInt8→Option PS:=wantP fldF
theorem ok_xE:HOK NGs Ws 22 (tSX xE):=(pok pdeps 231).expr
theorem ok_wE:HOK NGs Ws 118 (tSUw wE):=ok_want pdeps
def asP (s:PS):Option (List UInt8×PS):=(skipP s [65,83]).bind fun q=>bif !q.1 then some ([],q.2) else (nameP q.2).bind fun r=>some (r.1,r.2)
theorem ok_as:HOK NGs Ws 201 (tSS asP):=hok_tSS woks allOK_nil (allH_cons (ok_skip pdeps) (allH_cons (ok_name pdeps) allH_nil)) Tryz.func201 rfl (by decide) fun s=>⟨0,fun K=>(as_raw _ _ 0 s K).trans (by simp only[asP,cond_bindo,Option.bind_assoc,Option.bind_some])⟩
def sourceP (s:PS):Option (SoR×PS):=(nameP s).bind fun q=>(asP q.2).bind fun r=>some (⟨q.1,r.1⟩,r.2)
theorem ok_source:HOK NGs Ws 131 (tSFr sourceP):=hok_tSFr woks allOK_nil (allH_cons (ok_name pdeps) (allH_cons ok_as allH_nil)) (h:=hh0) Tryz.func131 rfl (by decide) fun s r h=>⟨0,fun K=>(source_raw _ _ 0 s K).trans (Eq.trans (b:=(sourceP s).bind fun r=>K [r.2.box] (.agg r.1.cells)) (by simp only[sourceP,Option.bind_assoc,Option.bind_some]) (by rw[h,Option.bind_some]))⟩
def itemP (s:PS):Option (IR×PS):=(xE s).bind fun q=>(asP q.2).bind fun r=>some (⟨q.1,r.1⟩,r.2)
theorem ok_item:HOK NGs Ws 130 (tSIt itemP):=hok_tSIt woks allOK_nil (allH_cons ok_xE (allH_cons ok_as allH_nil)) (h:=hh0) Tryz.func130 rfl (by decide) fun s r h=>⟨0,fun K=>(item_raw _ _ 0 s K).trans (Eq.trans (b:=(itemP s).bind fun r=>K [r.2.box] (.agg r.1.cells)) (by simp only[itemP,Option.bind_assoc,Option.bind_some]) (by rw[h,Option.bind_some]))⟩
def orderP (s:PS):Option (OR×PS):=(xE s).bind fun q=>(skipP q.2 [68,69,83,67]).bind fun r=>some (⟨q.1,r.1⟩,r.2)
theorem ok_order:HOK NGs Ws 134 (tSOr orderP):=hok_tSOr woks allOK_nil (allH_cons ok_xE (allH_cons (ok_skip pdeps) allH_nil)) (h:=hh0) Tryz.func134 rfl (by decide) fun s r h=>⟨0,fun K=>(order_raw _ _ 0 s K).trans (Eq.trans (b:=(orderP s).bind fun r=>K [r.2.box] (.agg r.1.cells)) (by simp only[orderP,Option.bind_assoc,Option.bind_some]) (by rw[h,Option.bind_some]))⟩
def whereP (s:PS):Option (SlS×PS):=(skipP s [87,72,69,82,69]).bind fun q=>bif !q.1 then some (.nil,q.2) else (xE q.2).bind fun r=>some (.one r.1.cells,r.2)
theorem ok_where:HOK NGs Ws 127 (tSK whereP):=hok_tSK woks allOK_nil (allH_cons (ok_skip pdeps) (allH_cons ok_xE allH_nil)) (h:=hh0) Tryz.func127 rfl (by decide) fun s r h=>⟨0,fun K=>(where_raw _ _ 0 s K).trans (Eq.trans (b:=(whereP s).bind fun r=>K [r.2.box] (r.1.pv 13)) (by simp only[whereP,cond_bindo,Option.bind_assoc,Option.bind_some]) (by rw[h,Option.bind_some]))⟩
def removeP (s:PS):Option (SR×PS):=(wE s [70,82,79,77]).bind fun s=>(nameP s).bind fun q=>(whereP q.2).bind fun r=>some (⟨8,q.1,[],false,.nil,.nil,.nil,.nil,r.1,.nil,.nil,.nil,.nil,.nil,-1⟩,r.2)
theorem ok_remove:HOK NGs Ws 70 (tSSt removeP):=hok_tSSt woks allOK_nil (allH_cons ok_wE (allH_cons (ok_name pdeps) (allH_cons ok_where allH_nil))) (h:=hh0) Tryz.func70 rfl (by decide) fun s r h=>⟨0,fun K=>(remove_raw _ _ _ 0 s K).trans (Eq.trans (b:=(removeP s).bind fun r=>K [r.2.box] (.agg r.1.cells)) (by simp only[removeP,Option.bind_assoc,Option.bind_some]) (by rw[h,Option.bind_some]))⟩
def lsF:FLs:=⟨flP,signP,takeP⟩
def lsP {α:Type}(b:Nat)(cel:α→List PV)(fp:PS→Option (α×PS))(m:Int):Nat→SlS→PS→Option (SlS×PS)
 |0,_,_=>none
 |k+1,A,s=>bif decide (s.b<0) then bif decide (m≤(A.n:Int)) then (flP s).bind fun s=>some (A,s) else (fp s).bind fun r=>roomL b A.n ((signP r.2 1 [.str [44]]).bind fun q=>bif !q.1 then some (A.put (cel r.1),q.2) else (takeP q.2).bind fun t=>lsP b cel fp m k (A.put (cel r.1)) t.2) else some (A,s)
theorem ls_loop {α R:Type}(b z:Nat)(cel:α→List PV)(fp:PS→Option (α×PS))(m:Int)(K:List (List PV)→PV→Option R)(lp:Nat→St→Option R)(fr:SlS→PS→St)
  (hs:∀ n A s,lp (n+1) (fr A s)=bif decide (s.b<0) then bif decide (m≤(A.n:Int)) then (flP s).bind fun s=>K [s.box] (A.pv z) else (fp s).bind fun r=>roomL b A.n ((signP r.2 1 [.str [44]]).bind fun q=>bif !q.1 then K [q.2.box] ((A.put (cel r.1)).pv z) else (takeP q.2).bind fun t=>lp n (fr (A.put (cel r.1)) t.2)) else K [s.box] (A.pv z)) :
  ∀ (k:Nat) (A:SlS) (s:PS) (q:SlS×PS),lsP b cel fp m k A s=some q→lp k (fr A s)=K [q.2.box] (q.1.pv z)
 |0,A,s,q,h=>by cases h
 |k+1,A,s,q,h=>by
  rw[hs]
  rw[lsP] at h
  cases h0:decide (s.b<0) with
  |false =>
   rw[h0,cond_false] at h
   injection h with h
   subst h
   rfl
  |true =>
   rw[h0,cond_true] at h
   rw[cond_true]
   cases h1:decide (m≤(A.n:Int)) with
   |true =>
    rw[h1,cond_true] at h
    obtain⟨s',h2,h⟩:=Option.bind_eq_some_iff.1 h
    injection h with h
    subst h
    rw[cond_true,h2,Option.bind_some]
   |false =>
    rw[h1,cond_false] at h
    obtain⟨r,h2,h⟩:=Option.bind_eq_some_iff.1 h
    rw[cond_false,h2,Option.bind_some]
    unfold roomL at h ⊢
    cases h3:(decide (A.n+1≤9223372036854775807)&&decide ((A.n+1) * b≤140737488355328)) with
    |false=>rw[h3,cond_false] at h;cases h
    |true =>
     rw[h3,cond_true] at h
     obtain⟨p,h4,h⟩:=Option.bind_eq_some_iff.1 h
     rw[cond_true,h4,Option.bind_some]
     cases h5:p.1 with
     |false =>
      rw[h5] at h
      injection h with h
      subst h
      rfl
     |true =>
      rw[h5] at h
      obtain⟨t,h6,h⟩:=Option.bind_eq_some_iff.1 h
      show (takeP p.2).bind _=_
      rw[h6,Option.bind_some]
      exact ls_loop b z cel fp m K lp fr hs k _ _ q h
def lsExP (s:PS)(m:Int):Option (SlS×PS):=lsP 152 XR.cells xE m (m.toNat+2) .nil s
theorem ok_lsEx:HOK NGs Ws 132 (tLEx lsExP) :=
 hok_tLEx woks allOK_nil (allH_cons (ok_fail pdeps) (allH_cons (ok_sign pdeps) (allH_cons (ok_take pdeps) (allH_cons ok_xE allH_nil)))) (h:=hLs) Tryz.func132 rfl (by decide) fun s m r h=>⟨m.toNat+2,fun K=>(raLEx lsF xE _ s m K).trans
  (ls_loop 152 13 XR.cells xE m K (lpLEx lsF xE _ K) (frLs (1000000+22) 13 m) (fun n A s=>by unfold lpLEx;rw[loopK_succ];exact stLEx lsF xE _ s m A K _) _ _ _ _ h)⟩
def lsItP (s:PS)(m:Int):Option (SlS×PS):=lsP 168 IR.cells itemP m (m.toNat+2) .nil s
theorem ok_lsIt:HOK NGs Ws 129 (tLIt lsItP) :=
 hok_tLIt woks allOK_nil (allH_cons (ok_fail pdeps) (allH_cons (ok_sign pdeps) (allH_cons (ok_take pdeps) (allH_cons ok_item allH_nil)))) (h:=hLs) Tryz.func129 rfl (by decide) fun s m r h=>⟨m.toNat+2,fun K=>(raLIt lsF itemP _ s m K).trans
  (ls_loop 168 14 IR.cells itemP m K (lpLIt lsF itemP _ K) (frLs (1000000+130) 14 m) (fun n A s=>by unfold lpLIt;rw[loopK_succ];exact stLIt lsF itemP _ s m A K _) _ _ _ _ h)⟩
def lsOrP (s:PS)(m:Int):Option (SlS×PS):=lsP 160 OR.cells orderP m (m.toNat+2) .nil s
theorem ok_lsOr:HOK NGs Ws 133 (tLOr lsOrP) :=
 hok_tLOr woks allOK_nil (allH_cons (ok_fail pdeps) (allH_cons (ok_sign pdeps) (allH_cons (ok_take pdeps) (allH_cons ok_order allH_nil)))) (h:=hLs) Tryz.func133 rfl (by decide) fun s m r h=>⟨m.toNat+2,fun K=>(raLOr lsF orderP _ s m K).trans
  (ls_loop 160 14 OR.cells orderP m K (lpLOr lsF orderP _ K) (frLs (1000000+134) 14 m) (fun n A s=>by unfold lpLOr;rw[loopK_succ];exact stLOr lsF orderP _ s m A K _) _ _ _ _ h)⟩
def seF:FSe:=⟨signP,takeP,lsItP,wE,sourceP,skipP,xE,whereP,lsExP,lsOrP,numberP⟩
theorem sel0_nat {R:Type}(F:FSe)(K:SR→PS→Option R)(s:PS):sel0 F K s=(sel0 F (fun r s=>some (r,s)) s).bind fun r=>K r.1 r.2:=by
 simp only[sel0,sel1,sel2,sel3,sel4,cond_bindo,roomL_bind,Option.bind_assoc,Option.bind_some]
def selP (s:PS):Option (SR×PS):=sel0 seF (fun r s=>some (r,s)) s
theorem ok_sel:HOK NGs Ws 71 (tSSt selP) :=
 hok_tSSt woks allOK_nil (allH_cons (ok_sign pdeps) (allH_cons (ok_take pdeps) (allH_cons ok_lsIt (allH_cons ok_wE (allH_cons ok_source (allH_cons (ok_skip pdeps) (allH_cons ok_xE (allH_cons ok_where (allH_cons ok_lsEx (allH_cons ok_lsOr (allH_cons (ok_pnumber pdeps) allH_nil))))))))))) (h:=hh0) Tryz.func71 rfl (by decide)
  fun s r h=>⟨0,fun K=>(selects_raw seF 0 s K).trans ((sel0_nat seF _ s).trans (by show (selP s).bind _=_;rw[h,Option.bind_some]))⟩
def noS:PS→Option (SR×PS):=fun _=>none
def stF:FSt:=⟨skipP,noS,noS,noS,noS,noS,removeP,selP,flP⟩
theorem stO_nat {R:Type}(F:FSt)(K:SR→PS→Option R)(s:PS):stO F K s=(stO F (fun r s=>some (r,s)) s).bind fun r=>K r.1 r.2:=by
 simp only[stO,cond_bindo,Option.bind_assoc,Option.bind_some]
def stmtP (s:PS):Option (SR×PS):=stO stF (fun r s=>some (r,s)) s
theorem ok_stmt:HOK NGs Ws 31 (tSSt stmtP) :=
 hok_tSSt woks allOK_nil (allH_cons (ok_skip pdeps) (allH_cons (none_tSSt fun _=>rfl) (allH_cons (none_tSSt fun _=>rfl) (allH_cons (none_tSSt fun _=>rfl) (allH_cons (none_tSSt fun _=>rfl) (allH_cons (none_tSSt fun _=>rfl) (allH_cons ok_remove (allH_cons ok_sel (allH_cons (ok_fail pdeps) allH_nil))))))))) (h:=hh0) Tryz.func31 rfl (by decide)
  fun s r h=>⟨0,fun K=>(stmt_raw stF 0 s K).trans ((stO_nat stF _ s).trans (by show (stmtP s).bind _=_;rw[h,Option.bind_some]))⟩
end Go.Proofs.YtkpfigikffphdaaGreatDoor
end
section
set_option maxRecDepth 100000
namespace Go.Proofs.YtkpfigikffphdaaGreatDoor
open Go.RowKit Go.Lib
theorem zeroCells_sizeX (cs:Array Value)(n:Nat):(Builtin.zeroCells cs n).size=n * cs.size:=by
 simp[Builtin.zeroCells]
set_option maxHeartbeats 4000000 in
theorem grow_expr (n:Nat) (h0:0<n) (hn:n≤1000000) (w:World) :
  Calls Tryz.prog 211 #[.slice none 0 0,.int .i64 n] w fun e w'=>∃ G arr,n≤G∧G≤maxLen∧arr.size=G * 13∧e=.returned (.slice (some ⟨w.heap.size,0,none⟩) 0 G)∧w'=w.drew.alloc (.cells arr 31):=by
 have h1:¬ ((n:Int)<0):=by omega
 have h2:wrap64 ((0:Int)-(0:Int))=0:=by unfold wrap64;omega
 have h3:wrap64 ((n:Int)-0)=(n:Int):=by unfold wrap64;omega
 have h4:(n:Int)>0:=by omega
 obtain⟨i0,hi0,hs0,hb0,z,hz0,hzs⟩:∃ i0,Tryz.prog.info? 31=some i0∧i0.size=13∧i0.bytes≤200∧∃ z,i0.zero=some z∧z.cells.size=13:=⟨Tryz.t31,by kernel_rfl,by kernel_rfl,by decide,_,rfl,by decide⟩
 have hbig:n * i0.bytes≤140737488355328:=Nat.le_trans (Nat.mul_le_mul hn hb0) (by decide)
 have hrz:∀ ty,(Builtin.append_ #[29,3] ty #[.slice none 0 0,.int .i64 (n:Int)]).run Tryz.prog w =
   .ok (.slice (some ⟨w.heap.size,0,none⟩) n (grownCap w n 0 31)) (w.drew.alloc (.cells (#[]++Builtin.zeroCells z.cells n++Builtin.zeroCells z.cells (grownCap w n 0 31-n)) 31)):=fun ty=>by
  have h:=Lib.run_append_grow_zeros w 29 3 ty 31 i0 z .i64 .i64 Tryz.underlying29 Tryz.underlying3 hi0 hz0 none 0 0 [] (run_firstCells_none w.drew i0.size 0 0 0) n h0 (by omega) (by omega) (by omega) (by omega)
   (by rw[Nat.zero_add];exact growslice_fits (by omega) hbig)
  rw[Nat.zero_add] at h
  exact h
 have hGn:n≤grownCap w n 0 31:=grownCap_ge w _ _ _
 have hGm:grownCap w n 0 31≤maxLen:=grownCap_le_maxLen w n 0 31 (by unfold maxLen;omega)
 obtain⟨G,hG⟩:∃ G,G=grownCap w n 0 31:=⟨_,rfl⟩
 rw[← hG] at hrz hGn hGm
 have hG63:G≤9223372036854775807:=by unfold maxLen at hGm;omega
 clear hG
 have key:Calls Tryz.prog 211 #[.slice none 0 0,.int .i64 n] w fun e w'=>e=.returned (.slice (some ⟨w.heap.size,0,none⟩) 0 G)∧w'=w.drew.alloc (.cells (#[]++Builtin.zeroCells z.cells n++Builtin.zeroCells z.cells (G-n)) 31):=by
  go_enter Tryz.func211,Tryz.ntmps211
  go_wp2_with (at_builtin;refine Lib.wpList_append_run _ rfl _ _ _ _ rfl _ _ rfl rfl _ _ (hrz _) ?_)
  all_goals (go_ret;exact⟨rfl,rfl⟩)
 exact key.mono fun e w' ⟨h1,h2⟩=>⟨G,_,hGn,hGm,by
  simp only[Array.size_append,zeroCells_sizeX,hzs]
  simp only[List.size_toArray,List.length_nil]
  rw[Nat.zero_add,← Nat.add_mul]
  congr 1;omega,h1,h2⟩
theorem cond_natX {R:Type}{b:Bool}{x:PV}{k:PV→Option R}:(bif b then k x else none)=(bif b then some x else none).bind k:=by cases b<;>rfl
def p_growX:PFn:=⟨fun xs k=>match xs with|[.sl (some true) 13 0 [],.int .i64 n]=>bif decide (0<n)&&decide (n≤1000000) then k (.sl (some false) 13 0 []) else none|_=>none,true⟩
theorem ok_growX {NG:Nat}{W:World→Prop}:FOK NG W 211 p_growX where
 nat:=by
  intro R xs k
  simp only[p_growX]
  split
  ·exact Go.Proofs.YtkpfigikffphdaaGreatDoor.cond_natX
  ·rfl
 call := by
  intro M xs vs r hW hng hG hr h
  simp only[p_growX] at h
  split at h
  ·rename_i n
   rcases hb:(decide (0<n)&&decide (n≤1000000)) with _|_<;>rw[hb] at h
   ·cases h
   simp only[Bool.and_eq_true,decide_eq_true_eq] at hb
   injection h with h
   subst h
   simp only[RelT,RelD] at hr
   obtain⟨_,_,rfl,⟨A,c,cs,rfl,h1,h2,h3,h4,h5,h6,h7⟩,_,_,rfl,rfl,rfl⟩:=hr
   have hA:=h3 true rfl
   obtain rfl:A=none:=by cases A<;>simp_all
   obtain rfl:=h4 rfl
   obtain⟨m,rfl⟩:∃ m:Nat,n=(m:Int):=⟨n.toNat,by omega⟩
   refine .inr ⟨?_,(grow_expr m (by omega) (by omega) M.w).mono ?_⟩
   ·show (callFunc _ _).run Tryz.prog M.w=_
    simp[callFunc,Tryz.func211]
    rw[if_neg (by decide),if_neg (by decide)]
   ·rintro e w' ⟨G,arr,g1,g2,g3,rfl,rfl⟩
    have hb1:Below M.w.heap.size M.w M.w.drew:=(Below.refl _ _).drew
    have hm:Move M (M.lay (M.w.drew.alloc (.cells arr 31)) M.w.heap.size 0) none:=Move.lay (below_alloc hb1 _) (Nat.le_refl _) 0
    refine⟨_,rfl,_,hm,?_,fun _=>⟨_,_,_,_,rfl,.inr ⟨M.w.heap.size,Nat.le_refl _,⟨0,G,arr,31,rfl,heap_alloc_new _ _,Nat.zero_le _,g2,g3,?_⟩⟩⟩⟩
    ·simp only[RelD]
     exact⟨_,G,[],rfl,Nat.zero_le _,g2,(fun b hb=>(by cases hb;rfl)),(fun h=>(by cases h)),rfl,rfl,Or.inl rfl⟩
    ·simp[Mem.lay]
  ·cases h
theorem grow_zeroX (w:World):Calls Tryz.prog 211 #[.slice none 0 0,.int .i64 0] w fun e w'=>e=.returned (.slice none 0 0)∧w'=w:=by
 have h2:wrap64 ((0:Int)-(0:Int))=0:=by unfold wrap64;omega
 go_enter Tryz.func211,Tryz.ntmps211
 go_wp2
 all_goals (go_ret;exact⟨rfl,rfl⟩)
def p_growY:PFn:=⟨fun xs k=>match xs with|[.sl (some true) 13 0 [],.int .i64 n]=>bif decide (0≤n)&&decide (n≤1000000) then k (.sl (some (n==0)) 13 0 []) else none|_=>none,true⟩
theorem ok_growY {NG:Nat}{W:World→Prop}:FOK NG W 211 p_growY where
 nat:=by
  intro R xs k
  simp only[p_growY]
  split
  ·exact Go.Proofs.YtkpfigikffphdaaGreatDoor.cond_natX
  ·rfl
 call := by
  intro M xs vs r hW hng hG hr h
  simp only[p_growY] at h
  split at h
  ·rename_i n
   rcases hb:(decide (0≤n)&&decide (n≤1000000)) with _|_<;>rw[hb] at h
   ·cases h
   simp only[Bool.and_eq_true,decide_eq_true_eq] at hb
   by_cases h0:n=0
   ·subst h0
    injection h with h
    subst h
    simp only[RelT,RelD] at hr
    obtain⟨_,_,rfl,⟨A,c,cs,rfl,h1,h2,h3,h4,h5,h6,h7⟩,_,_,rfl,rfl,rfl⟩:=hr
    have hA:=h3 true rfl
    obtain rfl:A=none:=by cases A<;>simp_all
    obtain rfl:=h4 rfl
    refine .inr ⟨?_,(grow_zeroX M.w).mono ?_⟩
    ·show (callFunc _ _).run Tryz.prog M.w=_
     simp[callFunc,Tryz.func211]
     rw[if_neg (by decide),if_neg (by decide)]
    ·rintro e w' ⟨rfl,rfl⟩
     refine⟨_,rfl,M.U,Move.refl _,?_,fun _=>⟨_,_,_,_,rfl,.inl ⟨none,0,rfl⟩⟩⟩
     simp only[RelD]
     exact⟨none,0,cs,rfl,Nat.le_refl _,h2,h3,h4,h5,h6,h7⟩
   ·have hr2:p_growX.F [.sl (some true) 13 0 [],.int .i64 n] (R:=PV) some=some r:=by
     simp only[p_growX]
     rw[cond_true,show (n==0)=false from beq_eq_false_iff_ne.2 h0] at h
     rw[cond_t (by rw[decide_eq_true (by omega),decide_eq_true hb.2];rfl)]
     exact h
    exact ok_growX.call M _ vs r hW hng hG hr hr2
  ·cases h
def tTr {R:Type}(x:Option Bool)(k:PV→Option R):Option R:=x.bind fun r=>bif r then k (.bool true) else none
theorem tTr_bind {R S:Type}{x:Option Bool}{k:PV→Option R}{g:R→Option S}:(tTr x k).bind g=tTr x fun v=>(k v).bind g:=by
 cases x with
 |none=>rfl
 |some b=>cases b<;>rfl
theorem tTr_inv {R:Type}{x:Option Bool}{k:PV→Option R}{r:R}(h:tTr x k=some r):x=some true∧k (.bool true)=some r:=by
 cases x with
 |none=>cases h
 |some b =>
  cases b
  ·cases h
  ·exact⟨rfl,h⟩
def tKKt (f:Nat→List PV→Nat→List PV→Option Bool):PFn:=⟨fun xs k=>match xs with|[.sl _ zn n c,.sl _ zm m d]=>if zn=13 then if zm=13 then tTr (f n c m d) k else none else none|_=>none,false⟩
theorem tKKt_nat (f:Nat→List PV→Nat→List PV→Option Bool):(tKKt f).nat:=by
 intro R xs k
 simp only[tKKt]
 split
 ·simp only[iteo_bind,tTr_bind]
  rfl
 ·rfl
theorem ok_sms:FOK NGs Ws 29 (tKKt (smsD 6000)):=fok_wk (ok_sames (ok_same 6000)) (tKKt_nat _) rfl fun xs r h=>by
 simp only[tKKt] at h
 split at h
 ·obtain⟨h1,h⟩:=ite_inv h
  obtain⟨h2,h⟩:=ite_inv h
  obtain⟨h3,h⟩:=tTr_inv h
  simp only[tKK,h1,h2,if_true,h3]
  exact h
 ·cases h
def tXXt (f:XR→XR→Option Bool):PFn:=⟨fun xs k=>match xs with|[xe,xd]=>onXR xe fun e=>onXR xd fun d=>tTr (f e d) k|_=>none,false⟩
theorem tXXt_nat (f:XR→XR→Option Bool):(tXXt f).nat:=by
 intro R xs k
 simp only[tXXt]
 split
 ·simp only[onXR_bind,tTr_bind]
  rfl
 ·rfl
theorem ok_smx:FOK NGs Ws 12 (tXXt (smD 6000)):=fok_wk (ok_same 6000) (tXXt_nat _) rfl fun xs r h=>by
 simp only[tXXt] at h
 split at h
 ·obtain⟨e,he,h1⟩:=onXR_inv h
  obtain⟨d,hd,h2⟩:=onXR_inv h1
  obtain⟨h3,h4⟩:=tTr_inv h2
  subst he hd
  have e:(tXX (smD 6000)).F [.agg e.cells,.agg d.cells] (R:=PV) some=(smD 6000 e d).bind fun b=>some (.bool b):=rfl
  rw[e,h3]
  exact h4
 ·cases h
def tXBt (f:XR→Option Bool):PFn:=⟨fun xs k=>match xs with|[xe]=>onXR xe fun e=>tTr (f e) k|_=>none,false⟩
theorem tXBt_nat (f:XR→Option Bool):(tXBt f).nat:=by
 intro R xs k
 simp only[tXBt]
 split
 ·simp only[onXR_bind,tTr_bind]
  rfl
 ·rfl
theorem ok_rgx:FOK NGs Ws 23 (tXBt rgX):=fok_wk ok_rightX (tXBt_nat _) rfl fun xs r h=>by
 simp only[tXBt] at h
 split at h
 ·obtain⟨e,he,h1⟩:=onXR_inv h
  obtain⟨h3,h4⟩:=tTr_inv h1
  subst he
  have e:(tXB rgX).F [.agg e.cells] (R:=PV) some=(rgX e).bind fun b=>some (.bool b):=rfl
  rw[e,h3]
  exact h4
 ·cases h
noncomputable def v_zsyntax_short:PFn:=evalFn [] ⟨[],[]⟩ 6 Tryz.f72
theorem ok_zsyntax_short:FOK NGs Ws 72 v_zsyntax_short:=evalFn_ok woks allOK_nil Tryz.func72 rfl (by decide)
noncomputable def v_zdecimal_Right:PFn:=evalFn [] ⟨[],[]⟩ 6 Tryz.f163
theorem ok_zdecimal_Right:FOK NGs Ws 163 v_zdecimal_Right:=evalFn_ok woks allOK_nil Tryz.func163 rfl (by decide)
noncomputable def v_zvalue_RightType:PFn:=evalFn [(163,v_zdecimal_Right)] ⟨[],[]⟩ 6 Tryz.f82
theorem ok_zvalue_RightType:FOK NGs Ws 82 v_zvalue_RightType:=evalFn_ok woks (allOK_cons ok_zdecimal_Right allOK_nil) Tryz.func82 rfl (by decide)
noncomputable def v_zslices_IndexFunc___api_Column_api_Column_:PFn:=evalFn [] ⟨[],[(0,⟨[(0,false),(1,false),(7,false),(8,false)],[]⟩)]⟩ 6 Tryz.f202
theorem ok_zslices_IndexFunc___api_Column_api_Column_:FOK NGs Ws 202 v_zslices_IndexFunc___api_Column_api_Column_:=evalFn_ok woks allOK_nil Tryz.func202 rfl (by decide)
noncomputable def v_zslices_ContainsFunc___api_Column_api_Column_:PFn:=evalFn [(202,v_zslices_IndexFunc___api_Column_api_Column_)] ⟨[],[]⟩ 6 Tryz.f137
theorem ok_zslices_ContainsFunc___api_Column_api_Column_:FOK NGs Ws 137 v_zslices_ContainsFunc___api_Column_api_Column_:=evalFn_ok woks (allOK_cons ok_zslices_IndexFunc___api_Column_api_Column_ allOK_nil) Tryz.func137 rfl (by decide)
noncomputable def v_zunicode_utf8_word_string_:PFn:=evalFn [] ⟨[],[]⟩ 6 Tryz.f278
theorem ok_zunicode_utf8_word_string_:FOK NGs Ws 278 v_zunicode_utf8_word_string_:=evalFn_ok woks allOK_nil Tryz.func278 rfl (by decide)
noncomputable def v_zunicode_utf8_ValidString:PFn:=evalFn [(278,v_zunicode_utf8_word_string_)] ⟨[],[(2,⟨[(0,false)],[]⟩),(0,⟨[(0,false)],[]⟩)]⟩ 6 Tryz.f257
theorem ok_zunicode_utf8_ValidString:FOK NGs Ws 257 v_zunicode_utf8_ValidString:=evalFn_ok woks (allOK_cons ok_zunicode_utf8_word_string_ allOK_nil) Tryz.func257 rfl (by decide)
noncomputable def v_zvalue_Right:PFn:=evalFn [(163,v_zdecimal_Right),(257,v_zunicode_utf8_ValidString)] ⟨[],[]⟩ 6 Tryz.f231
theorem ok_zvalue_Right:FOK NGs Ws 231 v_zvalue_Right:=evalFn_ok woks (allOK_cons ok_zdecimal_Right (allOK_cons ok_zunicode_utf8_ValidString allOK_nil)) Tryz.func231 rfl (by decide)
noncomputable def v_zvalue_Of:PFn:=evalFn [(82,v_zvalue_RightType),(231,v_zvalue_Right)] ⟨[],[]⟩ 6 Tryz.f203
theorem ok_zvalue_Of:FOK NGs Ws 203 v_zvalue_Of:=evalFn_ok woks (allOK_cons ok_zvalue_RightType (allOK_cons ok_zvalue_Right allOK_nil)) Tryz.func203 rfl (by decide)
noncomputable def v_zsyntax_columnOf:PFn:=evalFn [(82,v_zvalue_RightType),(136,tNm),(203,v_zvalue_Of)] ⟨[],[]⟩ 6 Tryz.f139
theorem ok_zsyntax_columnOf:FOK NGs Ws 139 v_zsyntax_columnOf:=evalFn_ok woks (allOK_cons ok_zvalue_RightType (allOK_cons ok_sName (allOK_cons ok_zvalue_Of allOK_nil))) Tryz.func139 rfl (by decide)
noncomputable def v_zslices_IndexFunc___string_string_:PFn:=evalFn [] ⟨[],[(0,⟨[(0,false),(1,false),(7,false),(8,false)],[]⟩)]⟩ 6 Tryz.f237
theorem ok_zslices_IndexFunc___string_string_:FOK NGs Ws 237 v_zslices_IndexFunc___string_string_:=evalFn_ok woks allOK_nil Tryz.func237 rfl (by decide)
noncomputable def v_zslices_ContainsFunc___string_string_:PFn:=evalFn [(237,v_zslices_IndexFunc___string_string_)] ⟨[],[]⟩ 6 Tryz.f204
theorem ok_zslices_ContainsFunc___string_string_:FOK NGs Ws 204 v_zslices_ContainsFunc___string_string_:=evalFn_ok woks (allOK_cons ok_zslices_IndexFunc___string_string_ allOK_nil) Tryz.func204 rfl (by decide)
noncomputable def v_zsyntax_names:PFn:=evalFn [(204,v_zslices_ContainsFunc___string_string_)] ⟨[],[]⟩ 6 Tryz.f140
theorem ok_zsyntax_names:FOK NGs Ws 140 v_zsyntax_names:=evalFn_ok woks (allOK_cons ok_zslices_ContainsFunc___string_string_ allOK_nil) Tryz.func140 rfl (by decide)
noncomputable def v_zslices_IndexFunc_____api_Expr___api_Expr_:PFn:=evalFn [] ⟨[],[(0,⟨[(0,false),(1,false),(7,false),(8,false)],[]⟩)]⟩ 6 Tryz.f206
theorem ok_zslices_IndexFunc_____api_Expr___api_Expr_:FOK NGs Ws 206 v_zslices_IndexFunc_____api_Expr___api_Expr_:=evalFn_ok woks allOK_nil Tryz.func206 rfl (by decide)
noncomputable def v_zslices_ContainsFunc_____api_Expr___api_Expr_:PFn:=evalFn [(206,v_zslices_IndexFunc_____api_Expr___api_Expr_)] ⟨[],[]⟩ 6 Tryz.f141
theorem ok_zslices_ContainsFunc_____api_Expr___api_Expr_:FOK NGs Ws 141 v_zslices_ContainsFunc_____api_Expr___api_Expr_:=evalFn_ok woks (allOK_cons ok_zslices_IndexFunc_____api_Expr___api_Expr_ allOK_nil) Tryz.func141 rfl (by decide)
noncomputable def v_zslices_IndexFunc___api_Set_api_Set_:PFn:=evalFn [] ⟨[],[(0,⟨[(0,false),(1,false),(7,false),(8,false)],[]⟩)]⟩ 6 Tryz.f207
theorem ok_zslices_IndexFunc___api_Set_api_Set_:FOK NGs Ws 207 v_zslices_IndexFunc___api_Set_api_Set_:=evalFn_ok woks allOK_nil Tryz.func207 rfl (by decide)
noncomputable def v_zslices_ContainsFunc___api_Set_api_Set_:PFn:=evalFn [(207,v_zslices_IndexFunc___api_Set_api_Set_)] ⟨[],[]⟩ 6 Tryz.f143
theorem ok_zslices_ContainsFunc___api_Set_api_Set_:FOK NGs Ws 143 v_zslices_ContainsFunc___api_Set_api_Set_:=evalFn_ok woks (allOK_cons ok_zslices_IndexFunc___api_Set_api_Set_ allOK_nil) Tryz.func143 rfl (by decide)
noncomputable def v_zsyntax_optional:PFn:=evalFn [(136,tNm)] ⟨[],[]⟩ 6 Tryz.f208
theorem ok_zsyntax_optional:FOK NGs Ws 208 v_zsyntax_optional:=evalFn_ok woks (allOK_cons ok_sName allOK_nil) Tryz.func208 rfl (by decide)
noncomputable def v_zsyntax_selects_1:PFn:=evalFn [(208,v_zsyntax_optional)] ⟨[],[]⟩ 6 Tryz.f210
theorem ok_zsyntax_selects_1:FOK NGs Ws 210 v_zsyntax_selects_1:=evalFn_ok woks (allOK_cons ok_zsyntax_optional allOK_nil) Tryz.func210 rfl (by decide)
noncomputable def v_zslices_IndexFunc___api_Item_api_Item_:PFn:=evalFn [(210,v_zsyntax_selects_1)] ⟨[],[(0,⟨[(0,false),(1,false),(7,false),(8,false)],[]⟩)]⟩ 6 Tryz.f238
theorem ok_zslices_IndexFunc___api_Item_api_Item_:FOK NGs Ws 238 v_zslices_IndexFunc___api_Item_api_Item_:=evalFn_ok woks (allOK_cons ok_zsyntax_selects_1 allOK_nil) Tryz.func238 rfl (by decide)
noncomputable def v_zslices_ContainsFunc___api_Item_api_Item_:PFn:=evalFn [(238,v_zslices_IndexFunc___api_Item_api_Item_)] ⟨[],[]⟩ 6 Tryz.f209
theorem ok_zslices_ContainsFunc___api_Item_api_Item_:FOK NGs Ws 209 v_zslices_ContainsFunc___api_Item_api_Item_:=evalFn_ok woks (allOK_cons ok_zslices_IndexFunc___api_Item_api_Item_ allOK_nil) Tryz.func209 rfl (by decide)
noncomputable def v_zsyntax_selects:PFn:=evalFn [(136,tNm),(208,v_zsyntax_optional),(209,v_zslices_ContainsFunc___api_Item_api_Item_)] ⟨[],[(0,⟨[(1,false),(41,false),(42,false),(43,false)],[1]⟩)]⟩ 6 Tryz.f145
theorem ok_zsyntax_selects:FOK NGs Ws 145 v_zsyntax_selects:=evalFn_ok woks (allOK_cons ok_sName (allOK_cons ok_zsyntax_optional (allOK_cons ok_zslices_ContainsFunc___api_Item_api_Item_ allOK_nil))) Tryz.func145 rfl (by decide)
noncomputable def v_zsyntax_parts:PFn:=evalFn [(82,v_zvalue_RightType),(136,tNm),(137,v_zslices_ContainsFunc___api_Column_api_Column_),(139,v_zsyntax_columnOf),(140,v_zsyntax_names),(141,v_zslices_ContainsFunc_____api_Expr___api_Expr_),(143,v_zslices_ContainsFunc___api_Set_api_Set_),(145,v_zsyntax_selects)] ⟨[],[]⟩ 6 Tryz.f73
theorem ok_zsyntax_parts:FOK NGs Ws 73 v_zsyntax_parts:=evalFn_ok woks (allOK_cons ok_zvalue_RightType (allOK_cons ok_sName (allOK_cons ok_zslices_ContainsFunc___api_Column_api_Column_ (allOK_cons ok_zsyntax_columnOf (allOK_cons ok_zsyntax_names (allOK_cons ok_zslices_ContainsFunc_____api_Expr___api_Expr_ (allOK_cons ok_zslices_ContainsFunc___api_Set_api_Set_ (allOK_cons ok_zsyntax_selects allOK_nil)))))))) Tryz.func73 rfl (by decide)
noncomputable def v_zslices_Equal___string_string_:PFn:=evalFn [] ⟨[],[(0,⟨[(0,false),(1,false),(12,false),(13,false)],[]⟩)]⟩ 6 Tryz.f146
theorem ok_zslices_Equal___string_string_:FOK NGs Ws 146 v_zslices_Equal___string_string_:=evalFn_ok woks allOK_nil Tryz.func146 rfl (by decide)
noncomputable def v_zslices_Equal___api_Column_api_Column_:PFn:=evalFn [] ⟨[],[(0,⟨[(0,false),(1,false),(12,false),(13,false)],[]⟩)]⟩ 6 Tryz.f147
theorem ok_zslices_Equal___api_Column_api_Column_:FOK NGs Ws 147 v_zslices_Equal___api_Column_api_Column_:=evalFn_ok woks allOK_nil Tryz.func147 rfl (by decide)
noncomputable def v_zslices_Equal___api_Source_api_Source_:PFn:=evalFn [] ⟨[],[(0,⟨[(0,false),(1,false),(12,false),(13,false)],[]⟩)]⟩ 6 Tryz.f148
theorem ok_zslices_Equal___api_Source_api_Source_:FOK NGs Ws 148 v_zslices_Equal___api_Source_api_Source_:=evalFn_ok woks allOK_nil Tryz.func148 rfl (by decide)
noncomputable def v_zslices_EqualFunc_____api_Expr_____api_Expr___api_Expr___api_Expr_:PFn:=evalFn [] ⟨[],[(0,⟨[(1,false),(2,false),(15,false),(16,false),(17,false)],[]⟩)]⟩ 6 Tryz.f149
theorem ok_zslices_EqualFunc_____api_Expr_____api_Expr___api_Expr___api_Expr_:FOK NGs Ws 149 v_zslices_EqualFunc_____api_Expr_____api_Expr___api_Expr___api_Expr_:=evalFn_ok woks allOK_nil Tryz.func149 rfl (by decide)
noncomputable def v_zslices_EqualFunc___api_Set___api_Set_api_Set_api_Set_:PFn:=evalFn [] ⟨[],[(0,⟨[(1,false),(2,false),(15,false),(16,false),(17,false)],[]⟩)]⟩ 6 Tryz.f150
theorem ok_zslices_EqualFunc___api_Set___api_Set_api_Set_api_Set_:FOK NGs Ws 150 v_zslices_EqualFunc___api_Set___api_Set_api_Set_api_Set_:=evalFn_ok woks allOK_nil Tryz.func150 rfl (by decide)
noncomputable def v_zsyntax_Same_2 (fx:XR→XR→Option Bool):PFn:=evalFn [(12,(tXXt fx))] ⟨[],[]⟩ 6 Tryz.f153
theorem ok_zsyntax_Same_2:FOK NGs Ws 153 (v_zsyntax_Same_2 (smD 6000)):=evalFn_ok woks (allOK_cons ok_smx allOK_nil) Tryz.func153 rfl (by decide)
noncomputable def v_zslices_EqualFunc___api_Item___api_Item_api_Item_api_Item_ (fx:XR→XR→Option Bool):PFn:=evalFn [(153,(v_zsyntax_Same_2 fx))] ⟨[],[(0,⟨[(1,false),(2,false),(15,false),(16,false),(17,false)],[]⟩)]⟩ 6 Tryz.f152
theorem ok_zslices_EqualFunc___api_Item___api_Item_api_Item_api_Item_:FOK NGs Ws 152 (v_zslices_EqualFunc___api_Item___api_Item_api_Item_api_Item_ (smD 6000)):=evalFn_ok woks (allOK_cons ok_zsyntax_Same_2 allOK_nil) Tryz.func152 rfl (by decide)
noncomputable def v_zslices_EqualFunc___api_Order___api_Order_api_Order_api_Order_:PFn:=evalFn [] ⟨[],[(0,⟨[(1,false),(2,false),(15,false),(16,false),(17,false)],[]⟩)]⟩ 6 Tryz.f154
theorem ok_zslices_EqualFunc___api_Order___api_Order_api_Order_api_Order_:FOK NGs Ws 154 v_zslices_EqualFunc___api_Order___api_Order_api_Order_api_Order_:=evalFn_ok woks allOK_nil Tryz.func154 rfl (by decide)
noncomputable def v_zsyntax_Same (fs:Nat→List PV→Nat→List PV→Option Bool)(fx:XR→XR→Option Bool):PFn:=evalFn [(29,(tKKt fs)),(146,v_zslices_Equal___string_string_),(147,v_zslices_Equal___api_Column_api_Column_),(148,v_zslices_Equal___api_Source_api_Source_),(149,v_zslices_EqualFunc_____api_Expr_____api_Expr___api_Expr___api_Expr_),(150,v_zslices_EqualFunc___api_Set___api_Set_api_Set_api_Set_),(152,(v_zslices_EqualFunc___api_Item___api_Item_api_Item_api_Item_ fx)),(154,v_zslices_EqualFunc___api_Order___api_Order_api_Order_api_Order_)] ⟨[],[]⟩ 6 Tryz.f74
theorem ok_zsyntax_Same:FOK NGs Ws 74 (v_zsyntax_Same (smsD 6000) (smD 6000)):=evalFn_ok woks (allOK_cons ok_sms (allOK_cons ok_zslices_Equal___string_string_ (allOK_cons ok_zslices_Equal___api_Column_api_Column_ (allOK_cons ok_zslices_Equal___api_Source_api_Source_ (allOK_cons ok_zslices_EqualFunc_____api_Expr_____api_Expr___api_Expr___api_Expr_ (allOK_cons ok_zslices_EqualFunc___api_Set___api_Set_api_Set_api_Set_ (allOK_cons ok_zslices_EqualFunc___api_Item___api_Item_api_Item_api_Item_ (allOK_cons ok_zslices_EqualFunc___api_Order___api_Order_api_Order_api_Order_ allOK_nil)))))))) Tryz.func74 rfl (by decide)
noncomputable def v_zsyntax_Right_1 (fr:XR→Option Bool):PFn:=evalFn [(23,(tXBt fr))] ⟨[],[]⟩ 6 Tryz.f77
theorem ok_zsyntax_Right_1:FOK NGs Ws 77 (v_zsyntax_Right_1 rgX):=evalFn_ok woks (allOK_cons ok_rgx allOK_nil) Tryz.func77 rfl (by decide)
noncomputable def v_zslices_IndexFunc___api_Expr_api_Expr_ (fr:XR→Option Bool):PFn:=evalFn [(77,(v_zsyntax_Right_1 fr))] ⟨[],[(0,⟨[(0,false),(1,false),(7,false),(8,false)],[]⟩)]⟩ 6 Tryz.f156
theorem ok_zslices_IndexFunc___api_Expr_api_Expr_:FOK NGs Ws 156 (v_zslices_IndexFunc___api_Expr_api_Expr_ rgX):=evalFn_ok woks (allOK_cons ok_zsyntax_Right_1 allOK_nil) Tryz.func156 rfl (by decide)
noncomputable def v_zslices_ContainsFunc___api_Expr_api_Expr_ (fr:XR→Option Bool):PFn:=evalFn [(156,(v_zslices_IndexFunc___api_Expr_api_Expr_ fr))] ⟨[],[]⟩ 6 Tryz.f75
theorem ok_zslices_ContainsFunc___api_Expr_api_Expr_:FOK NGs Ws 75 (v_zslices_ContainsFunc___api_Expr_api_Expr_ rgX):=evalFn_ok woks (allOK_cons ok_zslices_IndexFunc___api_Expr_api_Expr_ allOK_nil) Tryz.func75 rfl (by decide)
noncomputable def v_zslices_Concat___api_Expr_api_Expr_:PFn:=evalFn [(211,p_growY)] ⟨[],[(2,⟨[(6,true),(25,false),(26,false),(27,false)],[]⟩),(0,⟨[(0,false),(3,false),(9,false),(10,false),(11,false)],[]⟩)]⟩ 6 Tryz.f157 true
theorem ok_zslices_Concat___api_Expr_api_Expr_:FOK NGs Ws 157 v_zslices_Concat___api_Expr_api_Expr_:=evalFn_ok woks (allOK_cons ok_growY allOK_nil) Tryz.func157 rfl (by decide)
noncomputable def v_zsyntax_Exprs:PFn:=evalFn [(157,v_zslices_Concat___api_Expr_api_Expr_)] ⟨[],[(4,⟨[(3,true),(49,false),(50,false),(51,false)],[]⟩),(2,⟨[(1,false),(3,true),(27,false),(28,false),(29,false)],[1]⟩),(0,⟨[(1,false),(3,true),(14,false),(15,false),(16,false)],[1]⟩)]⟩ 6 Tryz.f76
theorem ok_zsyntax_Exprs:FOK NGs Ws 76 v_zsyntax_Exprs:=evalFn_ok woks (allOK_cons ok_zslices_Concat___api_Expr_api_Expr_ allOK_nil) Tryz.func76 rfl (by decide)
noncomputable def v_zsyntax_Right (fs:Nat→List PV→Nat→List PV→Option Bool)(fx:XR→XR→Option Bool)(fr:XR→Option Bool):PFn:=evalFn [(72,v_zsyntax_short),(73,v_zsyntax_parts),(74,(v_zsyntax_Same fs fx)),(75,(v_zslices_ContainsFunc___api_Expr_api_Expr_ fr)),(76,v_zsyntax_Exprs)] ⟨[],[]⟩ 6 Tryz.f32
theorem ok_zsyntax_Right:FOK NGs Ws 32 (v_zsyntax_Right (smsD 6000) (smD 6000) rgX):=evalFn_ok woks (allOK_cons ok_zsyntax_short (allOK_cons ok_zsyntax_parts (allOK_cons ok_zsyntax_Same (allOK_cons ok_zslices_ContainsFunc___api_Expr_api_Expr_ (allOK_cons ok_zsyntax_Exprs allOK_nil))))) Tryz.func32 rfl (by decide)
def selX (y x:XR):SR:=⟨9,[],[],false,.nil,.nil,.nil,.nil,.one x.cells,.one (IR.cells ⟨y,[]⟩),.one (SoR.cells ⟨[116],[]⟩),.nil,.nil,.nil,-1⟩
end Go.Proofs.YtkpfigikffphdaaGreatDoor
end
section
set_option maxRecDepth 100000
namespace Go.Proofs.YtkpfigikffphdaaGreatDoor
open Go.RowKit
def asBl:PV→Option Bool
 | .bool b=>some b
 |_=>none
theorem asBl_inv {v:PV}{b:Bool}(h:asBl v=some b):v=.bool b:=by
 unfold asBl at h
 split at h
 ·injection h with h;subst h;rfl
 ·cases h
noncomputable def rightS (e:SR):Option Bool:=((v_zsyntax_Right (smsD 6000) (smD 6000) rgX).F [.agg e.cells] (R:=PV) some).bind asBl
theorem ok_rightS:FOK NGs Ws 32 (tStB rightS):=fok_wk ok_zsyntax_Right (tStB_nat _) rfl fun xs r h=>by
 simp only[tStB] at h
 split at h
 ·obtain⟨e,he,h1⟩:=onSR_inv h
  obtain⟨b,hb,h2⟩:=Option.bind_eq_some_iff.1 h1
  subst he
  obtain⟨v,hv,h3⟩:=Option.bind_eq_some_iff.1 hb
  have:=asBl_inv h3
  subst this
  rw[hv]
  exact h2
 ·cases h
def tPV (r:SR×Int×Int):PV:=.tuple [.agg r.1.cells,.int .i64 r.2.1,.int .i64 r.2.2]
def tRs (f:List UInt8→Option (SR×Int×Int)):PFn:=⟨fun xs k=>match xs with|[.str s,.clo p [],.clo q []]=>if p=31 then if q=32 then (f s).bind fun r=>k (tPV r) else none else none|_=>none,false⟩
theorem tRs_nat (f:List UInt8→Option (SR×Int×Int)):(tRs f).nat:=by
 intro R xs k
 simp only[tRs]
 split
 ·simp only[iteo_bind,Option.bind_assoc,Option.bind_some]
 ·rfl
def tPs (f:List UInt8→Option (SR×Int×Int)):PFn:=⟨fun xs k=>match xs with|[.str s]=>(f s).bind fun r=>k (tPV r)|_=>none,false⟩
theorem tPs_nat (f:List UInt8→Option (SR×Int×Int)):(tPs f).nat:=by
 intro R xs k
 simp only[tPs]
 split
 ·simp only[Option.bind_assoc,Option.bind_some]
 ·rfl
def prE (e:SR)(b:Int):SR×Int×Int:=bif decide ((0:Int)≤b) then (SR.zero,b,170) else (e,0,0)
noncomputable def prR (e:SR)(s:PS):Option (SR×Int×Int):=bif decide (s.b<0) then (rightS e).bind fun ok=>bif !ok then some (prE e 0) else some (prE e s.b) else some (prE e s.b)
theorem prE_eq (e:SR)(b:Int):prEnd e b=some (tPV (prE e b)):=by
 unfold prEnd prE
 cases decide ((0:Int)≤b)<;>rfl
theorem prR_eq (e:SR)(s:PS):prTail rightS e s=(prR e s).bind fun r=>some (tPV r):=by
 unfold prTail prR
 cases decide (s.b<0) with
 |false=>rw[cond_false,cond_false,prE_eq,Option.bind_some]
 |true =>
  rw[cond_true,cond_true,Option.bind_assoc]
  congr 1
  funext ok
  cases ok
  ·exact prE_eq e 0
  ·exact prE_eq e s.b
noncomputable def stmtV (s:List UInt8):Option (SR×Int×Int):=match lexS s with
 | .inl a=>some (SR.zero,a,170)
 | .inr T=>(stmtP (PG (s.length:Int) (some T.isEmpty) 0 T)).bind fun e=>bif decide ((0:Int)<(e.2.n:Int)) then (flP e.2).bind fun s=>prR e.1 s else prR e.1 e.2
theorem ok_readS:FOK NGs Ws 30 (tRs stmtV) :=
 fokH woks (allOK_cons ok_lexD (allOK_cons ok_rightS allOK_nil)) (allH_cons ok_stmt (allH_cons (ok_fail pdeps) allH_nil)) allI_nil (h:=hh0) Tryz.func30 rfl (by decide) (tRs_nat _) fun xs r h=>by
  simp only[tRs] at h
  split at h
  ·rename_i w p q
   obtain⟨hzp,h1⟩:=ite_inv h
   subst hzp
   obtain⟨hzq,h2⟩:=ite_inv h1
   subst hzq
   obtain⟨v,hv,h3⟩:=Option.bind_eq_some_iff.1 h2
   injection h3 with h3
   subst h3
   refine⟨0,(readS_raw lexD stmtP flP rightS 0 w).trans ?_⟩
   unfold stmtV at hv
   unfold lexD
   rw[Option.bind_some]
   cases hl:lexS w with
   |inl a =>
    rw[hl] at hv
    injection hv with hv
    subst hv
    rfl
   |inr T =>
    rw[hl] at hv
    have hst:(⟨(lxRes (.inr T)).nl,(lxRes (.inr T)).n,(lxRes (.inr T)).cs,(w.length:Int),0,-1⟩:PS)=PG (w.length:Int) (some T.isEmpty) 0 T:=rfl
    rw[cond_f (by rfl),hst]
    obtain⟨e,he,hv⟩:=Option.bind_eq_some_iff.1 hv
    rw[he,Option.bind_some]
    cases hn:decide ((0:Int)<(e.2.n:Int)) with
    |false =>
     rw[hn,cond_false] at hv
     rw[cond_false,prR_eq,hv]
     rfl
    |true =>
     rw[hn,cond_true] at hv
     obtain⟨s',hs',hv⟩:=Option.bind_eq_some_iff.1 hv
     rw[cond_true,hs',Option.bind_some,prR_eq,hv]
     rfl
  ·cases h
theorem parseS_raw (f:List UInt8→Option (SR×Int×Int))(fu:Nat)(s:List UInt8):prun (enH [(30,tRs f)] [] []) hh0 fu false Tryz.f13 [.str s]=(f s).bind fun r=>some (tPV r):=by kernel_rfl
theorem ok_parse:FOK NGs Ws 13 (tPs stmtV) :=
 fokH woks (allOK_cons ok_readS allOK_nil) allH_nil allI_nil (h:=hh0) Tryz.func13 rfl (by decide) (tPs_nat _) fun xs r h=>by
  simp only[tPs] at h
  split at h
  ·exact⟨0,(parseS_raw _ 0 _).trans h⟩
  ·cases h
def fiT1:List UInt8:=[83,69,76,69,67,84,32,97,32,70,82,79,77,32,116,32,87,72,69,82,69,32,97,32,43,32,49,32,62,32,50,32,65,78,68,32,98,32,73,83,32,78,85,76,76]
def fiT2:List UInt8:=[83,69,76,69,67,84,32,97,32,70,82,79,77,32,116,32,87,72,69,82,69]
def fiT3:List UInt8:=[49,32,43,32,50,32,42,32,51]
def fiY:XR:=colX 7 [] [97]
def fiX:XR:=binX 32 [65,78,68] (binX 28 [62] (binX 24 [43] (colX 22 [] [97]) (litX 26 2 1 0 [])) (litX 30 2 2 0 [])) (nullX 38 false (colX 36 [] [98]))
def fiZ:XR:=binX 2 [43] (litX 0 2 1 0 []) (binX 6 [42] (litX 4 2 2 0 []) (litX 8 2 3 0 []))
theorem fi_lex3:exprV fiT3=.inr fiZ:=by kernel_rfl
theorem fi_2:stmtV fiT2=some (SR.zero,21,170):=by kernel_rfl
theorem fi_1:stmtV fiT1=some (selX fiY fiX,0,0):=by kernel_rfl
def fpC (s:List UInt8):Option (SR×Int×Int):=bif s==fiT1 then some (selX fiY fiX,0,0) else bif s==fiT2 then some (SR.zero,21,170) else none
def feC (s:List UInt8):Option (XR×Int×Int):=bif s==fiT3 then some (fiZ,0,0) else none
theorem ok_parseC:FOK NGs Ws 13 (tPs fpC):=fok_wk ok_parse (tPs_nat _) rfl fun xs r h=>by
 simp only[tPs] at h
 split at h
 ·rename_i s
  obtain⟨v,hv,h⟩:=Option.bind_eq_some_iff.1 h
  have e:stmtV s=some v:=by
   unfold fpC at hv
   cases h1:s==fiT1 with
   |true=>rw[h1,cond_true] at hv;rw[eq_of_beq h1,fi_1];exact hv
   |false =>
    rw[h1,cond_false] at hv
    obtain⟨h2,hv⟩:=bif_inv hv
    rw[eq_of_beq h2,fi_2]
    exact hv
  show (stmtV s).bind _=_
  rw[e]
  exact h
 ·cases h
theorem ok_pEC:FOK NGs Ws 9 (tPx feC):=fok_wk ok_pE (tPx_nat _) rfl fun xs r h=>by
 simp only[tPx] at h
 split at h
 ·rename_i s
  obtain⟨v,hv,h⟩:=Option.bind_eq_some_iff.1 h
  unfold feC at hv
  obtain⟨h2,hv⟩:=bif_inv hv
  have e:pxD s=some v:=by
   unfold pxD
   rw[eq_of_beq h2,fi_lex3]
   exact hv
  have e2:(tPx pxD).F [.str s] (R:=PV) some=(pxD s).bind fun r=>some (.tuple [.agg r.1.cells,.int .i64 r.2.1,.int .i64 r.2.2]):=rfl
  rw[e2,e]
  exact h
 ·cases h
noncomputable def v_first19:PFn:=evalFn [(13,tPs fpC),(9,tPx feC)] ⟨[],[]⟩ 0 Tryz.f8
theorem first19_true:v_first19.F [] (R:=PV) some=some (.bool true):=by kernel_rfl
def p_trueF:PFn:=⟨fun xs k=>match xs with|[]=>k (.bool true)|_=>none,false⟩
theorem ok_first19:FOK NGs Ws 8 p_trueF :=
 fok_wk (evalFn_ok woks (allOK_cons ok_parseC (allOK_cons ok_pEC allOK_nil)) (h:=⟨[],[]⟩) (fuel:=0) Tryz.func8 rfl (by decide)) (by
  intro R xs k
  simp only[p_trueF]
  split<;>rfl) rfl fun xs r h=>by
  simp only[p_trueF] at h
  split at h
  ·exact first19_true.trans h
  ·cases h
noncomputable def lPe (fe:List UInt8→Option (XR×Int×Int))(fy:List UInt8→Option (XR×Int×Bool))(fx:XR→XR→Bool→Option Bool):List (FuncId×PFn):=[(8,p_trueF),(9,tPx fe),(10,tPy fy),(11,tXXp fx)]
theorem exprV_has {s:List UInt8}{x:XR}(h:exprV s=.inr x):rightX x=true∧∃ t,er 6000 x=some t:=by
 unfold exprV at h
 cases hl:lexS s with
 |inl a=>rw[hl] at h;cases h
 |inr T =>
  rw[hl] at h
  obtain⟨hT,hs,hn⟩:=lexS_ok hl
  have h:exprT (s.length:Int) T=.inr x:=h
  unfold exprT at h
  cases hx:exprG (s.length:Int) (gfs (s.length:Int) 20) T with
  |bad a=>rw[hx] at h;cases h
  |ok y R =>
   rw[hx] at h
   cases R with
   |cons t R=>cases h
   |nil =>
    dsimp only at h
    cases hr:rightX y with
    |false=>rw[hr] at h;cases h
    |true =>
     rw[hr] at h
     injection h with h
     subst h
     exact⟨hr,expr_has hs hn hx⟩
theorem smp1 {x:XR}{t:TX}(h:er 6000 x=some t):smpD 6000 x x true=some true:=by
 unfold smpD
 rw[cond_true,h,Option.bind_some,if_pos rfl]
theorem er_zero:∃ t,er 6000 XR.zero=some t:=Option.isSome_iff_exists.1 (by decide +kernel)
theorem ok_lPe:AllOK NGs Ws (lPe pxD pyD (smpD 6000)):=allOK_cons ok_first19 (allOK_cons ok_pE (allOK_cons ok_rE (allOK_cons (ok_rsame 6000) allOK_nil)))
end Go.Proofs.YtkpfigikffphdaaGreatDoor
end
section
set_option maxRecDepth 100000
namespace Go.Proofs.YtkpfigikffphdaaGreatDoor
open Go.ChangeShapes Go.WideShapes Go.ChangeAt Go.RowKit
theorem trodAll_below {H:Type}{enc:TypeId×Value→H}{P:Program}(hl:laidOutB P=true){W W':World}(hb:Below W.heap.size W W'):∀ {ts:List TypeId} {vs:List Value} {ds:List (DataW H)} {ps:List MemPlace},
  (∀ t∈ts,P.readableRec t=true∧t<P.types.size)→DataW.TrodAll enc P W 0 (fun _=>true) true ts vs ds ps→(∀ x∈ps,x.block<W.heap.size)→DataW.TrodAll enc P W' 0 (fun b=>decide (b<W.heap.size)) true ts vs ds ps
 |[],vs,ds,ps,_,h,_=>by
  cases vs<;>cases ds<;>simp_all [DataW.TrodAll]
 |t::ts,vs,ds,ps,ht,h,hlt=>by
  obtain⟨v,vs',d,ds',p,q,rfl,rfl,rfl,h0,h1⟩:=trodAll_cons h
  exact trodAll_cons_mk (Below.trod hl (ht t (by simp)).1 (ht t (by simp)).2 h0 hb (fun x hx=>hlt x (by simp[hx])))
   (trodAll_below hl hb (fun t' ht'=>ht t' (by simp[ht'])) h1 (fun x hx=>hlt x (by simp[hx])))
theorem law_post {H:Type}{enc:TypeId×Value→H}{P:Program}{f:Func}{s:ChangeSpec}{W W':World}{args:Array Value}{ds gs:List (DataW H)}{before:List MemPlace}{tb:TypeId}
  (hl:laidOutB P=true) (ht:∀ t∈f.params.toList,P.readableRec t=true∧t<P.types.size) (htb:P.underlying tb=some .bool) (hf:f.resultTypes=#[tb])
  (hW:DataW.Whole enc P f.params.toList s.vars false W args.toList ds gs before) (hv:s.vars=[])
  (hr:(s.fn H (ds++gs)).results=[.lit (.bool true)]) (ha:(s.fn H (ds++gs)).args=ds) (hvs:(s.fn H (ds++gs)).vars=[]) (hb:Below W.heap.size W W') :
  s.post enc P f false true false false W args (.bool true) W':=by
 have hlt:=hW.lt
 have hW2:=hW
 obtain⟨p,q,hA,hV,rfl,_,_⟩:=hW
 rw[hv] at hV
 obtain⟨rfl,rfl⟩:=trodVars_none hV
 refine⟨ds,[],p++[],[],p,[],hW2,?_,?_,?_,hb.frame _,fun h=>by cases h⟩
 ·rw[hr,hf]
  exact trodAll_cons_mk (shut_bool htb _) trodAll_mk0
 ·rw[ha]
  exact trodAll_below hl hb ht hA (fun x hx=>hlt x (by simp[hx]))
 ·rw[hv,hvs]
  rfl
abbrev laidList:List (String×DataW Unit):=[("math/bits.deBruijn32tab", Rows.laid_math_bits_deBruijn32tab),("math/bits.deBruijn64tab", Rows.laid_math_bits_deBruijn64tab),("internal/strconv.uint64pow10", Rows.laid_internal_strconv_uint64pow10),("unicode/utf8.acceptRanges", Rows.laid_unicode_utf8_acceptRanges),("strconv.ErrRange", Rows.laid_strconv_ErrRange),("strconv.ErrSyntax", Rows.laid_strconv_ErrSyntax),("unicode.White_Space", Rows.laid_unicode_White_Space),("strings.asciiSpace", Rows.laid_strings_asciiSpace),("unicode/utf8.first", Rows.laid_unicode_utf8_first)]
theorem wd_of_laid {W:World}(h:laidMetH Tryz.prog laidList W):Wd W:=by
 have h':laidMet Tryz.prog laidList W:=h
 obtain⟨g,t,cs,fuel,p,hg,hty,hvar,hd⟩:=Lib.laidMet.reads (n := "internal/strconv.uint64pow10") (d:=Rows.laid_internal_strconv_uint64pow10) h' (by unfold laidList;exact List.mem_cons_of_mem _ (List.mem_cons_of_mem _ (List.mem_cons_self ..)))
 have e:(Rows.laid_internal_strconv_uint64pow10:DataW Unit)=Lib.tabData .u64 Lib.pow10Tab:=by kernel_rfl
 rw[e] at hd
 obtain rfl:3=g:=Option.some.inj (gPow.symm.trans hg)
 obtain rfl:t=257:=Option.some.inj (hty.symm.trans (show (Tryz.prog.globals[3]?).map (·.type)=some 257 by kernel_rfl))
 have hcs:=Lib.cells_of_tab (e:=39) (n:=20) (by kernel_rfl) (by kernel_rfl) (by kernel_rfl) (by kernel_rfl) hd
 unfold Wd Lib.TabIs
 rw[hvar,← hcs]
theorem star : "*" ++ "errors.errorString" = "*errors.errorString" := by decide
theorem row_err (u:TypeId)(h:Tryz.prog.typeName? 3 u=some "*errors.errorString"):u=307 :=
 typeName_ptr_named (nm := "errors.errorString") (by rw[star];kernel_rfl) (by kernel_rfl) (by decide) u (by rw[star];exact h)
theorem gRangeT:(Tryz.prog.globals[9]?).map (·.type)=some 195:=by kernel_rfl
theorem gSyntaxT:(Tryz.prog.globals[8]?).map (·.type)=some 195:=by kernel_rfl
theorem we_of_laid {W:World}(h:laidMetH Tryz.prog laidList W):We W:=by
 have h':laidMet Tryz.prog laidList W:=h
 have h3:=h'.tail.tail.tail.tail
 refine⟨wd_of_laid h,?_,?_⟩
 ·obtain⟨a,s,hv,_⟩:=laid_sentinel h3.tail gSyntax gSyntaxT Tryz.underlying195 row_err Tryz.underlying307 Tryz.underlying309 rfl rfl Tryz.underlying9 (by kernel_rfl) (by kernel_rfl)
  exact⟨_,_,hv⟩
 ·obtain⟨a,s,hv,_⟩:=laid_sentinel h3 gRange gRangeT Tryz.underlying195 row_err Tryz.underlying307 Tryz.underlying309 rfl rfl Tryz.underlying9 (by kernel_rfl) (by kernel_rfl)
  exact⟨_,_,hv⟩
theorem tabs_of_laid {W:World}(h:laidMetH Tryz.prog laidList W):Tabs W:=by
 have h':laidMet Tryz.prog laidList W:=h
 have e1:Lib.firstData=Rows.laid_unicode_utf8_first:=by kernel_rfl
 have e2:Lib.acceptData=Rows.laid_unicode_utf8_acceptRanges:=by kernel_rfl
 exact tabs_of_reads (Lib.laidMet.reads (n := "unicode/utf8.first") (d:=Lib.firstData) h' (by rw[e1];unfold laidList;exact (List.mem_cons_of_mem _ (List.mem_cons_of_mem _ (List.mem_cons_of_mem _ (List.mem_cons_of_mem _ (List.mem_cons_of_mem _ (List.mem_cons_of_mem _ (List.mem_cons_of_mem _ (List.mem_cons_of_mem _ (List.mem_cons_self ..)))))))))))
  (Lib.laidMet.reads (n := "unicode/utf8.acceptRanges") (d:=Lib.acceptData) h' (by rw[e2];unfold laidList;exact (List.mem_cons_of_mem _ (List.mem_cons_of_mem _ (List.mem_cons_of_mem _ (List.mem_cons_self ..))))))
theorem spc_of_laid {W:World}(h:laidMetH Tryz.prog laidList W):HasSpc W:=by
 have h':laidMet Tryz.prog laidList W:=h
 obtain⟨g,t,cs,fuel,p,hg,hty,hvar,hd⟩:=Lib.laidMet.reads (n := "strings.asciiSpace") (d:=Rows.laid_strings_asciiSpace) h' (by unfold laidList;exact (List.mem_cons_of_mem _ (List.mem_cons_of_mem _ (List.mem_cons_of_mem _ (List.mem_cons_of_mem _ (List.mem_cons_of_mem _ (List.mem_cons_of_mem _ (List.mem_cons_of_mem _ (List.mem_cons_self ..)))))))))
 have e:(Rows.laid_strings_asciiSpace:DataW Unit)=Lib.tabData .u8 Lib.asciiSpaceTab:=by kernel_rfl
 rw[e] at hd
 obtain rfl:0=g:=Option.some.inj ((show Tryz.prog.globalNamed "strings.asciiSpace" = some 0 by kernel_rfl).symm.trans hg)
 obtain rfl:t=230:=Option.some.inj (hty.symm.trans (show (Tryz.prog.globals[0]?).map (·.type)=some 230 by kernel_rfl))
 have hcs:=Lib.cells_of_tab (e:=5) (n:=256) (by kernel_rfl) (by kernel_rfl) (by kernel_rfl) (by kernel_rfl) hd
 unfold HasSpc Lib.TabIs
 rw[hvar,← hcs]
theorem max_of_shape {W:World}(h:W.ShapedOpen Tryz.prog):HasMax W :=
 cell_of_shapedOpen_int (P:=Tryz.prog) (g:=2) (t:=3) (zero:=#[.int .i64 0]) h (of_decide_eq_true (by kernel_rfl)) (by kernel_rfl) rfl (by kernel_rfl) (by kernel_rfl) Tryz.underlying3
theorem ws_of_laid {W:World}(h:laidMetH Tryz.prog laidList W)(hs:W.ShapedOpen Tryz.prog):Ws W:=⟨⟨we_of_laid h,tabs_of_laid h⟩,max_of_shape hs,spc_of_laid h⟩
theorem ws_size {w:World}(h:Ws w):NGs≤w.heap.size:=by
 have h1:NGc≤w.heap.size:=by
  have h1:=we_size h.1.1
  have h2:=tabs_size h.1.2
  unfold NGc
  omega
 have h2:2<w.heap.size:=by
  obtain⟨m,hm⟩:=h.2.1
  unfold World.cell? at hm
  rcases e:w.heap[2]? with _|o
  ·simp[e] at hm
  ·exact (Array.getElem?_eq_some_iff.1 e).1
 have h3:0<w.heap.size:=by
  have:=h.2.2
  unfold HasSpc Lib.TabIs World.var? at this
  rw[show Tryz.prog.globalNamed "strings.asciiSpace" = some 0 by kernel_rfl,Option.bind_some] at this
  rcases e:w.heap[0]? with _|o
  ·rw[e] at this;cases this
  ·exact (Array.getElem?_eq_some_iff.1 e).1
 unfold NGs
 omega
theorem own:ownKnob Tryz.prog.godebug=none:=by kernel_rfl
def holdCells (cs:Array Value):Obj→Obj
 | .cells _ t frozen=>.cells cs t frozen
 |o=>o
def cellsOfData:DataW Unit→Array Value
 | .agg l=>(l.filterMap fun|.lit (.int k z)=>some (Value.int k z)|_=>none).toArray
 |_=>#[]
def errText:DataW Unit→List UInt8
 | .iface _ (.ptr (.agg [.lit (.string s)]))=>s
 |_=>[]
def errCells (b:Nat):Array Value:=#[.iface 307 (.pointer (some ⟨b,0,none⟩))]
def firstCells:Array Value:=(Lib.firstTab.map (Value.int .u8)).toArray
def acceptCells:Array Value:=((List.range 16).flatMap fun i=>[Value.int .u8 (Lib.accLo i),Value.int .u8 (Lib.accHi i)]).toArray
def intCells:DataW Unit→List Value
 | .agg l=>l.filterMap fun|.lit (.int k z)=>some (Value.int k z)|_=>none
 |_=>[]
def whiteCells:DataW Unit→Array Value
 | .ptr (.agg (.slice l _::_))=>(l.flatMap intCells).toArray
 |_=>#[]
noncomputable def laidHeap (h:Array Obj):Array Obj :=
 (((((((((h.modify 6 (holdCells (cellsOfData Rows.laid_math_bits_deBruijn32tab))).modify 7 (holdCells (cellsOfData Rows.laid_math_bits_deBruijn64tab))).modify
  3 (holdCells (cellsOfData Rows.laid_internal_strconv_uint64pow10))).modify 9 (holdCells (errCells h.size))).modify 8 (holdCells (errCells (h.size+1)))).modify 4 (holdCells firstCells)).modify 5 (holdCells acceptCells)).modify 0 (holdCells (cellsOfData Rows.laid_strings_asciiSpace))).modify 1 (holdCells #[.pointer (some ⟨h.size+3,0,none⟩)])) ++
  #[.cells #[.string ⟨(errText Rows.laid_strconv_ErrRange).toArray⟩] 309,.cells #[.string ⟨(errText Rows.laid_strconv_ErrSyntax).toArray⟩] 309,.cells (whiteCells Rows.laid_unicode_White_Space) 274,.cells #[.slice (some ⟨h.size+2,0,none⟩) 7 7,.slice none 0 0,.int .i64 2] 271]
noncomputable def laidWorld (os:Os):World :=
 {World.holding Tryz.prog os ⟨#[],#[],[]⟩ with heap:=laidHeap (World.holding Tryz.prog os ⟨#[],#[],[]⟩).heap }
theorem laidWorld_met (os:Os)(args:Array Value):laidMet Tryz.prog laidList ((laidWorld os).forCall (fun _ _=>0) ⟨#[],args,[]⟩).memory :=
 laidMet_of_run3 10 (by kernel_rfl) (by kernel_rfl) (by kernel_rfl)
end Go.Proofs.YtkpfigikffphdaaGreatDoor
end
section
set_option maxRecDepth 100000
namespace Go.Proofs.YtkpfigikffphdaaGreatDoor
open Go.RowKit
def lenA {R:Type}(a b:List UInt8)(k:List UInt8→Option R):Option R:=bif decide (a.length+b.length≤9223372036854775807) then k (a++b) else none
def hPd:Hints:=⟨[],[(3,⟨[(0,false),(7,false),(8,false),(55,false),(56,false)],[]⟩),(0,⟨[(0,false),(1,false),(2,false),(7,false),(8,false),(20,false),(21,false)],[]⟩)]⟩
noncomputable def fPd:Func:=Tryz.f4
def frPd (n v m:Int)(a b:List UInt8)(L i:Int):St:=frame 100 [(0,(.int .u8 n,0)),(1,(.int .u64 v,0)),(2,(.int .u8 m,0)),(7,(.str a,0)),(8,(.str b,0)),(20,(.int .i64 L,0)),(21,(.int .i64 i,0))] []
def frPo (n:Int)(a b:List UInt8)(L i:Int):St:=frame 100 [(0,(.int .u8 n,0)),(7,(.str a,0)),(8,(.str b,0)),(55,(.int .u8 L,0)),(56,(.int .u8 i,0))] []
section
variable (fe:List UInt8→Option (XR × Int × Int)) (fy:List UInt8→Option (XR × Int × Bool)) (fx:XR→XR→Bool→Option Bool)
noncomputable def pdL (fu n:Nat)(st:St):Option PV:=loopF (en (lPe fe fy fx)) hPd fu false fPd [1,1,1,0,1,0] 0 n st
noncomputable def poL (fu n:Nat)(st:St):Option PV:=loopF (en (lPe fe fy fx)) hPd fu false fPd [1,1,1,1,1,0,1,0] 3 n st
def pdE (same:Bool)(a c e n:Int)(ok:Bool):Option PV:=bif (bif (bif same then a==c else false) then ok==(e==0) else false) then some (.bool (bif decide (n.tmod 30≤20) then true else e==170)) else some (.bool false)
def pdT (n:Int)(a b:List UInt8):Option PV:=lenA a b fun t=>(fe t).bind fun r=>lenA a b fun t=>(fy t).bind fun q=>(fx r.1 q.1 true).bind fun same=>pdE same r.2.1 q.2.1 r.2.2 n q.2.2
theorem pd_raw (fu:Nat)(n v m:Int):prun (en (lPe fe fy fx)) hPd fu false fPd [.int .u8 n,.int .u64 v,.int .u8 m]=pdL fe fy fx fu fu (frPd n v m [] [] (IntKind.i64.wrap (n.tmod 30)) 0):=prunN_eq.trans (by kernel_rfl)
def dgS (i:Int):Int:=IntKind.u64.wrap ((IntKind.i64.wrap (2 * i)).tmod 64)
def dgV (v i:Int):Int:=IntKind.u64.wrap (BitVec.ofInt 64 (v.fdiv (2^(min (dgS i).toNat 64))) &&& BitVec.ofInt 64 3).toNat
theorem pd_step (fu:Nat)(n v m:Int)(a b:List UInt8)(L i:Int)(K:St→Option PV) :
  stepF (en (lPe fe fy fx)) hPd fu false fPd [1,1,1,0,1,0] (frPd n v m a b L i) (fun st=>pnorm (hPd.loop.lookup 0) st K) =
   bif decide (i<L) then bif decide (dgS i<0) then none else
    bif dgV v i==0 then lenA a [40] fun a=>lenA [41] b fun b=>K (frPd n v m a b L (IntKind.i64.wrap (i+1))) else
    bif dgV v i==1 then lenA a [40,78,79,84,32] fun a=>lenA [41] b fun b=>K (frPd n v m a b L (IntKind.i64.wrap (i+1))) else
    bif dgV v i==2 then lenA a [45,32] fun a=>K (frPd n v m a b L (IntKind.i64.wrap (i+1))) else
    lenA a [77,73,78,40] fun a=>lenA [41] b fun b=>K (frPd n v m a b L (IntKind.i64.wrap (i+1)))
   else lenA a [97] fun a=>poL fe fy fx fu fu (frPo n a b (m.tmod 70) 0):=by kernel_rfl
theorem po_step (fu:Nat)(n:Int)(a b:List UInt8)(L i:Int)(K:St→Option PV) :
  stepF (en (lPe fe fy fx)) hPd fu false fPd [1,1,1,1,1,0,1,0] (frPo n a b L i) (fun st=>pnorm (hPd.loop.lookup 3) st K) =
   bif decide (i<L) then lenA a [32,42,32,98] fun a=>K (frPo n a b L (IntKind.u8.wrap (i+1))) else pdT fe fy fx n a b:=by kernel_rfl
end
inductive Piece:List TR→List TR→Prop
 |par {t:TR} {R:List TR} (h:tokIs 3 [[40]] (t::R)=true):Piece (t::R) R
 |parNot {t u:TR} {R:List TR} (h:tokIs 3 [[40]] (t::u::R)=true) (h':tokIs 1 [wNOT] (u::R)=true):Piece (t::u::R) R
 |neg {t:TR} {R:List TR} (h:tokIs 3 [[45]] (t::R)=true):Piece (t::R) R
 |min {t u:TR} {R:List TR} (h:t.k=1) (h1:t.t=[77,73,78]) (h':tokIs 3 [[40]] (u::R)=true):Piece (t::u::R) R
def Opens:Nat→List TR→Prop
 |0,_=>True
 |k+1,T=>∃ R,Piece T R∧Opens k R
theorem Opens.less:∀ {k:Nat} {T:List TR},Opens (k+1) T→Opens k T
 |0,_,_=>trivial
 |k+1,T,⟨R,h,h'⟩=>⟨R,h,h'.less⟩
def Res.isBad {α:Type}:Res α→Prop
 | .bad _=>True
 | .ok _ _=>False
theorem Res.isBad.bind {α β:Type}{r:Res α}(h:r.isBad)(k:α→List TR→Res β):(r.bind k).isBad:=by
 cases r with
 |bad a=>trivial
 |ok x R=>cases h
theorem tok40 {t:TR}{R:List TR}(h:tokIs 3 [[40]] (t::R)=true):t.k=3∧t.t=[40]:=by
 simpa [tokIs,conA] using h
theorem tok45 {t:TR}{R:List TR}(h:tokIs 3 [[45]] (t::R)=true):t.k=3∧t.t=[45]:=by
 simpa [tokIs,conA] using h
theorem neg_of_fact {e:Int}{low:Option GF}{T:List TR}(hn:tokIs 1 [wNOT] T=false)(h:(factG e low T).isBad):(negG e low T).isBad:=by
 unfold negG
 rw[hn,cond_false]
 exact ((h.bind _).bind _).bind _
theorem expr_of_neg {e:Int}{low:Option GF}{T:List TR}(h:(negG e low T).isBad):(exprG e low T).isBad:=(h.bind _).bind _
theorem Piece.notNot {T R:List TR}(h:Piece T R):tokIs 1 [wNOT] T=false:=by
 cases h with
 |par h=>obtain⟨h1,h2⟩:=tok40 h;simp[tokIs,h1]
 |parNot h=>obtain⟨h1,h2⟩:=tok40 h;simp[tokIs,h1]
 |neg h=>obtain⟨h1,h2⟩:=tok45 h;simp[tokIs,h1]
 |min h h1=>simp[tokIs,h,h1,conA]
theorem fact_bad {e:Int}{T R:List TR}(hp:Piece T R)(low:Option GF)(hl:∀ G,low=some G→(G.expr R).isBad∧(G.fact R).isBad∧(∀ u,tokIs 1 [wNOT] (u::R)=true→(G.expr (u::R)).isBad)):(factG e low T).isBad:=by
 unfold factG
 cases hp with
 |neg h =>
  rw[h,cond_true]
  unfold deepG
  cases low with
  |none=>trivial
  |some G=>exact (hl G rfl).2.1.bind _
 |par h =>
  obtain⟨h1,h2⟩:=tok40 h
  rw[show tokIs 3 [[45]] (_::R)=false by simp[tokIs,h1,h2,conA],cond_false]
  unfold atomG withinG
  rw[h,cond_true,cond_true]
  unfold deepG
  cases low with
  |none=>trivial
  |some G=>exact (hl G rfl).1.bind _
 |parNot h h' =>
  obtain⟨h1,h2⟩:=tok40 h
  rw[show tokIs 3 [[45]] (_::_::R)=false by simp[tokIs,h1,h2,conA],cond_false]
  unfold atomG withinG
  rw[h,cond_true,cond_true]
  unfold deepG
  cases low with
  |none=>trivial
  |some G=>exact ((hl G rfl).2.2 _ h').bind _
 |min h h1 h' =>
  rw[show tokIs 3 [[45]] (_::_::R)=false by simp[tokIs,h],cond_false]
  unfold atomG
  rw[show tokIs 3 [[40]] (_::_::R)=false by simp[tokIs,h],cond_false,show tokIs 1 [wCAST] (_::_::R)=false by simp[tokIs,h,h1,conA],cond_false,show tokIs 1 wsCall (_::_::R)=true by simp[tokIs,h,h1,conA],cond_true]
  unfold callG withinG
  rw[List.tail_cons,h',cond_true]
  unfold deepG
  cases low with
  |none=>trivial
  |some G =>
   refine Res.isBad.bind ?_ _
   show Res.isBad (bif hdW _==wCOUNT then _ else _)
   rw[show (hdW (_::_::R)==wCOUNT)=false by simp[hdW,h1],cond_false]
   exact (hl G rfl).1.bind _
theorem opens_bad (e:Int):∀ (n j:Nat),j≤n→∀ T,Opens (j+1) T→(factG e (gfs e j) T).isBad
 |n,0,_,T,⟨R,hp,_⟩=>fact_bad hp _ fun G hG=>by cases hG
 |0,j+1,h,_,_=>by omega
 |n+1,j+1,h,T,⟨R,hp,ho⟩=>fact_bad hp _ fun G hG=>by
  have ih:=opens_bad e n j (by omega) R ho
  obtain⟨R',hp',hq⟩:=ho
  have hn:=neg_of_fact hp'.notNot ih
  injection hG with hG
  subst hG
  refine⟨expr_of_neg hn,ih,fun u hu=>expr_of_neg ?_⟩
  unfold negG
  rw[hu,cond_true]
  unfold deepG
  cases j with
  |zero=>trivial
  |succ j =>
   exact Res.isBad.bind (neg_of_fact hp'.notNot (opens_bad e n j (by omega) R (Opens.less (k:=j+1) ⟨R',hp',hq⟩))) _
theorem opens_expr {e:Int}{j:Nat}{T:List TR}(h:Opens (j+1) T):(exprG e (gfs e j) T).isBad:=by
 have h1:=opens_bad e j j (Nat.le_refl _) T h
 obtain⟨R,hp,-⟩:=h
 exact expr_of_neg (neg_of_fact hp.notNot h1)
theorem lexV_tok {f i:Nat}{c:UInt8}{t:List UInt8}{r:TR×Nat}{T:List TR}(h1:c≠32)(h2:c≠10)(hr:tokV (c::t)=some r)(h:lexV (f+1) i (c::t)=.inr T) :
  ∃ R,lexV f (i+r.2) ((c::t).drop r.2)=.inr R∧T=⟨r.1.k,i,r.1.t,r.1.vk,r.1.vn,r.1.vc,r.1.vs⟩::R:=by
 rw[lexV,if_neg (by simp[h1,h2]),hr] at h
 dsimp only at h
 cases hl:lexV f (i+r.2) ((c::t).drop r.2) with
 |inl a=>rw[hl] at h;cases h
 |inr R =>
  rw[hl] at h
  injection h with h
  exact⟨R,rfl,h.symm⟩
theorem lexV_sp {f i:Nat}{t:List UInt8}:lexV (f+1) i (32::t)=lexV f (i+1) t:=by
 rw[lexV,if_pos (by simp)]
theorem tokV_par (s:List UInt8):tokV (40::s)=some (⟨3,0,[40],0,0,0,[]⟩,1):=by
 have e:tokV (40::s)=signV (40::s):=by
  simp only[tokV]
  rw[if_neg (by decide),if_neg (by simp),if_neg (by decide),if_neg (by decide),if_neg (by decide)]
 rw[e]
 cases s with
 |nil=>rfl
 |cons d s =>
  show (bif conA sg2 [40,d] then some ((⟨3,0,[40,d],0,0,0,[]⟩:TR),2) else bif sgC 40 then some (⟨3,0,[40],0,0,0,[]⟩,1) else none)=_
  rw[show conA sg2 [40,d]=false by simp[conA,sg2]]
  rfl
theorem tokV_neg (s:List UInt8):tokV (45::32::s)=some (⟨3,0,[45],0,0,0,[]⟩,1):=rfl
theorem tokV_not (s:List UInt8):tokV (78::79::84::32::s)=some (⟨1,0,wNOT,0,0,0,[]⟩,3):=rfl
theorem tokV_min (s:List UInt8):tokV (77::73::78::40::s)=some (⟨1,0,[77,73,78],0,0,0,[]⟩,3):=rfl
def pcs:List (List UInt8):=[[40],[40,78,79,84,32],[45,32],[77,73,78,40]]
theorem lex_piece {p:List UInt8}(hp:p∈pcs){f i:Nat}{s:List UInt8}{T:List TR}(hf:(p++s).length<f)(h:lexV f i (p++s)=.inr T):∃ f' i' R,s.length<f'∧lexV f' i' s=.inr R∧Piece T R:=by
 simp only[pcs,List.mem_cons,List.not_mem_nil,or_false] at hp
 rcases hp with rfl|rfl|rfl|rfl
 ·obtain⟨f,rfl⟩:∃ g,f=g+1:=⟨f-1,by omega⟩
  obtain⟨R,hR,rfl⟩:=lexV_tok (by decide) (by decide) (tokV_par s) h
  exact⟨f,_,R,by simp at hf;omega,hR,.par rfl⟩
 ·obtain⟨f,rfl⟩:∃ g,f=g+3:=⟨f-3,by simp at hf;omega⟩
  obtain⟨R1,h1,rfl⟩:=lexV_tok (f:=f+2) (by decide) (by decide) (tokV_par (78::79::84::32::s)) h
  obtain⟨R2,h2,rfl⟩:=lexV_tok (f:=f+1) (by decide) (by decide) (tokV_not s) h1
  have h3:lexV (f+1) (i+1+3) (32::s)=.inr R2:=h2
  rw[lexV_sp] at h3
  exact⟨f,_,R2,by simp at hf;omega,h3,.parNot rfl rfl⟩
 ·obtain⟨f,rfl⟩:∃ g,f=g+2:=⟨f-2,by simp at hf;omega⟩
  obtain⟨R1,h1,rfl⟩:=lexV_tok (f:=f+1) (by decide) (by decide) (tokV_neg s) h
  have h3:lexV (f+1) (i+1) (32::s)=.inr R1:=h1
  rw[lexV_sp] at h3
  exact⟨f,_,R1,by simp at hf;omega,h3,.neg rfl⟩
 ·obtain⟨f,rfl⟩:∃ g,f=g+2:=⟨f-2,by simp at hf;omega⟩
  obtain⟨R1,h1,rfl⟩:=lexV_tok (f:=f+1) (by decide) (by decide) (tokV_min s) h
  have h3:lexV (f+1) (i+3) (40::s)=.inr R1:=h1
  obtain⟨R2,h2,rfl⟩:=lexV_tok (by decide) (by decide) (tokV_par s) h3
  exact⟨f,_,R2,by simp at hf;omega,h2,.min rfl rfl rfl⟩
theorem lex_pieces:∀ (ps:List (List UInt8)),(∀ p∈ps,p∈pcs)→∀ {f i:Nat} {s:List UInt8} {T:List TR},(ps.flatten++s).length<f→lexV f i (ps.flatten++s)=.inr T→Opens ps.length T
 |[],_,_,_,_,_,_,_=>trivial
 |p::ps,hp,f,i,s,T,hf,h=>by
  rw[List.flatten_cons,List.append_assoc] at hf h
  obtain⟨f',i',R,h1,h2,h3⟩:=lex_piece (hp p (List.mem_cons_self ..)) hf h
  exact⟨R,h3,lex_pieces ps (fun q hq=>hp q (List.mem_cons_of_mem _ hq)) h1 h2⟩
theorem deep_bad {ps:List (List UInt8)}(hp:∀ p∈ps,p∈pcs)(hk:20<ps.length)(s:List UInt8):∃ a,exprV (ps.flatten++s)=.inl a:=by
 unfold exprV
 cases hl:lexS (ps.flatten++s) with
 |inl a=>exact⟨_,rfl⟩
 |inr T =>
  have ho:Opens ps.length T:=by
   unfold lexS at hl
   cases hd:decide (2000<(ps.flatten++s).length) with
   |true=>rw[hd] at hl;cases hl
   |false =>
    rw[hd] at hl
    exact lex_pieces ps hp (Nat.lt_succ_self _) hl
  have ho:Opens (20+1) T:=by
   obtain⟨k,hk⟩:∃ k,ps.length=k+21:=⟨ps.length-21,by omega⟩
   rw[hk] at ho
   clear hk
   induction k with
   |zero=>simpa using ho
   |succ k ih=>exact ih (by rw[show k+1+21=(k+21)+1 by omega] at ho;exact ho.less)
  have hb:=opens_expr (e:=((ps.flatten++s).length:Int)) ho
  show ∃ a,exprT _ T=.inl a
  unfold exprT
  cases hx:exprG ((ps.flatten++s).length:Int) (gfs ((ps.flatten++s).length:Int) 20) T with
  |bad a=>exact⟨_,rfl⟩
  |ok x R=>rw[hx] at hb;cases hb
theorem lenA_t {R:Type}{a b:List UInt8}(h:a.length+b.length≤100000)(k:List UInt8→Option R):lenA a b k=k (a++b):=by
 unfold lenA
 rw[cond_t (decide_eq_true (by omega))]
theorem pcs_len {ps:List (List UInt8)}(hp:∀ p∈ps,p∈pcs):ps.flatten.length≤5 * ps.length:=by
 induction ps with
 |nil=>simp
 |cons p ps ih =>
  have h1:=ih fun q hq=>hp q (List.mem_cons_of_mem _ hq)
  have h2:p.length≤5:=by
   have:=hp p (List.mem_cons_self ..)
   simp only[pcs,List.mem_cons,List.not_mem_nil,or_false] at this
   rcases this with rfl|rfl|rfl|rfl<;>decide
  rw[List.flatten_cons,List.length_append,List.length_cons]
  omega
theorem dgS_pos:∀ i:Fin 30,¬ dgS ((i.val:Nat):Int)<0:=by decide +kernel
section
variable (fe:List UInt8→Option (XR × Int × Int)) (fy:List UInt8→Option (XR × Int × Bool)) (fx:XR→XR→Bool→Option Bool)
theorem pd_loop (fu:Nat)(n v m:Int)(L:Nat)(hL:L≤29):∀ (k i N:Nat) (ps:List (List UInt8)) (b:List UInt8),i+k=L→k<N→ps.length=i→(∀ p∈ps,p∈pcs)→b.length≤i →
  ∃ (ps':List (List UInt8)) (b':List UInt8),ps'.length=L∧(∀ p∈ps',p∈pcs)∧b'.length≤L∧pdL fe fy fx fu N (frPd n v m ps.flatten b (L:Int) (i:Int))=lenA ps'.flatten [97] fun a=>poL fe fy fx fu fu (frPo n a b' (m.tmod 70) 0)
 |k,i,0,_,_,_,h,_,_,_=>by omega
 |0,i,N+1,ps,b,hi,hN,hps,hpp,hb=>by
  refine⟨ps,b,by omega,hpp,by omega,?_⟩
  unfold pdL
  rw[loopF_succ,pd_step,cond_f (decide_eq_false (by omega))]
 |k+1,i,N+1,ps,b,hi,hN,hps,hpp,hb=>by
  have ih:=fun (p:List UInt8) (hp:p∈pcs) (b':List UInt8) (hb':b'.length≤i+1)=>pd_loop fu n v m L hL k (i+1) N (ps++[p]) b' (by omega) (by omega) (by simp[hps]) (by
   intro q hq
   rcases List.mem_append.1 hq with h|h
   ·exact hpp q h
   ·obtain rfl:=List.mem_singleton.1 h;exact hp) hb'
  have hl:=pcs_len hpp
  have e:((i:Int)+1)=((i+1:Nat):Int):=by omega
  unfold pdL at ih ⊢
  rw[loopF_succ,pd_step,cond_t (decide_eq_true (by omega)),cond_f (decide_eq_false (dgS_pos ⟨i,by omega⟩)),wrapI_of (by omega) (by omega),e]
  have hc:∀ (p:List UInt8),p.length≤5→ps.flatten.length+p.length≤100000:=fun p hp=>by omega
  have hc1:([41]:List UInt8).length+b.length≤100000:=by simp;omega
  have hf:∀ p:List UInt8,ps.flatten++p=(ps++[p]).flatten:=fun p=>by simp
  cases dgV v i==0 with
  |true =>
   rw[cond_true,lenA_t (hc _ (by decide)),lenA_t hc1,hf]
   exact ih _ (by decide) _ (by simp;omega)
  |false =>
   rw[cond_false]
   cases dgV v i==1 with
   |true =>
    rw[cond_true,lenA_t (hc _ (by decide)),lenA_t hc1,hf]
    exact ih _ (by decide) _ (by simp;omega)
   |false =>
    rw[cond_false]
    cases dgV v i==2 with
    |true =>
     rw[cond_true,lenA_t (hc _ (by decide)),hf]
     exact ih _ (by decide) _ (by omega)
    |false =>
     rw[cond_false,lenA_t (hc _ (by decide)),lenA_t hc1,hf]
     exact ih _ (by decide) _ (by simp;omega)
theorem po_loop (fu:Nat)(n:Int)(b:List UInt8)(L:Nat)(hL:L≤69):∀ (k i N:Nat) (a:List UInt8),i+k=L→k<N→a.length≤1000+4 * i →
  ∃ w,w.length≤4 * k∧poL fe fy fx fu N (frPo n a b (L:Int) (i:Int))=pdT fe fy fx n (a++w) b
 |k,i,0,_,_,h,_=>by omega
 |0,i,N+1,a,hi,hN,ha=>by
  refine⟨[],by simp,?_⟩
  unfold poL
  rw[loopF_succ,po_step,cond_f (decide_eq_false (by omega)),List.append_nil]
 |k+1,i,N+1,a,hi,hN,ha=>by
  obtain⟨w,hw,h⟩:=po_loop fu n b L hL k (i+1) N (a++[32,42,32,98]) (by omega) (by omega) (by simp;omega)
  refine⟨[32,42,32,98]++w,by simp;omega,?_⟩
  have e:IntKind.u8.wrap ((i:Int)+1)=((i+1:Nat):Int):=by
   simp[IntKind.wrap,IntKind.bits,IntKind.signed]
   omega
  unfold poL at h ⊢
  rw[loopF_succ,po_step,cond_t (decide_eq_true (by omega)),lenA_t (by simp;omega),e]
  refine Eq.trans h ?_
  rw[List.append_assoc]
end
theorem pd_true (n v m:Int)(hn:0≤n)(hm:0≤m):prun (en (lPe pxD pyD (smpD 6000))) hPd 100 false fPd [.int .u8 n,.int .u64 v,.int .u8 m]=some (.bool true):=by
 obtain⟨L,hL⟩:∃ L:Nat,n.tmod 30=(L:Int):=⟨(n.tmod 30).toNat,by have:=Int.tmod_nonneg 30 hn;omega⟩
 obtain⟨M,hM⟩:∃ M:Nat,m.tmod 70=(M:Int):=⟨(m.tmod 70).toNat,by have:=Int.tmod_nonneg 70 hm;omega⟩
 have hL2:L≤29:=by have:=Int.tmod_lt_of_pos n (show (0:Int)<30 by decide);omega
 have hM2:M≤69:=by have:=Int.tmod_lt_of_pos m (show (0:Int)<70 by decide);omega
 rw[pd_raw,hL,wrapI_of (by omega) (by omega)]
 obtain⟨ps,b,h1,h2,h3,h4⟩:=pd_loop pxD pyD (smpD 6000) 100 n v m L hL2 L 0 100 [] [] (by omega) (by omega) rfl (by simp) (by simp)
 refine Eq.trans h4 ?_
 have hl:=pcs_len h2
 rw[lenA_t (by simp only[List.length_append,List.length_cons,List.length_nil];omega),hM]
 obtain⟨w,hw,h5⟩:=po_loop pxD pyD (smpD 6000) 100 n b M hM2 M 0 100 (ps.flatten++[97]) (by omega) (by omega) (by simp only[List.length_append,List.length_cons,List.length_nil];omega)
 refine Eq.trans h5 ?_
 unfold pdT
 rw[lenA_t (by simp only[List.length_append,List.length_cons,List.length_nil];omega)]
 unfold pxD pyD
 rw[Option.bind_some,lenA_t (by simp only[List.length_append,List.length_cons,List.length_nil];omega),Option.bind_some]
 have hd:20<L→∃ a,exprV (ps.flatten++[97]++w++b)=.inl a:=fun h=>by
  obtain⟨a,ha⟩:=deep_bad h2 (by omega) ([97]++w++b)
  exact⟨a,by rw[← ha];simp only[List.append_assoc]⟩
 generalize ps.flatten++[97]++w++b=t at hd
 cases hv:exprV t with
 |inl a =>
  obtain⟨u,hu⟩:=er_zero
  show (smpD 6000 XR.zero XR.zero true).bind _=_
  rw[smp1 hu,Option.bind_some]
  simp[pdE,pxRes,pyRes]
 |inr x =>
  obtain⟨-,u,hu⟩:=exprV_has hv
  show (smpD 6000 x x true).bind _=_
  rw[smp1 hu,Option.bind_some]
  have:n.tmod 30≤20:=by
   refine Decidable.byContradiction fun hc=>?_
   obtain⟨a,ha⟩:=hd (by omega)
   rw[hv] at ha
   cases ha
  simp[pdE,pxRes,pyRes,this]
theorem pdLaw (W:World)(n v m:Int)(hn:0≤n)(hm:0≤m)(hW:Ws W)(hng:NGs≤W.heap.size) :
  Calls Tryz.prog 4 #[.int .u8 n,.int .u64 v,.int .u8 m] W fun e W'=>e=.returned (.bool true)∧Below W.heap.size W W' :=
 law_run (vs:=[.int .u8 n,.int .u64 v,.int .u8 m]) (xs:=[.int .u8 n,.int .u64 v,.int .u8 m]) woks ok_lPe Tryz.func4 hW hng (by simp only[RelT,RelD];exact⟨_,_,rfl,rfl,_,_,rfl,rfl,_,_,rfl,rfl,rfl⟩) (pd_true n v m hn hm)
end Go.Proofs.YtkpfigikffphdaaGreatDoor
end
