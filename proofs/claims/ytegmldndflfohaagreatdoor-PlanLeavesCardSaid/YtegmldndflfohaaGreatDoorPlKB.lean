/-
  Lemmas, part K2: what the claim needs of the texts of wip/tpl.
-/
import Derived.ProofKit
import Derived.ChangeArms
import Derived.Deep.Slices
import Derived.Lib.AppendZerosOnto
import Derived.Lib.SliceRun
import Derived.Shelf.RegionOpenPlain
import Derived.Test.YtegmldndflfohaaGreatDoorCards
import Derived.Test.YtegmldndflfohaaGreatDoorTie
import Derived.OpenShut
import Derived.Deep.DeepHandedRow
import Derived.Lib.LaidU8
import Derived.Lib.LaidTab
import Derived.Stop.LaidErr
import Derived.ChangeMaps5
import Derived.Test.YtegmldndflfohaaGreatDoorPlKA
set_option linter.unusedVariables false
set_option linter.unusedSimpArgs false
section
set_option maxRecDepth 100000
namespace Go.Proofs.YtegmldndflfohaaGreatDoor
open Go.RowKit
theorem mulV_in (a sa b sb tt:Int):inI (mulV a sa b sb tt)=true:=by
 unfold mulV
 cases (scaleB sa&&scaleB sb&&scaleB tt)
 ·rfl
 ·exact ansV_in _
theorem divV_in (a sa b sb tt:Int):inI (divV a sa b sb tt)=true:=by
 unfold divV
 cases (scaleB sa&&scaleB sb&&scaleB tt)
 ·rfl
 ·cases (b==0)
  ·exact ansV_in _
  ·rfl
theorem modV_in {a b:Int}(h:inI a=true):inI (modV a b)=true:=by
 unfold modV
 cases (b==0)
 ·cases (b == -1)
  ·simp only[cond_false]
   rw[inI_iff] at h ⊢
   have h1:(a.tmod b).natAbs≤a.natAbs:=by
    rw[Int.natAbs_tmod]
    exact Nat.mod_le _ _
   rcases Int.le_total 0 a with h0|h0
   ·have:=Int.tmod_nonneg b h0
    omega
   ·have h2:=Int.tmod_nonneg (a:=-a) b (by omega)
    rw[Int.neg_tmod] at h2
    omega
  ·rfl
 ·rfl
theorem whS_in (op:List UInt8){a b:Int}(h:inI a=true):inI (whS op a b).1=true:=by
 unfold whS
 cases (op==[43])
 ·cases (op==[45])
  ·cases (op==[42])
   ·cases (op==[47])
    ·cases (op==[37])
     ·rfl
     ·simp only[cond_true,cond_false];exact modV_in h
    ·simp only[cond_true,cond_false];exact divV_in _ _ _ _ _
   ·simp only[cond_true,cond_false];exact mulV_in _ _ _ _ _
  ·simp only[cond_true,cond_false];exact ansV_in _
 ·simp only[cond_true,cond_false];exact ansV_in _
theorem scS_in (op:List UInt8)(a b:Val)(z:Int):inI (scS op a b z).1=true:=by
 unfold scS
 cases (op==[42])
 ·cases (op==[47])
  ·cases (!(op==[43])&&!(op==[45]))
   ·cases (!(scaE a.n a.scale z==0))
    ·cases (!(scaE b.n b.scale z==0))
     ·simp only[cond_true,cond_false];exact whS_in op (scaV_in _ _ _)
     ·rfl
    ·rfl
   ·rfl
  ·simp only[cond_true,cond_false];exact divV_in _ _ _ _ _
 ·simp only[cond_true,cond_false];exact mulV_in _ _ _ _ _
theorem right_num {v:Val}(h:right v=true)(hk:nuB v.kind=true):0≤v.scale∧v.scale≤6∧v.s=[]:=by
 unfold nuB at hk
 simp only[Bool.or_eq_true,beq_iff_eq] at hk
 unfold right at h
 rcases hk with hk|hk
 ·rw[if_neg (by omega),if_neg (by omega),if_pos hk] at h
  simp at h
  exact⟨by omega,by omega,h.2⟩
 ·rw[if_neg (by omega),if_neg (by omega),if_neg (by omega),if_pos hk] at h
  simp at h
  exact⟨h.2.1,h.2.2,h.1⟩
theorem gd_ar (op:List UInt8){a b:Val}(ha:gd a=true)(hb:gd b=true):gd (arS op a b).1=true:=by
 simp only[gd,Bool.and_eq_true] at ha hb
 unfold arS
 cases (!ariE op)
 ·cases (a.kind==0||b.kind==0)
  ·rcases hn:(!nuB a.kind||!nuB b.kind) with _|_
   ·simp only[cond_false]
    cases (a.kind==2&&b.kind==2)
    ·simp only[cond_false]
     cases (!((scS op a b (maxI a.scale b.scale)).2==0))
     ·simp only[Bool.or_eq_false_iff,Bool.not_eq_false'] at hn
      have r1:=right_num ha.1 hn.1
      have r2:=right_num hb.1 hn.2
      have hm:0≤maxI a.scale b.scale∧maxI a.scale b.scale≤6:=by
       unfold maxI
       split<;>omega
      simp only[cond_false,gd,Bool.and_eq_true]
      refine⟨?_,scS_in op a b _⟩
      unfold right
      rw[if_neg (show ¬ ((3:Int)=0) by decide),if_neg (show ¬ ((3:Int)=1) by decide),if_neg (show ¬ ((3:Int)=2) by decide),if_pos rfl]
      exact decide_eq_true ⟨rfl,hm.1,hm.2⟩
     ·rfl
    ·simp only[cond_true]
     cases (!((whS op a.n b.n).2==0))
     ·simp only[cond_false,gd,Bool.and_eq_true]
      exact⟨rfl,whS_in op ha.2⟩
     ·rfl
   ·rfl
  ·rfl
 ·rfl
theorem gd_un (op:List UInt8){v:Val}(h:gd v=true):gd (unS op v).1=true:=by
 simp only[gd,Bool.and_eq_true] at h
 unfold unS
 cases (op==[78,79,84])
 ·cases (op==[45])
  ·rfl
  ·simp only[cond_true,cond_false]
   rcases hk:(!(v.kind==0)&&!nuB v.kind) with _|_
   ·simp only[cond_false]
    cases (!(ansE (0-v.n)==0))
    ·simp only[cond_false,gd,Bool.and_eq_true]
     refine⟨?_,ansV_in _⟩
     have hr:=h.1
     unfold right at hr ⊢
     dsimp only
     simp only[nuB,Bool.and_eq_false_iff,Bool.not_eq_false',beq_iff_eq,Bool.or_eq_true] at hk
     rcases hk with hk|hk|hk
     ·rw[if_pos hk] at hr ⊢
      simp only[decide_eq_true_eq] at hr ⊢
      rw[hr.1]
      exact⟨rfl,hr.2⟩
     ·have k0:¬ v.kind=0:=by omega
      have k1:¬ v.kind=1:=by omega
      rw[if_neg k0,if_neg k1,if_pos hk] at hr ⊢
      exact hr
     ·have k0:¬ v.kind=0:=by omega
      have k1:¬ v.kind=1:=by omega
      have k2:¬ v.kind=2:=by omega
      rw[if_neg k0,if_neg k1,if_neg k2,if_pos hk] at hr ⊢
      exact hr
    ·rfl
   ·rfl
 ·exact gd_tv _
theorem numS_gd (n c t u:Int):inI (numS n c t u).1.n=true:=by
 unfold numS
 cases scaE n c u==0
 ·rfl
 ·exact scaV_in _ _ _
theorem cast_inI {v:Val} {t u:Int} (hn:inI v.n=true):inI (castS v t u).1.n=true:=by
  unfold castS
  cases !tyB t u
  · cases !right v || v.kind == 0
    · simp only [cond_false]
      cases ofB v t u
      · simp only [cond_false]
        have hT:∀ s:List UInt8,inI (textS s).1.n=true:=by
          intro s
          unfold textS
          cases Lib.validD s<;>rfl
        cases v.kind == 1
        · cases v.kind == 2 || v.kind == 3
          · cases v.kind == 4
            · simp only [cond_false]
              unfold fromBytesS
              cases t == 4
              · rfl
              · exact hT _
            · simp only [cond_false,cond_true]
              unfold fromTextS
              cases t == 1
              · cases t == 2 || t == 3
                · cases t == 5<;>rfl
                · simp only [cond_false,cond_true]
                  unfold parS
                  split
                  · exact numS_gd _ _ _ _
                  · rfl
              · cases v.s == trueS
                · cases v.s == falseS<;>rfl
                · rfl
          · simp only [cond_false,cond_true]
            unfold fromNumS
            cases t == 1
            · cases t == 2 || t == 3
              · cases t == 4<;>rfl
              · exact numS_gd _ _ _ _
            · simp only [cond_true]
              cases v.kind == 2 && (v.n == 0 || v.n == 1)
              · rfl
              · cases v.n == 1<;>rfl
        · simp only [cond_true]
          unfold fromBoolS
          cases t == 2
          · cases t == 4
            · rfl
            · simp only [cond_true,cond_false]
              cases v.n == 1<;>rfl
          · exact hn
      · exact hn
    · rfl
  · rfl
theorem numS_or (n c t u:Int):(numS n c t u).2=0∨(numS n c t u).1=vnull:=by
 unfold numS
 cases scaE n c u==0
 ·exact .inr rfl
 ·exact .inl rfl
theorem cast_or (v:Val)(t u:Int):(castS v t u).2=0∨(castS v t u).1=vnull:=by
 unfold castS
 cases !tyB t u
 ·cases !right v||v.kind==0
  ·simp only[cond_false]
   cases ofB v t u
   ·simp only[cond_false]
    have hT:∀ s:List UInt8,(textS s).2=0∨(textS s).1=vnull:=by
     intro s
     unfold textS
     cases Lib.validD s<;>first|exact .inl rfl|exact .inr rfl
    cases v.kind==1
    ·cases v.kind==2||v.kind==3
     ·cases v.kind==4
      ·simp only[cond_false]
       unfold fromBytesS
       cases t==4
       ·first|exact .inl rfl|exact .inr rfl
       ·exact hT _
      ·simp only[cond_false,cond_true]
       unfold fromTextS
       cases t==1
       ·cases t==2||t==3
        ·cases t==5<;>first|exact .inl rfl|exact .inr rfl
        ·simp only[cond_false,cond_true]
         unfold parS
         split
         ·exact numS_or _ _ _ _
         ·first|exact .inl rfl|exact .inr rfl
       ·cases v.s==trueS
        ·cases v.s==falseS<;>first|exact .inl rfl|exact .inr rfl
        ·first|exact .inl rfl|exact .inr rfl
     ·simp only[cond_false,cond_true]
      unfold fromNumS
      cases t==1
      ·cases t==2||t==3
       ·cases t==4<;>first|exact .inl rfl|exact .inr rfl
       ·exact numS_or _ _ _ _
      ·simp only[cond_true]
       cases v.kind==2&&(v.n==0||v.n==1)
       ·first|exact .inl rfl|exact .inr rfl
       ·cases v.n==1<;>first|exact .inl rfl|exact .inr rfl
    ·simp only[cond_true]
     unfold fromBoolS
     cases t==2
     ·cases t==4
      ·first|exact .inl rfl|exact .inr rfl
      ·simp only[cond_true,cond_false]
       cases v.n==1<;>first|exact .inl rfl|exact .inr rfl
     ·exact .inl rfl
   ·exact .inl rfl
  ·first|exact .inl rfl|exact .inr rfl
 ·first|exact .inl rfl|exact .inr rfl
theorem gd_cast {v:Val}(t u:Int)(h:gd v=true):gd (castS v t u).1=true:=by
 simp only[gd,Bool.and_eq_true] at h ⊢
 refine⟨?_,cast_inI h.2⟩
 rcases cast_or v t u with e|e
 ·have:=cast_of h.2 e
  simp only[ofB,Bool.and_eq_true] at this
  exact this.2.1
 ·rw[e];rfl
def wfN:Nat→NdC→Prop
 |0,_=>False
 |D+1,x=>inI x.v.n=true∧∃ l,x.n=l.length∧x.c=ndC l∧∀ y∈l,wfN D y
def Sm:Nat→NdC→Prop
 |0,_=>False
 |f+1,x=>okV x.v=true∧∃ l,x.n=l.length∧x.c=ndC l∧∀ y∈l,Sm f y
def Gd1 (g:Ev1)(y:NdC):Prop:=∃ r,g y=some r∧gd r.1=true
theorem cond_gd {c:Bool}{A B:Option (Val×Int)}(h1:c=true→∃ r,A=some r∧gd r.1=true)(h2:c=false→∃ r,B=some r∧gd r.1=true):∃ r,(bif c then A else B)=some r∧gd r.1=true:=by
 cases c
 ·exact h2 rfl
 ·exact h1 rfl
theorem null_gd (e:Int):∃ r:Val×Int,some (vnull,e)=some r∧gd r.1=true:=⟨_,rfl,rfl⟩
theorem lgS_some {g:Ev1}{op:List UInt8}{a b:NdC}{t:List NdC}(ha:Gd1 g a)(hb:Gd1 g b):∃ r,lgS g op (a::b::t)=some r∧gd r.1=true:=by
 obtain⟨p,ha,pa⟩:=ha
 obtain⟨q,hb,pb⟩:=hb
 unfold lgS
 rw[show (a::b::t)[0]? = some a from rfl,Option.bind_some,ha,Option.bind_some,show (a::b::t)[1]? = some b from rfl,Option.bind_some,hb,Option.bind_some]
 exact cond_gd (fun _=>null_gd _) fun _=>cond_gd (fun _=>⟨_,rfl,gd_tv _⟩) fun _=>cond_gd (fun _=>null_gd _) fun _=>cond_gd (fun _=>⟨_,rfl,gd_tv _⟩) fun _=>⟨_,rfl,gd_tv _⟩
theorem biS_some {g:Ev1}{op:List UInt8}{a b:NdC}{t:List NdC}(ha:Gd1 g a)(hb:Gd1 g b):∃ r,biS g op (a::b::t)=some r∧gd r.1=true:=by
 unfold biS
 refine cond_gd (fun _=>lgS_some ha hb) fun _=>cond_gd (fun _=>?_) fun h=>?_
 ·obtain⟨p,ha,pa⟩:=ha
  obtain⟨q,hb,pb⟩:=hb
  show ∃ r,((alS g [a,b]).bind _)=some r∧_
  rw[alS,ha,Option.bind_some,alS,hb,Option.bind_some,alS,Option.bind_some]
  rcases hp:(p.2==0) with _|_<;>simp only[Bool.not_false,Bool.not_true,cond_true,cond_false,Option.bind_some,hp]
  ·exact null_gd _
  ·rcases hq:(q.2==0) with _|_<;>simp only[Bool.not_false,Bool.not_true,cond_true,cond_false,Option.bind_some,hq]
   ·exact null_gd _
   ·exact cond_gd (fun _=>⟨_,rfl,gd_cp _ _ _⟩) fun _=>⟨_,rfl,gd_ar _ pa pb⟩
 ·simp at h
def okR (row:List Val):Prop:=∀ v∈row,inI v.n=true∧v.s.length≤250
theorem row_at {row:List Val}(h:okR row)(i:Nat):inI (row.getD i vnull).n=true∧(row.getD i vnull).s.length≤250:=by
 rw[List.getD_eq_getElem?_getD]
 rcases hg:row[i]? with _|v
 ·exact⟨rfl,by simp[vnull]⟩
 ·exact h v (List.mem_of_getElem? hg)
theorem evB_some {g:Ev1}{x:NdC}{l:List NdC}{row:List Val}(hx:okV x.v=true)(hr:okR row)(hl:∀ y∈l,Gd1 g y):∃ r,evB g x l row=some r∧gd r.1=true:=by
 unfold evB
 refine cond_gd (fun _=>null_gd _) fun h0=>cond_gd (fun _=>?_) fun h1=>cond_gd (fun _=>?_) fun h2=>cond_gd (fun h3=>?_) fun h3=>?_
 ·simp only[okV,Bool.and_eq_true] at hx
  exact⟨_,cond_t hx.2,gd_rt hx.1⟩
 ·have e:=row_at hr x.slot.toNat
  refine⟨_,cond_t (decide_eq_true (by omega)),?_⟩
  unfold colS
  cases decide (x.slot<0)
  ·cases decide ((row.length:Int)≤x.slot)
   ·exact gd_rt e.1
   ·rfl
  ·rfl
 ·have h3:x.k=3:=by simpa using h3
  rw[h3] at h0
  simp only[Bool.or_eq_false_iff,decide_eq_false_iff_not] at h0
  have h4:¬ ((l.length:Int)<2):=h0.2
  match l,hl,h4 with
  |a::b::t,hl,_=>exact biS_some (hl a (by simp)) (hl b (by simp))
  |[a],_,h4=>exact absurd (show ((1:Nat):Int)<2 by decide) h4
  |[],_,h4=>exact absurd (show ((0:Nat):Int)<2 by decide) h4
 ·simp only[Bool.or_eq_false_iff,decide_eq_false_iff_not] at h0
  have hk:1≤kdI x.k:=by
   have:=h0.1
   unfold kdI at this ⊢
   rw[h1,h2,h3] at this ⊢
   simp only[cond_false] at this ⊢
   revert this
   cases (x.k==2)<;>cases (x.k==4)<;>cases (x.k==6)<;>simp
  have h4:=h0.2
  match l,hl,h4 with
  |[],_,h4=>exact absurd (show (([]:List NdC).length:Int)<kdI x.k by simp;omega) h4
  |a::t,hl,_ =>
   obtain⟨p,ha,pa⟩:=hl a (by simp)
   rw[show (a::t)[0]? = some a from rfl,Option.bind_some,ha,Option.bind_some]
   exact cond_gd (fun _=>null_gd _) fun _=>cond_gd (fun _=>⟨_,rfl,gd_bo _⟩) fun _=>cond_gd (fun _=>⟨_,rfl,gd_cast _ _ pa⟩) fun _=>⟨_,rfl,gd_un _ pa⟩
theorem ev_some {row:List Val}(hr:okR row):∀ (f:Nat) (x:NdC),Sm f x→Gd1 (evS f row) x
 |0,x,h=>h.elim
 |f+1,x,h=>by
  obtain⟨hx,l,hn,hc,hl⟩:=h
  obtain⟨r,e,g⟩:=evB_some (g:=evS f row) hx hr (fun y hy=>ev_some hr f y (hl y hy))
  exact⟨r,evS_succ f row hn hc e g,g⟩
theorem gd_kind1 {v:Val}(h:gd v=true):trS v=rtrS v∧(trS v=0∨trS v=1∨trS v=2):=by
 simp only[gd,Bool.and_eq_true] at h
 have hr:=h.1
 unfold trS rtrS rtV
 rw[hr]
 simp only[cond_true]
 rcases hk:(v.kind==1) with _|_
 ·exact⟨rfl,.inr (.inr rfl)⟩
 ·have k1:v.kind=1:=by simpa using hk
  have k0:¬ v.kind=0:=by omega
  unfold right at hr
  rw[if_neg k0,if_pos k1] at hr
  simp only[decide_eq_true_eq] at hr
  refine⟨rfl,?_⟩
  show v.n=0∨v.n=1∨v.n=2
  omega
def numI (a b:Int):Int:=bif decide (a<b) then -1 else bif decide (b<a) then 1 else 0
theorem numI_lt {a b:Int}(h:a<b):numI a b=-1:=by unfold numI;rw[decide_eq_true h];rfl
theorem numI_gt {a b:Int}(h:b<a):numI a b=1:=by unfold numI;rw[decide_eq_false (by omega),decide_eq_true h];rfl
theorem numI_self (a:Int):numI a a=0:=by unfold numI;rw[decide_eq_false (by omega)];rfl
theorem num_raw (l:List (FuncId×PFn))(a b:Int)(fuel:Nat):prun (en l) ⟨[],[]⟩ fuel false Tryz.f50 [.int .i64 a,.int .i64 b] =
  bif decide (a<b) then some (.int .i64 (-1)) else bif decide (b<a) then some (.int .i64 1) else some (.int .i64 0):=by kernel_rfl
def p_numbers:PFn:=⟨fun xs k=>match xs with|[.int .i64 a,.int .i64 b]=>k (.int .i64 (numI a b))|_=>none,false⟩
theorem ok_numbers:FOK NGk Tabs 50 p_numbers:=by
 refine fok wokk allOK_nil (h:=⟨[],[]⟩) Tryz.func50 rfl (by decide) ?_ ?_
 ·intro R xs k
  simp only[p_numbers]
  split<;>rfl
 ·intro xs r h
  simp only[p_numbers] at h
  split at h
  ·rename_i a b
   refine⟨0,(num_raw [] a b 0).trans ?_⟩
   rw[← h]
   unfold numI
   cases decide (a<b)<;>cases decide (b<a)<;>rfl
  ·cases h
def txtL:List UInt8→List UInt8→Int
 |[],[]=>0
 |[],_::_=>-1
 |_::_,[]=>1
 |a::x,b::y=>bif a==b then txtL x y else numI (a.toNat:Int) (b.toNat:Int)
theorem txt_nil:∀ (x:List UInt8),txtL x []=numI (x.length:Int) 0
 |[]=>rfl
 |c::x=>by rw[numI_gt (by simp only[List.length_cons];omega)];rfl
theorem nil_txt:∀ (x:List UInt8),txtL [] x=numI 0 (x.length:Int)
 |[]=>rfl
 |c::x=>by rw[numI_lt (by simp only[List.length_cons];omega)];rfl
def ixS {R:Type}(s:List UInt8)(i:Int)(K:UInt8→Option R):Option R:=bif decide (0≤i)&&decide (i<(s.length:Int)) then s[i.toNat]?.bind K else none
theorem ixS_eq {R:Type}{s:List UInt8}{i:Nat}{c:UInt8}{K:UInt8→Option R}(h:s[i]? = some c):ixS s (i:Int) K=K c:=by
 have:=(List.getElem?_eq_some_iff.1 h).1
 unfold ixS
 rw[cond_t (by rw[decide_eq_true (by omega),decide_eq_true (by omega)];rfl),Int.toNat_natCast,h]
 rfl
def hTx:Hints:=⟨[],[(0,⟨[(0,false),(1,false),(5,false)],[]⟩)]⟩
def frTx (x y:List UInt8)(i:Int):St:=frame 39 [(0,(.str x,0)),(1,(.str y,0)),(5,(.int .i64 i,0))] []
noncomputable def lTx:List (FuncId×PFn):=[(50,p_numbers)]
noncomputable def txLoop (fu n:Nat)(st:St):Option PV:=loopF (en lTx) hTx fu false Tryz.f29 [1,0,1,0] 0 n st
theorem tx_raw (fu:Nat)(x y:List UInt8):prun (en lTx) hTx fu false Tryz.f29 [.str x,.str y]=txLoop fu fu (frTx x y 0):=by kernel_rfl
theorem tx_step (fu:Nat)(x y:List UInt8)(i:Int)(K:St→Option PV):stepF (en lTx) hTx fu false Tryz.f29 [1,0,1,0] (frTx x y i) (fun st=>pnorm (hTx.loop.lookup 0) st K) =
  bif decide (i<(x.length:Int))&&decide (i<(y.length:Int)) then ixS x i fun a=>ixS y i fun b=>bif !((a.toNat:Int)==(b.toNat:Int)) then
    ixS x i fun a=>ixS y i fun b=>some (.int .i64 (numI (IntKind.i64.wrap (a.toNat:Int)) (IntKind.i64.wrap (b.toNat:Int)))) else K (frTx x y (IntKind.i64.wrap (i+1)))
  else some (.int .i64 (numI (x.length:Int) (y.length:Int))):=by kernel_rfl
theorem tx_loop (fu:Nat)(x y:List UInt8)(hx:x.length≤1000000):∀ (k i n:Nat),i+k=x.length→k<n→i≤y.length→txLoop fu n (frTx x y (i:Int))=some (.int .i64 (txtL (x.drop i) (y.drop i)))
 |k,i,0,_,h,_=>by omega
 |k, i, n+1,hi,hn,hy=>by
  unfold txLoop
  rw[loopF_succ,tx_step]
  by_cases h1:i<x.length
  ·by_cases h2:i<y.length
   ·have c1:=List.getElem?_eq_getElem h1
    have c2:=List.getElem?_eq_getElem h2
    rw[cond_t (by rw[decide_eq_true (by omega),decide_eq_true (by omega)];rfl),ixS_eq c1,ixS_eq c2,ixS_eq c1,ixS_eq c2,List.drop_eq_getElem_cons h1,List.drop_eq_getElem_cons h2,txtL]
    have b1:=x[i].toNat_lt
    have b2:=y[i].toNat_lt
    have e:((x[i].toNat:Int)==(y[i].toNat:Int))=(x[i]==y[i]):=by
     rw[Bool.eq_iff_iff]
     simp only[beq_iff_eq]
     constructor
     ·intro e;apply UInt8.toNat_inj.1;omega
     ·intro e;rw[e]
    rw[e,wrapI_of (x:=(x[i].toNat:Int)) (by omega) (by omega),wrapI_of (x:=(y[i].toNat:Int)) (by omega) (by omega),wrapI_of (by omega) (by omega)]
    cases x[i]==y[i]
    ·rfl
    ·simp only[Bool.not_true,cond_false,cond_true]
     have ih:=tx_loop fu x y hx (k-1) (i+1) n (by omega) (by omega) (by omega)
     unfold txLoop at ih
     exact ih
   ·have hyl:y.length=i:=by omega
    rw[cond_f (by rw[decide_eq_false (show ¬ (i:Int)<(y.length:Int) by omega),Bool.and_false]),show y.drop i=[] from List.drop_of_length_le (by omega),txt_nil,List.length_drop,numI_gt (by omega),numI_gt (by omega)]
  ·rw[cond_f (by rw[decide_eq_false (show ¬ (i:Int)<(x.length:Int) by omega),Bool.false_and]),show x.drop i=[] from List.drop_of_length_le (by omega),nil_txt,List.length_drop]
   by_cases h2:i<y.length
   ·rw[numI_lt (by omega),numI_lt (by omega)]
   ·rw[show y.length=x.length by omega,show x.length-i=0 by omega,numI_self];rfl
def p_Texts:PFn:=⟨fun xs k=>match xs with|[.str x,.str y]=>bif decide (x.length≤1000000) then k (.int .i64 (txtL x y)) else none|_=>none,false⟩
theorem ok_Texts:FOK NGk Tabs 29 p_Texts:=by
 refine fok wokk (allOK_cons ok_numbers allOK_nil) (h:=hTx) Tryz.func29 rfl (by decide) ?_ ?_
 ·intro R xs k
  simp only[p_Texts]
  split
  ·exact cond_nat
  ·rfl
 ·intro xs r h
  simp only[p_Texts] at h
  split at h
  ·rename_i x y
   rcases hb:decide (x.length≤1000000) with _|_<;>rw[hb] at h
   ·cases h
   ·simp only[cond_true,Option.some.injEq] at h
    subst h
    simp only[decide_eq_true_eq] at hb
    exact⟨x.length+1,(tx_raw _ x y).trans (tx_loop _ x y hb x.length 0 _ (by omega) (by omega) (by omega))⟩
  ·cases h
theorem txtL_eq:∀ (x y:List UInt8),txtL x y=Lib.compareBytes x y
 |[],[]=>rfl
 |[],_::_=>rfl
 |_::_,[]=>rfl
 |a::x,b::y=>by
  rw[txtL,Lib.compareBytes]
  by_cases h:a=b
  ·subst h
   have hn:¬ a<a:=fun h=>absurd (UInt8.lt_iff_toNat_lt.1 h) (by omega)
   rw[if_neg hn,if_neg hn,show (a==a)=true by simp]
   exact txtL_eq x y
  ·have hne:a.toNat≠b.toNat:=fun e=>h (UInt8.toNat_inj.1 e)
   rw[show (a==b)=false by simpa using h]
   by_cases h1:a<b
   ·rw[if_pos h1]
    exact numI_lt (by have:=UInt8.lt_iff_toNat_lt.1 h1;omega)
   ·rw[if_neg h1]
    have h2:b<a:=UInt8.lt_iff_toNat_lt.2 (by
     have:¬ a.toNat<b.toNat:=fun e=>h1 (UInt8.lt_iff_toNat_lt.2 e)
     omega)
    rw[if_pos h2]
    exact numI_gt (by have:=UInt8.lt_iff_toNat_lt.1 h2;omega)
noncomputable def lC3:List (FuncId×PFn):=[(48,p_plV),(67,p_RCompare),(50,p_numbers),(29,p_Texts)]
theorem ok_lC3:AllOK NGc Wc lC3:=allOK_cons ok_plV (allOK_cons (fok_d ok_RCompare) (allOK_cons (fok_k ok_numbers) (allOK_cons (fok_k ok_Texts) allOK_nil)))
def plvO {R:Type}(v:Val)(K:Val→Option R):Option R:=bif decide (v.s.length≤1000000) then K (Go.Proofs.YtegmldndflfohaaGreatDoor.plain v) else none
def txtO {R:Type}(s t:List UInt8)(K:Int→Option R):Option R:=bif decide (s.length≤1000000) then K (txtL s t) else none
def c3Body (x y:Val):Option PV :=
 bif (x.kind==2||x.kind==3)&&(y.kind==2||y.kind==3) then bif inI x.n&&inI y.n then some (resCmp (dcmp x.n x.scale y.n y.scale,true)) else none
 else bif x.kind==0||!(x.kind==y.kind) then some (resCmp (0,false))
 else bif x.kind==1 then some (resCmp (numI x.n y.n,true))
 else txtO x.s y.s fun z=>some (resCmp (z,true))
theorem c3_raw (a n c:Int)(s:List UInt8)(a' n' c':Int)(s':List UInt8):prun (en lC3) ⟨[],[]⟩ 0 false Tryz.f49 [.agg [.int .i64 a,.int .i64 n,.int .i64 c,.str s],.agg [.int .i64 a',.int .i64 n',.int .i64 c',.str s']] =
  plvO ⟨a,n,c,s⟩ fun x=>plvO ⟨a',n',c',s'⟩ fun y=>c3Body x y:=by kernel_rfl
def c3O (a b:Val)(K:Int×Bool→Option PV):Option PV:=bif gd a&&gd b then K (cmpS a b) else none
theorem nt_t {α:Type}{A B:α}:(bif !true then A else B)=B:=rfl
theorem nt_f {α:Type}{A B:α}:(bif !false then A else B)=A:=rfl
section
variable {d:Nat} {row:List Val} {o1:List UInt8} {j1 a1 n1 c1:Int} {s1:List UInt8} {b1:Bool} {t1 u1:Int} {z1:Option Bool} {l:List NdC} {y1:Option Bool} {r:Val × Int} {m:Nat}
end
def cm6 (s:List UInt8):Bool:=s==[61]||(s==[60,62]||(s==[60]||(s==[60,61]||(s==[62]||s==[62,61]))))
def cm6P (s:List UInt8):Option PV:=bif s==[61] then some (.bool true) else bif s==[60,62] then some (.bool true) else bif s==[60] then some (.bool true) else bif s==[60,61] then some (.bool true) else bif s==[62] then some (.bool true) else bif s==[62,61] then some (.bool true) else some (.bool false)
noncomputable def v_con6:PFn:=evalFn [(99,v_ixs)] ⟨[],[]⟩ 0 Tryz.f81
theorem ok_con6:FOK NGc Wc 81 v_con6:=evalFn_ok wokc (allOK_cons ok_ixs allOK_nil) Tryz.func81 rfl (by decide)
theorem cm6_raw (s:List UInt8):prun (en [(81,v_con6)]) ⟨[],[]⟩ 0 false Tryz.f60 [.str s]=cm6P s:=by kernel_rfl
theorem cm6_body (s:List UInt8):cm6P s=some (.bool (cm6 s)):=by
 unfold cm6P cm6
 cases (s==[61])<;>cases (s==[60,62])<;>cases (s==[60])<;>cases (s==[60,61])<;>cases (s==[62])<;>cases (s==[62,61])<;>rfl
def p_cm6:PFn:=⟨fun xs k=>match xs with|[.str s]=>k (.bool (cm6 s))|_=>none,false⟩
theorem ok_cm6:FOK NGc Wc 60 p_cm6:=by
 refine fok wokc (allOK_cons ok_con6 allOK_nil) (h:=⟨[],[]⟩) Tryz.func60 rfl (by decide) ?_ ?_
 ·intro R xs k
  simp only[p_cm6]
  split
  ·rfl
  ·rfl
 ·intro xs r h
  simp only[p_cm6] at h
  split at h
  ·rename_i s
   exact⟨0,((cm6_raw s).trans (cm6_body s)).trans h⟩
  ·cases h
def qzsgP (k:Int)(op:List UInt8)(n:Nat):Option PV :=
 bif k==2 then some (.bool (bif op==[78,79,84] then (n:Int)==1 else false)) else
 bif k==3 then (bif !(bif op==[65,78,68] then true else op==[79,82]) then some (.bool (bif cm6 op then (n:Int)==2 else false)) else some (.bool ((n:Int)==2))) else
 bif k==4 then some (.bool ((n:Int)==1)) else some (.bool false)
def qzsgB (k:Int)(op:List UInt8)(n:Nat):Bool :=
 bif k==2 then op==[78,79,84]&&n==1 else bif k==3 then (op==[65,78,68]||op==[79,82]||cm6 op)&&n==2 else bif k==4 then n==1 else false
theorem qzsg_raw2 (k1:Int)(o1:List UInt8)(j1 a1 n1 c1:Int)(s1:List UInt8)(b1:Bool)(t1 u1:Int)(z1:Option Bool)(m1:Nat)(d1:List PV):prun (en [(60,p_cm6)]) ⟨[],[]⟩ 0 false Tryz.f36 [.agg [.int .i64 k1,.str o1,.int .i64 j1,.int .i64 a1,.int .i64 n1,.int .i64 c1,.str s1,.bool b1,.int .i64 t1,.int .i64 u1,.sl z1 11 m1 d1]]=qzsgP k1 o1 m1:=by kernel_rfl
theorem qznatI (n m:Nat):((n:Int)==(m:Int))=(n==m):=by
 rw[Bool.eq_iff_iff];simp;omega
theorem qzsgP_eq (k:Int)(op:List UInt8)(n:Nat):qzsgP k op n=some (.bool (qzsgB k op n)):=by
 unfold qzsgP qzsgB
 rw[show ((n:Int)==1)=(n==1) from qznatI n 1,show ((n:Int)==2)=(n==2) from qznatI n 2]
 cases (k==2)<;>cases (k==3)<;>cases (k==4)<;>cases (op==[78,79,84])<;>cases (op==[65,78,68])<;>cases (op==[79,82])<;>cases (cm6 op)<;>cases (n==1)<;>cases (n==2)<;>rfl
def p_sgn:PFn:=⟨fun xs k=>match xs with|[.agg [.int .i64 k1,.str o1,.int .i64 j1,.int .i64 a1,.int .i64 n1,.int .i64 c1,.str s1,.bool b1,.int .i64 t1,.int .i64 u1,.sl z1 11 m1 d1]]=>k (.bool (qzsgB k1 o1 m1))|_=>none,false⟩
theorem ok_sgn:FOK NGc Wc 36 p_sgn:=by
 refine fok wokc (allOK_cons ok_cm6 allOK_nil) (h:=⟨[],[]⟩) Tryz.func36 rfl (by decide) ?_ ?_
 ·intro R xs k
  simp only[p_sgn]
  split
  ·rfl
  ·rfl
 ·intro xs r h
  simp only[p_sgn] at h
  split at h
  ·rename_i k1 o1 j1 a1 n1 c1 s1 b1 t1 u1 z1 m1 d1
   exact⟨0,((qzsg_raw2 k1 o1 j1 a1 n1 c1 s1 b1 t1 u1 z1 m1 d1).trans (qzsgP_eq k1 o1 m1)).trans h⟩
  ·cases h
abbrev QuT:=NdC→Option Bool
def p_qu (g:QuT):PFn:=⟨fun xs k=>match xs with|[.agg [.int .i64 k1,.str o1,.int .i64 j1,.int .i64 a1,.int .i64 n1,.int .i64 c1,.str s1,.bool b1,.int .i64 t1,.int .i64 u1,.sl z1 11 m1 d1]]=>(g ⟨k1,o1,j1,⟨a1,n1,c1,s1⟩,b1,t1,u1,z1,m1,d1⟩).bind fun b=>k (.bool b)|_=>none,false⟩
theorem p_qu_nat (g:QuT):(p_qu g).nat:=by
 intro R xs k
 simp only[p_qu]
 split
 ·rename_i k1 o1 j1 a1 n1 c1 s1 b1 t1 u1 z1 m1 d1
  cases g ⟨k1,o1,j1,⟨a1,n1,c1,s1⟩,b1,t1,u1,z1,m1,d1⟩<;>rfl
 ·rfl
theorem qznq_raw (g:QuT)(k1:Int)(o1:List UInt8)(j1 a1 n1 c1:Int)(s1:List UInt8)(b1:Bool)(t1 u1:Int)(z1:Option Bool)(m1:Nat)(d1:List PV):prun (en [(18,p_qu g)]) ⟨[],[]⟩ 0 false Tryz.f37 [.agg [.int .i64 k1,.str o1,.int .i64 j1,.int .i64 a1,.int .i64 n1,.int .i64 c1,.str s1,.bool b1,.int .i64 t1,.int .i64 u1,.sl z1 11 m1 d1]]=(g ⟨k1,o1,j1,⟨a1,n1,c1,s1⟩,b1,t1,u1,z1,m1,d1⟩).bind fun b=>some (.bool (!b)):=by kernel_rfl
def qznotG (g:QuT):QuT:=fun x=>(g x).map (!·)
theorem qzok_nq {g:QuT}(hg:FOK NGc Wc 18 (p_qu g)):FOK NGc Wc 37 (p_qu (qznotG g)):=by
 refine fok wokc (allOK_cons hg allOK_nil) (h:=⟨[],[]⟩) Tryz.func37 rfl (by decide) (p_qu_nat _) ?_
 intro xs r h
 simp only[p_qu] at h
 split at h
 ·rename_i k1 o1 j1 a1 n1 c1 s1 b1 t1 u1 z1 m1 d1
  refine⟨0,(qznq_raw g k1 o1 j1 a1 n1 c1 s1 b1 t1 u1 z1 m1 d1).trans (Eq.trans ?_ h)⟩
  unfold qznotG
  cases g ⟨k1,o1,j1,⟨a1,n1,c1,s1⟩,b1,t1,u1,z1,m1,d1⟩<;>rfl
 ·cases h
def qzhIx:Hints:=⟨[],[(0,⟨[(0,false),(1,false),(7,false),(8,false)],[]⟩)]⟩
def qzfrIx (f:FuncId)(z:Option Bool)(m:Nat)(d:List PV)(L i:Int):St:=frame 19 [(0,(.sl z 11 m d,0)),(1,(.clo f [],0)),(7,(.int .i64 L,0)),(8,(.int .i64 i,0))] []
noncomputable def qzixLoop (g:QuT)(fu n:Nat)(st:St):Option PV:=loopF (en [(37,p_qu g)]) qzhIx fu false Tryz.f44 [1,0,1,0] 0 n st
theorem qzix_raw (g:QuT)(fu:Nat)(z:Option Bool)(m:Nat)(d:List PV):prun (en [(37,p_qu g)]) qzhIx fu false Tryz.f44 [.sl z 11 m d,.clo 37 []]=qzixLoop g fu fu (qzfrIx 37 z m d (m:Int) 0):=prunN_eq.trans (by kernel_rfl)
theorem qzix_step (g:QuT)(fu:Nat)(z:Option Bool)(m:Nat)(d:List PV)(L i:Int)(K:St→Option PV) :
  stepF (en [(37,p_qu g)]) qzhIx fu false Tryz.f44 [1,0,1,0] (qzfrIx 37 z m d L i) (fun st=>pnorm (qzhIx.loop.lookup 0) st K) =
  bif decide (i<L) then at11 m d i fun y=>(g y).bind fun b=>bif b then some (.int .i64 i) else K (qzfrIx 37 z m d L (IntKind.i64.wrap (i+1)))
  else some (.int .i64 (-1)):=by kernel_rfl
def qzixS (g:QuT):List NdC→Int→Option Int
 |[],_=>some (-1)
 |y::ys,i=>(g y).bind fun b=>bif b then some i else qzixS g ys (i+1)
theorem qzix_loop (g:QuT)(fu:Nat)(z:Option Bool)(l:List NdC)(hl:l.length≤1000000):∀ (k i n:Nat) (r:Int),i+k=l.length→k<n→qzixS g (l.drop i) (i:Int)=some r →
  qzixLoop g fu n (qzfrIx 37 z l.length (ndC l) (l.length:Int) (i:Int))=some (.int .i64 r)
 |k,i,0,_,h,_,_=>by omega
 |0,i,n+1,r,hi,hn,hr=>by
  unfold qzixLoop
  rw[loopF_succ,qzix_step,cond_f (decide_eq_false (by omega))]
  rw[List.drop_of_length_le (by omega),qzixS] at hr
  injection hr with hr
  subst hr
  rfl
 |k+1,i,n+1,r,hi,hn,hr=>by
  unfold qzixLoop
  have hc:=List.getElem?_eq_getElem (l:=l) (i:=i) (by omega)
  have ih:=qzix_loop g fu z l hl k (i+1) n r
  unfold qzixLoop at ih
  rw[loopF_succ,qzix_step,cond_t (decide_eq_true (by omega)),at11_eq hc,wrapI_of (by omega) (by omega)]
  rw[List.drop_eq_getElem_cons (show i<l.length by omega),qzixS] at hr
  obtain⟨b,h1,hr⟩:=Option.bind_eq_some_iff.1 hr
  rw[h1,Option.bind_some]
  cases b
  ·exact ih (by omega) (by omega) hr
  ·injection hr with hr
   subst hr
   rfl
def qzp_ixf (g:QuT):PFn:=⟨fun xs k=>match xs with|[.sl _ 11 n c,.clo f []]=>bif f==37 then ((decG 11 ndG n c).bind fun l=>bif decide (l.length≤1000000) then (qzixS g l 0).bind fun r=>k (.int .i64 r) else none) else none|_=>none,false⟩
theorem qzok_ixf {g:QuT}(hg:FOK NGc Wc 37 (p_qu g)):FOK NGc Wc 44 (qzp_ixf g):=by
 refine fok wokc (allOK_cons hg allOK_nil) (h:=qzhIx) Tryz.func44 rfl (by decide) ?_ ?_
 ·intro R xs k
  simp only[qzp_ixf]
  split
  ·rename_i z n c f
   cases (f==37)
   ·rfl
   ·cases decG 11 ndG n c with
    |none=>rfl
    |some l =>
     simp only[Option.bind_some,cond_true]
     cases decide (l.length≤1000000)
     ·rfl
     ·cases qzixS g l 0<;>rfl
  ·rfl
 ·intro xs r h
  simp only[qzp_ixf] at h
  split at h
  ·rename_i z n c f
   rcases hf:(f==37) with _|_<;>rw[hf] at h
   ·cases h
   ·obtain⟨l,hd,h0⟩:=Option.bind_eq_some_iff.1 (show ((decG 11 ndG n c).bind _)=some r from h)
    obtain⟨rfl,rfl⟩:=decNd hd
    have hf:f=37:=by simpa using hf
    subst hf
    have h1:(bif decide (l.length≤1000000) then (qzixS g l 0).bind fun r=>some (PV.int .i64 r) else none)=some r:=h0
    rcases hl:decide (l.length≤1000000) with _|_<;>rw[hl] at h1
    ·cases h1
    ·obtain⟨q,hq,h1⟩:=Option.bind_eq_some_iff.1 (show ((qzixS g l 0).bind fun r=>some (PV.int .i64 r))=some r from h1)
     injection h1 with h1
     subst h1
     simp only[decide_eq_true_eq] at hl
     exact⟨l.length+1,(qzix_raw g _ z _ _).trans (qzix_loop g _ z l hl l.length 0 _ q (by omega) (by omega) hq)⟩
  ·cases h
def qzixO {R:Type}(g:QuT)(n:Nat)(c:List PV)(K:Int→Option R):Option R:=(decG 11 ndG n c).bind fun l=>bif decide (l.length≤1000000) then (qzixS g l 0).bind K else none
theorem qzcf_raw (g:QuT)(z:Option Bool)(m:Nat)(d:List PV):prun (en [(44,qzp_ixf g)]) ⟨[],[]⟩ 0 false Tryz.f22 [.sl z 11 m d,.clo 37 []]=qzixO g m d fun r=>some (.bool (decide (0≤r))):=by kernel_rfl
def qzanS (g:QuT):List NdC→Option Bool
 |[]=>some false
 |y::ys=>(g y).bind fun b=>bif b then some true else qzanS g ys
theorem qzixS_an {g:QuT}:∀ {l:List NdC} {i:Int} {b:Bool},0≤i→qzanS g l=some b→∃ r,qzixS g l i=some r∧decide (0≤r)=b
 |[],i,b,_,h=>by
  injection h with h;subst h
  exact⟨-1,rfl,by decide⟩
 |y::ys,i,b,hi,h=>by
  rw[qzanS] at h
  obtain⟨c,hc,h⟩:=Option.bind_eq_some_iff.1 h
  rw[qzixS,hc,Option.bind_some]
  cases c
  ·exact qzixS_an (by omega) h
  ·injection h with h;subst h
   exact⟨i,rfl,decide_eq_true hi⟩
def qzp_cf (g:QuT):PFn:=⟨fun xs k=>match xs with|[.sl _ 11 n c,.clo f []]=>bif f==37 then ((decG 11 ndG n c).bind fun l=>bif decide (l.length≤1000000) then (qzanS g l).bind fun r=>k (.bool r) else none) else none|_=>none,false⟩
theorem qzok_cf {g:QuT}(hg:FOK NGc Wc 37 (p_qu g)):FOK NGc Wc 22 (qzp_cf g):=by
 refine fok wokc (allOK_cons (qzok_ixf hg) allOK_nil) (h:=⟨[],[]⟩) Tryz.func22 rfl (by decide) ?_ ?_
 ·intro R xs k
  simp only[qzp_cf]
  split
  ·rename_i z n c f
   cases (f==37)
   ·rfl
   ·cases decG 11 ndG n c with
    |none=>rfl
    |some l =>
     simp only[Option.bind_some,cond_true]
     cases decide (l.length≤1000000)
     ·rfl
     ·cases qzanS g l<;>rfl
  ·rfl
 ·intro xs r h
  simp only[qzp_cf] at h
  split at h
  ·rename_i z n c f
   rcases hf:(f==37) with _|_<;>rw[hf] at h
   ·cases h
   ·obtain⟨l,hd,h⟩:=Option.bind_eq_some_iff.1 (show ((decG 11 ndG n c).bind _)=some r from h)
    have hf:f=37:=by simpa using hf
    subst hf
    have h1:(bif decide (l.length≤1000000) then (qzanS g l).bind fun r=>some (PV.bool r) else none)=some r:=h
    rcases hl:decide (l.length≤1000000) with _|_<;>rw[hl] at h1
    ·cases h1
    ·obtain⟨q,hq,h1⟩:=Option.bind_eq_some_iff.1 (show ((qzanS g l).bind fun r=>some (PV.bool r))=some r from h1)
     injection h1 with h1
     subst h1
     obtain⟨i,e1,e2⟩:=qzixS_an (i:=0) (by omega) hq
     refine⟨0,(qzcf_raw g z _ _).trans ?_⟩
     unfold qzixO
     rw[hd,Option.bind_some,hl,cond_true,e1,Option.bind_some,e2]
  ·cases h
def qzcfO {R:Type}(g:QuT)(n:Nat)(c:List PV)(K:Bool→Option R):Option R:=(decG 11 ndG n c).bind fun l=>bif decide (l.length≤1000000) then (qzanS g l).bind K else none
noncomputable def qzlQu (g:QuT):List (FuncId×PFn):=[(36,p_sgn),(22,qzp_cf g)]
theorem qu_raw (g:QuT)(k1:Int)(o1:List UInt8)(j1 a1 n1 c1:Int)(s1:List UInt8)(b1:Bool)(t1 u1:Int)(z1:Option Bool)(m1:Nat)(d1:List PV):prun (en (qzlQu g)) ⟨[],[]⟩ 0 false Tryz.f18 [.agg [.int .i64 k1,.str o1,.int .i64 j1,.int .i64 a1,.int .i64 n1,.int .i64 c1,.str s1,.bool b1,.int .i64 t1,.int .i64 u1,.sl z1 11 m1 d1]] =
  bif (bif k1==0 then true else k1==1) then some (.bool true) else bif qzsgB k1 o1 m1 then (qzcfO g m1 d1 fun b=>some (.bool (!b))) else some (.bool false):=by kernel_rfl
def quB (g:QuT)(x:NdC)(l:List NdC):Option Bool:=bif x.k==0||x.k==1 then some true else bif qzsgB x.k x.op l.length then (qzanS (qznotG g) l).map (!·) else some false
def quS:Nat→QuT
 |0,_=>none
 |d+1,x=>(decG 11 ndG x.n x.c).bind fun l=>bif decide (l.length≤1000000) then quB (quS d) x l else none
theorem ok_qu:∀ d,FOK NGc Wc 18 (p_qu (quS d))
 |0 => by
  refine fok wokc allOK_nil (h:=⟨[],[]⟩) Tryz.func18 rfl (by decide) (p_qu_nat _) ?_
  intro xs r h
  simp only[p_qu] at h
  split at h
  ·obtain⟨q,h1,h⟩:=Option.bind_eq_some_iff.1 h
   cases h1
  ·cases h
 |d+1 => by
  have ih:=ok_qu d
  refine fok wokc (allOK_cons ok_sgn (allOK_cons (qzok_cf (qzok_nq ih)) allOK_nil)) (h:=⟨[],[]⟩) Tryz.func18 rfl (by decide) (p_qu_nat _) ?_
  intro xs r h
  simp only[p_qu] at h
  split at h
  ·rename_i k1 o1 j1 a1 n1 c1 s1 b1 t1 u1 z1 m1 d1
   obtain⟨q,h1,h⟩:=Option.bind_eq_some_iff.1 h
   injection h with h
   subst h
   rw[quS] at h1
   obtain⟨l,hd,h2⟩:=Option.bind_eq_some_iff.1 h1
   refine⟨0,(qu_raw (qznotG (quS d)) k1 o1 j1 a1 n1 c1 s1 b1 t1 u1 z1 m1 d1).trans ?_⟩
   have hl:m1=l.length:=(decNd hd).1
   have hd':decG 11 ndG m1 d1=some l:=hd
   rcases h6:decide (l.length≤1000000) with _|_<;>rw[h6] at h2
   ·cases h2
   have h3:(bif k1==0||k1==1 then some true else bif qzsgB k1 o1 l.length then (qzanS (qznotG (quS d)) l).map (!·) else some false)=some q:=h2
   rw[hl] at hd' ⊢
   unfold qzcfO
   rw[hd',Option.bind_some,h6,cond_true]
   rcases e0:(k1==0) with _|_<;>rw[e0] at h3
   ·rcases e1:(k1==1) with _|_<;>rw[e1] at h3
    ·rw[show (false||false)=false from rfl,cond_false] at h3
     rcases hs:qzsgB k1 o1 l.length with _|_<;>rw[hs] at h3
     ·injection h3 with h3;subst h3;rfl
     ·obtain⟨b,hb,h3⟩:=Option.map_eq_some_iff.1 (show (qzanS (qznotG (quS d)) l).map (!·)=some q from h3)
      subst h3
      rw[hb];rfl
    ·injection h3 with h3;subst h3;rfl
   ·injection h3 with h3;subst h3;rfl
  ·cases h
def qzflB (s:List UInt8):Bool:=s==[61]||(s==[60]||(s==[60,61]||(s==[62]||s==[62,61])))
def rqL (g:QuT)(k:Int):List NdC→Option Bool
 |[]=>some true
 |y::ys=>bif decide (1<k) then (g y).bind fun b=>bif !b then some false else rqL g k ys else rqL g k ys
def rqF (k:Int)(op:List UInt8)(n:Nat):Bool:=bif k==0||k==1 then true else sgV k op n
where sgV (k:Int) (op:List UInt8) (n:Nat):Bool:=bif k==2 then op==[78,79,84]&&n==1 else bif k==3 then (qzflB op||op==[60,62]||op==[65,78,68]||op==[79,82])&&n==2 else bif k==4 then n==1 else false
def rqB (g:QuT)(x:NdC)(l:List NdC):Option Bool:=(rqL g x.k l).bind fun b=>bif !b then some false else some (rqF x.k x.op l.length)
def rqS:Nat→QuT
 |0,_=>none
 |d+1,x=>(decG 11 ndG x.n x.c).bind fun l=>bif decide (l.length≤1000000) then rqB (rqS d) x l else none
def Sn:Nat→NdC→Prop
 |0,_=>False
 |f+1,x=>∃ l,x.n=l.length∧x.c=ndC l∧l.length≤2000∧∀ y∈l,Sn f y
theorem an_some {g:QuT}{h:NdC→Bool}:∀ {l:List NdC},(∀ y∈l,g y=some (h y))→qzanS (qznotG g) l=some (!l.all h)
 |[],_=>rfl
 |y::ys,hl=>by
  have h1:=hl y (by simp)
  have h2:=an_some (g:=g) (h:=h) (l:=ys) (fun y hy=>hl y (by simp[hy]))
  rw[qzanS,show qznotG g y=some (!h y) by unfold qznotG;rw[h1];rfl,Option.bind_some,h2,List.all_cons]
  cases h y<;>rfl
theorem rqL_some {g:QuT}{h:NdC→Bool}{k:Int}:∀ {l:List NdC},(∀ y∈l,g y=some (h y))→rqL g k l=some (bif decide (1<k) then l.all h else true)
 |[],_=>by cases decide (1<k)<;>rfl
 |y::ys,hl=>by
  have h1:=hl y (by simp)
  have h2:=rqL_some (g:=g) (h:=h) (k:=k) (l:=ys) (fun y hy=>hl y (by simp[hy]))
  rw[rqL,h1,Option.bind_some,h2,List.all_cons]
  cases decide (1<k)<;>cases h y<;>rfl
theorem flB_cm (op:List UInt8):(op==[65,78,68]||op==[79,82]||cm6 op)=(qzflB op||op==[60,62]||op==[65,78,68]||op==[79,82]):=by
 unfold cm6 qzflB
 cases (op==[65,78,68])<;>cases (op==[79,82])<;>cases (op==[61])<;>cases (op==[60,62])<;>cases (op==[60])<;>cases (op==[60,61])<;>cases (op==[62])<;>cases (op==[62,61])<;>rfl
theorem sgV_eq (k:Int)(op:List UInt8)(n:Nat):rqF.sgV k op n=qzsgB k op n:=by
 unfold rqF.sgV qzsgB
 rw[flB_cm]
theorem qu_both:∀ (f:Nat) (x:NdC),Sn f x→∃ b,quS f x=some b∧rqS f x=some b
 |0,x,h=>h.elim
 |f+1,x,⟨l,hn,hc,hl,hk⟩=>by
  obtain⟨h,hq,hr⟩:∃ h:NdC→Bool,(∀ y∈l,quS f y=some (h y))∧∀ y∈l,rqS f y=some (h y):=by
   refine⟨fun y=>(quS f y).getD false,fun y hy=>?_,fun y hy=>?_⟩
   ·obtain⟨b,h1,h2⟩:=qu_both f y (hk y hy)
    show quS f y=some ((quS f y).getD false)
    rw[h1];rfl
   ·obtain⟨b,h1,h2⟩:=qu_both f y (hk y hy)
    show rqS f y=some ((quS f y).getD false)
    rw[h2,h1];rfl
  rw[quS,rqS,hn,hc,decNd_of,Option.bind_some,Option.bind_some,cond_t (decide_eq_true (by omega)),cond_t (decide_eq_true (by omega))]
  unfold quB rqB
  rw[an_some hq,rqL_some hr,Option.bind_some]
  unfold rqF
  rw[sgV_eq]
  by_cases h0:x.k=0
  ·rw[h0];exact⟨true,rfl,rfl⟩
  by_cases h1:x.k=1
  ·rw[h1];exact⟨true,rfl,rfl⟩
  have b0:(x.k==0)=false:=by simpa using h0
  have b1:(x.k==1)=false:=by simpa using h1
  rw[b0,b1]
  by_cases h2:1<x.k
  ·rw[decide_eq_true h2]
   cases qzsgB x.k x.op l.length<;>cases l.all h<;>exact⟨_,rfl,rfl⟩
  ·have e:qzsgB x.k x.op l.length=false:=by
    have c2:(x.k==2)=false:=by simp;omega
    have c3:(x.k==3)=false:=by simp;omega
    have c4:(x.k==4)=false:=by simp;omega
    unfold qzsgB
    rw[c2,c3,c4];rfl
   rw[decide_eq_false h2,e]
   exact⟨false,rfl,rfl⟩
theorem an_all {g:QuT}:∀ {l:List NdC},qzanS (qznotG g) l=some false→∀ y∈l,g y=some true
 |[],_,y,hy=>by cases hy
 |a::l,h,y,hy=>by
  rw[qzanS] at h
  obtain⟨b,hb,h⟩:=Option.bind_eq_some_iff.1 h
  unfold qznotG at hb
  obtain⟨c,hc,rfl⟩:=Option.map_eq_some_iff.1 hb
  cases c
  ·cases h
  ·rcases List.mem_cons.1 hy with rfl|hy
   ·exact hc
   ·exact an_all h y hy
theorem kdI_lit:kdI 0=0∧kdI 1=0∧kdI 2=1∧kdI 3=2∧kdI 4=1:=by decide
theorem ho_some {op:List UInt8}(h:cm6 op=true)(c:Int):∃ b,hoS op c=some b:=by
 unfold cm6 at h
 unfold hoS
 revert h
 cases (op==[61])<;>cases (op==[60,62])<;>cases (op==[60])<;>cases (op==[60,61])<;>cases (op==[62])<;>cases (op==[62,61])<;>intro h<;>first|exact⟨_,rfl⟩|(exfalso;revert h;decide)
theorem lg_noerr {g:Ev1}{op:List UInt8}{p q:NdC}{r:Val×Int}(hp:∀ a,g p=some a→a.2=0)(hq:∀ a,g q=some a→a.2=0)(h:lgS g op [p,q]=some r):r.2=0:=by
 have h:((g p).bind fun a=>bif !(a.2==0) then some (vnull,a.2) else bif (op==[65,78,68]&&trS a.1==0)||(op==[79,82]&&trS a.1==1) then some (tvS (trS a.1),0) else
   (g q).bind fun b=>bif !(b.2==0) then some (vnull,b.2) else bif op==[65,78,68] then some (tvS (anS (trS a.1) (trS b.1)),0) else some (tvS (orS (trS a.1) (trS b.1)),0))=some r:=h
 obtain⟨a,ha,h⟩:=Option.bind_eq_some_iff.1 h
 rw[hp a ha,show ((0:Int)==0)=true from rfl,nt_t] at h
 cases hs:((op==[65,78,68]&&trS a.1==0)||(op==[79,82]&&trS a.1==1))<;>rw[hs] at h
 ·obtain⟨b,hb,h⟩:=Option.bind_eq_some_iff.1 (show ((g q).bind fun b=>bif !(b.2==0) then some (vnull,b.2) else bif op==[65,78,68] then some (tvS (anS (trS a.1) (trS b.1)),0) else some (tvS (orS (trS a.1) (trS b.1)),0))=some r from h)
  rw[hq b hb,show ((0:Int)==0)=true from rfl,nt_t] at h
  cases ho:(op==[65,78,68])<;>rw[ho] at h<;>injection h with h<;>subst h<;>rfl
 ·injection h with h;subst h;rfl
theorem len1 {l:List NdC}(h:l.length=1):∃ y,l=[y]:=by
 match l,h with
 |[y],_=>exact⟨y,rfl⟩
theorem len2 {l:List NdC}(h:l.length=2):∃ p q,l=[p,q]:=by
 match l,h with
 |[p,q],_=>exact⟨p,q,rfl⟩
theorem quiet1 {f:Nat}{row:List Val}{x:NdC}{l:List NdC}{r':Val×Int}(ih0:∀ y∈l,∀ a,quS f y=some true→evS f row y=some a→a.2=0)(hq:quB (quS f) x l=some true)(he:evB (evS f row) x l row=some r'):r'.2=0:=by
  obtain⟨kk,op,slot,v,nt,t,u,nl,n,c⟩:=x
  unfold quB at hq
  dsimp only at hq
  by_cases h0:kk=0
  ·subst h0
   have he:(bif decide ((l.length:Int)<0) then some (vnull,(2:Int)) else bif decide (v.s.length≤1000000) then some (rtV v,0) else none)=some r':=he
   rw[decide_eq_false (by omega),cond_false] at he
   cases hs:decide (v.s.length≤1000000)<;>rw[hs] at he
   ·cases he
   ·injection he with he;subst he;rfl
  by_cases h1:kk=1
  ·subst h1
   have he:(bif decide ((l.length:Int)<0) then some (vnull,(2:Int)) else bif colB slot row then some (colS slot row,0) else none)=some r':=he
   rw[decide_eq_false (by omega),cond_false] at he
   cases hs:colB slot row<;>rw[hs] at he
   ·cases he
   ·injection he with he;subst he;rfl
  have b0:(kk==0)=false:=by simpa using h0
  have b1:(kk==1)=false:=by simpa using h1
  rw[b0,b1,Bool.or_self,cond_false] at hq
  rcases hs:qzsgB kk op l.length with _|_<;>rw[hs] at hq
  ·cases hq
  obtain⟨b,hb,hbn⟩:=Option.map_eq_some_iff.1 (show (qzanS (qznotG (quS f)) l).map (!·)=some true from hq)
  have hb':b=false:=by simpa using hbn
  subst hb'
  have hk:=an_all hb
  have ih:∀ y∈l,∀ a,evS f row y=some a→a.2=0:=fun y hy a ha=>ih0 y hy a (hk y hy) ha
  by_cases h2:kk=2
  ·subst h2
   have hs:(op==[78,79,84]&&l.length==1)=true:=hs
   simp only[Bool.and_eq_true,beq_iff_eq] at hs
   obtain⟨rfl,hl⟩:=hs
   obtain⟨y,rfl⟩:=len1 hl
   ·skip
    have he:((evS f row y).bind fun a=>bif !(a.2==0) then some (vnull,a.2) else some (unS [78,79,84] a.1))=some r':=he
    obtain⟨a,ha,he⟩:=Option.bind_eq_some_iff.1 he
    rw[ih y (by simp) a ha,show ((0:Int)==0)=true from rfl,nt_t] at he
    injection he with he;subst he;rfl
  by_cases h4:kk=4
  ·subst h4
   have hs:(l.length==1)=true:=hs
   simp only[beq_iff_eq] at hs
   obtain⟨y,rfl⟩:=len1 hs
   ·skip
    have he:((evS f row y).bind fun a=>bif !(a.2==0) then some (vnull,a.2) else some (boV (!((a.1.kind==0)==nt)),0))=some r':=he
    obtain⟨a,ha,he⟩:=Option.bind_eq_some_iff.1 he
    rw[ih y (by simp) a ha,show ((0:Int)==0)=true from rfl,nt_t] at he
    injection he with he;subst he;rfl
  by_cases h3:kk=3
  ·subst h3
   have hs:((op==[65,78,68]||op==[79,82]||cm6 op)&&l.length==2)=true:=hs
   simp only[Bool.and_eq_true,beq_iff_eq] at hs
   obtain⟨hop,hl⟩:=hs
   obtain⟨p,q,rfl⟩:=len2 hl
   ·skip
    have hp:=ih p (by simp)
    have hq:=ih q (by simp)
    have he:biS (evS f row) op [p,q]=some r':=he
    unfold biS at he
    rcases ho:(op==[65,78,68]||op==[79,82]) with _|_<;>rw[ho] at he hop
    ·have hop:cm6 op=true:=hop
     have he:((alS (evS f row) [p,q]).bind fun r=>bif !(r.2==0) then some (vnull,r.2) else r.1[0]?.bind fun a=>r.1[1]?.bind fun b=>bif (cpS op a b).2 then some ((cpS op a b).1,0) else some (arS op a b))=some r':=he
     rw[alS] at he
     obtain⟨w,hw,he⟩:=Option.bind_eq_some_iff.1 he
     obtain⟨a,ha,hw⟩:=Option.bind_eq_some_iff.1 hw
     rw[hp a ha,show ((0:Int)==0)=true from rfl,nt_t,alS] at hw
     obtain⟨w2,hw2,hw⟩:=Option.bind_eq_some_iff.1 hw
     obtain⟨b,hb,hw2⟩:=Option.bind_eq_some_iff.1 hw2
     rw[hq b hb,show ((0:Int)==0)=true from rfl,nt_t,alS,Option.bind_some] at hw2
     injection hw2 with hw2
     subst hw2
     injection hw with hw
     subst hw
     have he:(bif (cpS op a.1 b.1).2 then some ((cpS op a.1 b.1).1,(0:Int)) else some (arS op a.1 b.1))=some r':=he
     obtain⟨hb2,hh⟩:=ho_some hop (cmpS a.1 b.1).1
     have hc:(cpS op a.1 b.1).2=true:=by unfold cpS;rw[hh]
     rw[hc] at he
     injection he with he;subst he;rfl
    ·exact lg_noerr hp hq he
  ·have e:qzsgB kk op l.length=false:=by
    unfold qzsgB
    rw[show (kk==2)=false by simpa using h2,show (kk==3)=false by simpa using h3,show (kk==4)=false by simpa using h4];rfl
   rw[e] at hs
   cases hs
theorem quiet_ok:∀ (f:Nat) (row:List Val) (x:NdC) (r:Val×Int),quS f x=some true→evS f row x=some r→r.2=0
 |0,row,x,r,h,_=>by cases h
 |f+1,row,x,r,hq,he=>by
  rw[quS] at hq
  rw[evS] at he
  obtain⟨l,hd,hq1⟩:=Option.bind_eq_some_iff.1 hq
  obtain⟨l',hd',he1⟩:=Option.bind_eq_some_iff.1 he
  rw[hd] at hd'
  injection hd' with hd'
  rw[← hd'] at he1
  obtain⟨r2,he2,h9⟩:=Option.bind_eq_some_iff.1 he1
  have hrr:r2=r:=by
   cases hg:gd r2.1<;>rw[hg] at h9
   ·cases h9
   ·injection h9
  rw[hrr] at he2
  rcases h6:decide (l.length≤1000000) with _|_<;>rw[h6] at hq1
  ·cases hq1
  have hq2:quB (quS f) x l=some true:=hq1
  clear hq he hd hq1 hd' he1 h9 hrr
  exact quiet1 (fun y hy a h1 h2=>quiet_ok f row y a h1 h2) hq2 he2
end Go.Proofs.YtegmldndflfohaaGreatDoor
end
section
set_option maxRecDepth 100000
namespace Go.Proofs.YtegmldndflfohaaGreatDoor
open Go.ChangeShapes Go.WideShapes Go.ChangeAt Go.RowKit Go.Deep
def memU (w:World)(U:Nat→Nat):Mem:=⟨w,U,⟨0,fun _ _=>none⟩⟩
theorem law_runU {NG:Nat}{W:World→Prop}(hW:WOK NG W){l:List (FuncId×PFn)}(hl:AllOK NG W l){f:FuncId}{fn:Func}(hf:Tryz.prog.funcs[f]? = some fn){h:Hints}{fuel:Nat}{w:World}{U:Nat→Nat}{xs:List PV}{vs:List Value}
  (hw:W w) (hng:NG≤w.heap.size) (hr:RelT (memU w U) xs vs) (hrun:prun (en l) h fuel false fn xs=some (.bool true)) :
  Calls Tryz.prog f vs.toArray w fun e w'=>e=.returned (.bool true)∧Below w.heap.size w w':=by
 refine (run_ok (env_ok hW hl) rfl hf (M:=memU w U) hw hng (fun g cs hg=>by cases hg) hr hrun).mono ?_
 rintro e w' ⟨v,rfl,U',hm,hv,_⟩
 simp only[RelD] at hv
 subst hv
 exact⟨rfl,hm.os,hm.tape,hm.output,hm.size,fun b hb=>(hm.block b hb (by simp[memU])).1⟩
def RelU (w:World)(ps:List PV)(cs:List Value):Prop:=∃ B:Nat,∀ U:Nat→Nat,(∀ b,B≤U b)→RelL (memU w U) ps cs
theorem RelU.of {w:World}{ps:List PV}{cs:List Value}(h:∀ M,RelL M ps cs):RelU w ps cs:=⟨0,fun U _=>h _⟩
theorem RelU.append {w:World}{ps qs:List PV}{cs ds:List Value}(h:RelU w ps cs)(k:RelU w qs ds):RelU w (ps++qs) (cs++ds):=by
 obtain⟨A,h⟩:=h
 obtain⟨B,k⟩:=k
 exact⟨max A B,fun U hU=>(h U fun b=>Nat.le_trans (Nat.le_max_left _ _) (hU b)).append (k U fun b=>Nat.le_trans (Nat.le_max_right _ _) (hU b))⟩
theorem rows_rel {w:World}{base size:Nat}{a:Addr}{α:Type}{f:α→List PV}{Pa:α→Prop}:∀ (k i:Nat),(∀ j,i≤j→j<i+k→∃ cs',w.cells? base (a.add (j * size)) size=some cs'∧∃ x,Pa x∧RelU w (f x) cs') →
  ∃ (l:List α) (vs:List Value),l.length=k∧(∀ x∈l,Pa x)∧vs.length=k * size∧RelU w (l.flatMap f) vs∧∀ j u,vs[j]? = some u→w.cell? (a.add (i * size+j))=some u
 |0,i,_=>⟨[],[],rfl,by simp,by simp,.of fun _=>rfl,by simp⟩
 |k+1,i,h=>by
  obtain⟨cs,h1,x,px,hx⟩:=h i (Nat.le_refl _) (by omega)
  obtain⟨l,vs,e1,e2,e3,e4,e5⟩:=rows_rel k (i+1) (fun j h1 h2=>h j (by omega) (by omega))
  obtain⟨_,hl,hg⟩:=World.cells?_some h1
  refine⟨x::l,cs++vs,by simp[e1],?_,by rw[List.length_append,hl,e3,Nat.add_mul];omega,?_,fun j u hu=>?_⟩
  ·intro y hy
   rcases List.mem_cons.1 hy with rfl|hy
   ·exact px
   ·exact e2 y hy
  ·rw[List.flatMap_cons]
   exact hx.append e4
  ·by_cases hj:j<size
   ·rw[List.getElem?_append_left (by omega)] at hu
    have:=hg j hj
    rw[hu,add_add] at this
    exact this
   ·rw[List.getElem?_append_right (by omega),hl] at hu
    have:=e5 _ u hu
    rw[Nat.add_mul,show i * size+1 * size+(j-size)=i * size+j by omega] at this
    exact this
theorem open_slR {H:Type}{enc:TypeId×Value→H}{P:Program}{w:World}{base:Nat}{sp:Nat→Bool}{held:Bool}{t e:TypeId}{fuel:Nat}{cs:List Value}{x:DataW H×List MemPlace}{α:Type}{f:α→List PV}{Pa:α→Prop}{size:Nat}
  (hs0:0<size) (ht:P.underlying t=some (.slice e)) (hsz:P.cellsOf e=size) (hf:∀ x,(f x).length=size)
  (he:∀ n cs' y,n<fuel→DataW.trod enc P w base sp held n e cs'=some y→∃ x,Pa x∧RelU w (f x) cs') (h:DataW.trod enc P w base sp held fuel t cs=some x) :
  ∃ A c,∃ l:List α,cs=[.slice A l.length c]∧(∀ x∈l,Pa x)∧∃ B:Nat,∀ U:Nat→Nat,(∀ b,B≤U b)→RelD (memU w U) (.sl none size l.length (l.flatMap f)) (.slice A l.length c):=by
 have flen:∀ l:List α,(l.flatMap f).length=l.length * size:=by
  intro l
  induction l with
  |nil=>simp
  |cons y l ih=>rw[List.flatMap_cons,List.length_append,hf,ih,List.length_cons,Nat.add_mul];omega
 rcases DataW.trod_slice ht h with ⟨rfl,_⟩|⟨a,len,cap,elems,rest,n,rfl,rfl,rfl,hb,hlc,hcm,hel0,hel,_⟩
 ·refine⟨none,0,[],rfl,by simp,0,fun U _=>?_⟩
  simp only[RelD]
  exact⟨none,0,[],rfl,Nat.le_refl _,Nat.zero_le _,fun b hb=>(by cases hb),fun _=>rfl,by simp,rfl,Or.inl rfl⟩
 ·rw[hsz] at hel
  obtain⟨l,vs,e1,e2,e3,⟨B,e4⟩,e5⟩:=rows_rel (w:=w) (base:=base) (size:=size) (a:=a) (f:=f) (Pa:=Pa) len 0 (fun j _ hj=>by
   have:=hel j (by omega)
   rw[List.getElem?_eq_getElem (by omega)] at this
   obtain⟨cs',h1,h2⟩:=Option.bind_eq_some_iff.1 this
   obtain⟨x,px,hx⟩:=he n cs' _ (by omega) h2
   exact⟨cs',h1,x,px,hx⟩)
  subst e1
  obtain⟨b,off,spot⟩:=a
  refine⟨_,cap,l,rfl,e2,max B (off+l.length * size),fun U hU=>?_⟩
  simp only[RelD]
  refine⟨_,cap,vs,rfl,hlc,hcm,fun b hb=>(by cases hb),fun h=>(by cases h),flen l,e4 U fun b=>Nat.le_trans (Nat.le_max_left _ _) (hU b),?_⟩
  by_cases h0:vs=[]
  ·exact Or.inl h0
  ·have hp:0<vs.length:=List.length_pos_iff.2 h0
   have h00:=e5 0 vs[0] (List.getElem?_eq_getElem hp)
   have hspot:spot=none:=by
    have:=World.cell?_spot (v:=vs[0]) h00
    simpa [Addr.add] using this
   subst hspot
   refine Or.inr ⟨b,off,rfl,fun j u hu=>?_⟩
   have hj:=(List.getElem?_eq_some_iff.1 hu).1
   have:=e5 j u hu
   rw[Nat.zero_mul,Nat.zero_add,add_plain] at this
   refine⟨this,?_⟩
   have:=hU b
   have:=Nat.le_max_right B (off+l.length * size)
   show off+j<U b
   omega
end Go.Proofs.YtegmldndflfohaaGreatDoor
end
section
set_option maxRecDepth 100000
namespace Go.Proofs.YtegmldndflfohaaGreatDoor
open Go.RowKit Go.Lib
theorem zeroCells_size (cs:Array Value)(n:Nat):(Builtin.zeroCells cs n).size=n * cs.size:=by
 simp[Builtin.zeroCells]
set_option maxHeartbeats 4000000 in
theorem grow_node (n:Nat) (h0:0<n) (hn:n≤1000000) (w:World) :
  Calls Tryz.prog 45 #[.slice none 0 0,.int .i64 n] w fun e w'=>∃ G arr,n≤G∧G≤maxLen∧arr.size=G * 11∧e=.returned (.slice (some ⟨w.heap.size,0,none⟩) 0 G)∧w'=w.drew.alloc (.cells arr 73):=by
 have h1:¬ ((n:Int)<0):=by omega
 have h2:wrap64 ((0:Int)-(0:Int))=0:=by unfold wrap64;omega
 have h3:wrap64 ((n:Int)-0)=(n:Int):=by unfold wrap64;omega
 have h4:(n:Int)>0:=by omega
 obtain⟨i0,hi0,hs0,hb0,z,hz0,hzs⟩:∃ i0,Tryz.prog.info? 73=some i0∧i0.size=11∧i0.bytes≤200∧∃ z,i0.zero=some z∧z.cells.size=11:=⟨Tryz.t73,by kernel_rfl,by kernel_rfl,by decide,_,rfl,by decide⟩
 have hbig:n * i0.bytes≤140737488355328:=Nat.le_trans (Nat.mul_le_mul hn hb0) (by decide)
 have hrz:∀ ty,(Builtin.append_ #[26,3] ty #[.slice none 0 0,.int .i64 (n:Int)]).run Tryz.prog w =
   .ok (.slice (some ⟨w.heap.size,0,none⟩) n (grownCap w n 0 73)) (w.drew.alloc (.cells (#[]++Builtin.zeroCells z.cells n++Builtin.zeroCells z.cells (grownCap w n 0 73-n)) 73)):=fun ty=>by
  have h:=Lib.run_append_grow_zeros w 26 3 ty 73 i0 z .i64 .i64 Tryz.underlying26 Tryz.underlying3 hi0 hz0 none 0 0 [] (run_firstCells_none w.drew i0.size 0 0 0) n h0 (by omega) (by omega) (by omega) (by omega)
   (by rw[Nat.zero_add];exact growslice_fits (by omega) hbig)
  rw[Nat.zero_add] at h
  exact h
 have hGn:n≤grownCap w n 0 73:=grownCap_ge w _ _ _
 have hGm:grownCap w n 0 73≤maxLen:=grownCap_le_maxLen w n 0 73 (by unfold maxLen;omega)
 obtain⟨G,hG⟩:∃ G,G=grownCap w n 0 73:=⟨_,rfl⟩
 rw[← hG] at hrz hGn hGm
 have hG63:G≤9223372036854775807:=by unfold maxLen at hGm;omega
 clear hG
 have key:Calls Tryz.prog 45 #[.slice none 0 0,.int .i64 n] w fun e w'=>e=.returned (.slice (some ⟨w.heap.size,0,none⟩) 0 G)∧w'=w.drew.alloc (.cells (#[]++Builtin.zeroCells z.cells n++Builtin.zeroCells z.cells (G-n)) 73):=by
  go_enter Tryz.func45,Tryz.ntmps45
  go_wp2_with (at_builtin;refine Lib.wpList_append_run _ rfl _ _ _ _ rfl _ _ rfl rfl _ _ (hrz _) ?_)
  all_goals (go_ret;exact⟨rfl,rfl⟩)
 exact key.mono fun e w' ⟨h1,h2⟩=>⟨G,_,hGn,hGm,by
  simp only[Array.size_append,zeroCells_size,hzs]
  simp only[List.size_toArray,List.length_nil]
  rw[Nat.zero_add,← Nat.add_mul]
  congr 1;omega,h1,h2⟩
theorem cond_nat' {R:Type}{b:Bool}{x:PV}{k:PV→Option R}:(bif b then k x else none)=(bif b then some x else none).bind k:=by cases b<;>rfl
def p_grow:PFn:=⟨fun xs k=>match xs with|[.sl (some true) 11 0 [],.int .i64 n]=>bif decide (0<n)&&decide (n≤1000000) then k (.sl (some false) 11 0 []) else none|_=>none,true⟩
theorem ok_grow {NG:Nat}{W:World→Prop}:FOK NG W 45 p_grow where
 nat:=by
  intro R xs k
  simp only[p_grow]
  split
  ·exact Go.Proofs.YtegmldndflfohaaGreatDoor.cond_nat'
  ·rfl
 call := by
  intro M xs vs r hW hng hG hr h
  simp only[p_grow] at h
  split at h
  ·rename_i n
   rcases hb:(decide (0<n)&&decide (n≤1000000)) with _|_<;>rw[hb] at h
   ·cases h
   simp only[Bool.and_eq_true,decide_eq_true_eq] at hb
   injection h with h
   subst h
   simp only[RelT,RelD] at hr
   obtain⟨_,_,rfl,⟨A,c,cs,rfl,h1,h2,h3,h4,h5,h6,h7⟩,_,_,rfl,rfl,rfl⟩:=hr
   have hA:=h3 true rfl
   obtain rfl:A=none:=by cases A<;>simp_all
   obtain rfl:=h4 rfl
   obtain⟨m,rfl⟩:∃ m:Nat,n=(m:Int):=⟨n.toNat,by omega⟩
   refine .inr ⟨?_,(grow_node m (by omega) (by omega) M.w).mono ?_⟩
   ·show (callFunc _ _).run Tryz.prog M.w=_
    simp[callFunc,Tryz.func45]
    rw[if_neg (by decide),if_neg (by decide)]
   ·rintro e w' ⟨G,arr,g1,g2,g3,rfl,rfl⟩
    have hb1:Below M.w.heap.size M.w M.w.drew:=(Below.refl _ _).drew
    have hm:Move M (M.lay (M.w.drew.alloc (.cells arr 73)) M.w.heap.size 0) none:=Move.lay (below_alloc hb1 _) (Nat.le_refl _) 0
    refine⟨_,rfl,_,hm,?_,fun _=>⟨_,_,_,_,rfl,.inr ⟨M.w.heap.size,Nat.le_refl _,⟨0,G,arr,73,rfl,heap_alloc_new _ _,Nat.zero_le _,g2,g3,?_⟩⟩⟩⟩
    ·simp only[RelD]
     exact⟨_,G,[],rfl,Nat.zero_le _,g2,(fun b hb=>(by cases hb;rfl)),(fun h=>(by cases h)),rfl,rfl,Or.inl rfl⟩
    ·simp[Mem.lay]
  ·cases h
end Go.Proofs.YtegmldndflfohaaGreatDoor
end
section
set_option maxRecDepth 100000
namespace Go.Proofs.YtegmldndflfohaaGreatDoor
open Go.RowKit
abbrev PaT:=Nat→List PV→Nat→List PV→Option (Bool×Int)
def p_pa (g:PaT):PFn:=⟨fun xs k=>match xs with|[.sl _ 11 n c,.sl _ 4 rl rc]=>(g n c rl rc).bind fun r=>k (.tuple [.bool r.1,.int .i64 r.2])|_=>none,false⟩
theorem p_pa_nat (g:PaT):(p_pa g).nat:=by
 intro R xs k
 simp only[p_pa]
 split
 ·rename_i z n c y rl rc
  cases g n c rl rc<;>rfl
 ·rfl
def paS (g:Ev1):List NdC→Option (Bool×Int)
 |[]=>some (true,0)
 |y::ys=>(g y).bind fun a=>bif !(a.2==0) then some (false,a.2) else bif !(trS a.1==1) then some (false,0) else paS g ys
def paG (g:EvT):PaT:=fun n c rl rc=>(decG 11 ndG n c).bind fun l=>bif decide (l.length≤1000000) then paS (fun y=>g y rl rc) l else none
def resPB (r:Bool×Int):PV:=.tuple [.bool r.1,.int .i64 r.2]
def hPa:Hints:=⟨[],[(0,⟨[(1,false),(10,false),(11,false),(12,false)],[]⟩)]⟩
def frPa (y1:Option Bool)(rl:Nat)(rc:List PV)(z:Option Bool)(m:Nat)(d:List PV)(L i:Int):St :=
 frame 31 [(1,(.sl y1 4 rl rc,0)),(10,(.sl z 11 m d,0)),(11,(.int .i64 L,0)),(12,(.int .i64 i,0))] []
noncomputable def lPa (g:EvT):List (FuncId×PFn):=[(31,p_ev g),(32,p_tr)]
noncomputable def paLoop (g:EvT)(fu n:Nat)(st:St):Option PV:=loopF (en (lPa g)) hPa fu false Tryz.f14 [1,0,1,0] 0 n st
theorem pa_raw (g:EvT)(fu:Nat)(z:Option Bool)(m:Nat)(d:List PV)(y1:Option Bool)(rl:Nat)(rc:List PV):prun (en (lPa g)) hPa fu false Tryz.f14 [.sl z 11 m d,.sl y1 4 rl rc]=paLoop g fu fu (frPa y1 rl rc z m d (m:Int) 0):=prunN_eq.trans (by kernel_rfl)
theorem pa_step (g:EvT)(fu:Nat)(y1:Option Bool)(rl:Nat)(rc:List PV)(z:Option Bool)(m:Nat)(d:List PV)(L i:Int)(K:St→Option PV) :
  stepF (en (lPa g)) hPa fu false Tryz.f14 [1,0,1,0] (frPa y1 rl rc z m d L i) (fun st=>pnorm (hPa.loop.lookup 0) st K) =
  bif decide (i<L) then at11 m d i fun y=>(g y rl rc).bind fun a=>bif !!(a.2==0) then (trO a.1 fun t=>bif !(t==1) then some (resPB (false,a.2)) else K (frPa y1 rl rc z m d L (IntKind.i64.wrap (i+1)))) else some (resPB (false,a.2))
  else some (resPB (true,0)):=by kernel_rfl
theorem pa_loop (g:EvT)(hG:GdE g)(fu:Nat)(y1:Option Bool)(rl:Nat)(rc:List PV)(z:Option Bool)(l:List NdC)(hl:l.length≤1000000):∀ (k i n:Nat) (r:Bool×Int),i+k=l.length→k<n→paS (fun y=>g y rl rc) (l.drop i)=some r →
  paLoop g fu n (frPa y1 rl rc z l.length (ndC l) (l.length:Int) (i:Int))=some (resPB r)
 |k,i,0,_,h,_,_=>by omega
 |0,i,n+1,r,hi,hn,hr=>by
  unfold paLoop
  rw[loopF_succ,pa_step,cond_f (decide_eq_false (by omega))]
  rw[List.drop_of_length_le (by omega),paS] at hr
  injection hr with hr
  subst hr
  rfl
 |k+1,i,n+1,r,hi,hn,hr=>by
  unfold paLoop
  have hc:=List.getElem?_eq_getElem (l:=l) (i:=i) (by omega)
  have ih:=pa_loop g hG fu y1 rl rc z l hl k (i+1) n r
  unfold paLoop at ih
  rw[loopF_succ,pa_step,cond_t (decide_eq_true (by omega)),at11_eq hc,wrapI_of (by omega) (by omega)]
  rw[List.drop_eq_getElem_cons (show i<l.length by omega),paS] at hr
  obtain⟨a,h1,hr⟩:=Option.bind_eq_some_iff.1 hr
  have oa:=hG _ _ _ _ h1
  rw[h1,Option.bind_some]
  rcases he:(a.2==0) with _|_<;>rw[he] at hr
  ·rw[nt_f] at hr
   injection hr with hr
   subst hr
   rfl
  ·rw[nt_t] at hr
   rw[Bool.not_not,cond_true,trO_eq oa]
   have e0:a.2=0:=by simpa using he
   rcases ht:(trS a.1==1) with _|_<;>rw[ht] at hr
   ·rw[nt_f] at hr ⊢
    injection hr with hr
    subst hr
    rw[e0]
   ·rw[nt_t] at hr ⊢
    exact ih (by omega) (by omega) hr
theorem ok_pa {g:EvT}(hG:GdE g)(hg:FOK NGc Wc 31 (p_ev g)):FOK NGc Wc 14 (p_pa (paG g)):=by
 refine fok wokc (allOK_cons hg (allOK_cons ok_tr allOK_nil)) (h:=hPa) Tryz.func14 rfl (by decide) (p_pa_nat _) ?_
 intro xs r h
 simp only[p_pa] at h
 split at h
 ·rename_i z n c y rl rc
  obtain⟨q,h1,h⟩:=Option.bind_eq_some_iff.1 h
  injection h with h
  subst h
  unfold paG at h1
  obtain⟨l,hd,h2⟩:=Option.bind_eq_some_iff.1 h1
  clear h1
  obtain⟨rfl,rfl⟩:=decNd hd
  have h1:(bif decide (l.length≤1000000) then paS (fun y=>g y rl rc) l else none)=some q:=h2
  rcases hl:decide (l.length≤1000000) with _|_<;>rw[hl] at h1
  ·cases h1
  ·simp only[decide_eq_true_eq] at hl
   exact⟨l.length+1,(pa_raw g _ z _ _ y rl rc).trans (pa_loop g hG _ y rl rc z l hl l.length 0 _ q (by omega) (by omega) h1)⟩
 ·cases h
section
variable (gz:SzT) (pa:PaT) (al:AlT)
end
noncomputable def v_qslices_Concat___api_Node_api_Node_:PFn:=evalFn [(45,p_grow)] ⟨[],[(2,⟨[(6,true),(25,false),(26,false),(27,false)],[]⟩),(0,⟨[(0,false),(3,false),(9,false),(10,false),(11,false)],[]⟩)]⟩ 40 Tryz.f23
theorem ok_qslices_Concat___api_Node_api_Node_:FOK NGc Wc 23 v_qslices_Concat___api_Node_api_Node_:=evalFn_ok wokc (allOK_cons ok_grow allOK_nil) Tryz.func23 rfl (by decide)
noncomputable def v_qbind_Row:PFn:=evalFn [] ⟨[],[(2,⟨[(2,false),(5,true),(10,false),(11,false),(12,false),(30,false),(31,false),(32,false)],[2]⟩),(0,⟨[(2,false),(5,true),(10,false),(11,false),(12,false)],[2]⟩)]⟩ 40 Tryz.f16
theorem ok_qbind_Row:FOK NGc Wc 16 v_qbind_Row:=evalFn_ok wokc allOK_nil Tryz.func16 rfl (by decide)
noncomputable def v_qplan_place:PFn:=evalFn [(16,v_qbind_Row)] ⟨[],[]⟩ 40 Tryz.f25
theorem ok_qplan_place:FOK NGc Wc 25 v_qplan_place:=evalFn_ok wokc (allOK_cons ok_qbind_Row allOK_nil) Tryz.func25 rfl (by decide)
noncomputable def v_qplan_parts:PFn:=evalFn [] ⟨[],[(0,⟨[(3,true),(6,false),(7,false),(8,false)],[]⟩)]⟩ 40 Tryz.f33
theorem ok_qplan_parts:FOK NGc Wc 33 v_qplan_parts:=evalFn_ok wokc allOK_nil Tryz.func33 rfl (by decide)
noncomputable def v_qplan_comparison:PFn:=evalFn [(81,v_con6)] ⟨[],[]⟩ 40 Tryz.f60
theorem ok_qplan_comparison:FOK NGc Wc 60 v_qplan_comparison:=evalFn_ok wokc (allOK_cons ok_con6 allOK_nil) Tryz.func60 rfl (by decide)
noncomputable def v_qplan_turned:PFn:=evalFn [] ⟨[],[]⟩ 40 Tryz.f61
theorem ok_qplan_turned:FOK NGc Wc 61 v_qplan_turned:=evalFn_ok wokc allOK_nil Tryz.func61 rfl (by decide)
noncomputable def v_qplan_hint:PFn:=evalFn [(60,v_qplan_comparison),(61,v_qplan_turned)] ⟨[],[]⟩ 40 Tryz.f34
theorem ok_qplan_hint:FOK NGc Wc 34 v_qplan_hint:=evalFn_ok wokc (allOK_cons ok_qplan_comparison (allOK_cons ok_qplan_turned allOK_nil)) Tryz.func34 rfl (by decide)
noncomputable def v_qplan_Hints:PFn:=evalFn [(35,p_of),(23,v_qslices_Concat___api_Node_api_Node_),(16,v_qbind_Row),(25,v_qplan_place),(33,v_qplan_parts),(34,v_qplan_hint)] ⟨[],[(0,⟨[(7,false),(8,false),(9,true),(42,false),(43,false),(44,false)],[]⟩)]⟩ 40 Tryz.f17
theorem ok_qplan_Hints:FOK NGc Wc 17 v_qplan_Hints:=evalFn_ok wokc (allOK_cons ok_of (allOK_cons ok_qslices_Concat___api_Node_api_Node_ (allOK_cons ok_qbind_Row (allOK_cons ok_qplan_place (allOK_cons ok_qplan_parts (allOK_cons ok_qplan_hint allOK_nil)))))) Tryz.func17 rfl (by decide)
noncomputable def v_qplan_Accesses_1:PFn:=evalFn [(18,(p_qu (quS 3)))] ⟨[],[]⟩ 40 Tryz.f24
theorem ok_qplan_Accesses_1:FOK NGc Wc 24 v_qplan_Accesses_1:=evalFn_ok wokc (allOK_cons (ok_qu 3) allOK_nil) Tryz.func24 rfl (by decide)
noncomputable def v_qslices_IndexFunc___api_Node_api_Node_:PFn:=evalFn [(24,v_qplan_Accesses_1)] ⟨[],[(0,⟨[(0,false),(1,false),(7,false),(8,false)],[]⟩)]⟩ 40 Tryz.f44
theorem ok_qslices_IndexFunc___api_Node_api_Node_:FOK NGc Wc 44 v_qslices_IndexFunc___api_Node_api_Node_:=evalFn_ok wokc (allOK_cons ok_qplan_Accesses_1 allOK_nil) Tryz.func44 rfl (by decide)
noncomputable def v_qslices_ContainsFunc___api_Node_api_Node_:PFn:=evalFn [(44,v_qslices_IndexFunc___api_Node_api_Node_)] ⟨[],[]⟩ 40 Tryz.f22
theorem ok_qslices_ContainsFunc___api_Node_api_Node_:FOK NGc Wc 22 v_qslices_ContainsFunc___api_Node_api_Node_:=evalFn_ok wokc (allOK_cons ok_qslices_IndexFunc___api_Node_api_Node_ allOK_nil) Tryz.func22 rfl (by decide)
noncomputable def v_q_plan_chooser__first:PFn:=evalFn [(81,v_con6)] ⟨[],[(0,⟨[(1,false),(2,false),(3,false),(6,false),(12,false),(13,false),(14,false)],[3,6]⟩)]⟩ 40 Tryz.f66
theorem ok_q_plan_chooser__first:FOK NGc Wc 66 v_q_plan_chooser__first:=evalFn_ok wokc (allOK_cons ok_con6 allOK_nil) Tryz.func66 rfl (by decide)
noncomputable def v_q_plan_chooser__rangeOf:PFn:=evalFn [(66,v_q_plan_chooser__first)] ⟨[],[(0,⟨[(2,false),(4,false),(5,false),(18,false),(19,false),(20,false)],[2,4,5]⟩)]⟩ 40 Tryz.f46
theorem ok_q_plan_chooser__rangeOf:FOK NGc Wc 46 v_q_plan_chooser__rangeOf:=evalFn_ok wokc (allOK_cons ok_q_plan_chooser__first allOK_nil) Tryz.func46 rfl (by decide)
noncomputable def v_qplan_worth:PFn:=evalFn [] ⟨[],[]⟩ 40 Tryz.f47
theorem ok_qplan_worth:FOK NGc Wc 47 v_qplan_worth:=evalFn_ok wokc allOK_nil Tryz.func47 rfl (by decide)
noncomputable def v_q_plan_chooser__access:PFn:=evalFn [(46,v_q_plan_chooser__rangeOf),(47,v_qplan_worth)] ⟨[],[(0,⟨[(3,false),(6,false),(7,false),(28,false),(29,false),(30,false)],[3,6,7]⟩)]⟩ 40 Tryz.f26
theorem ok_q_plan_chooser__access:FOK NGc Wc 26 v_q_plan_chooser__access:=evalFn_ok wokc (allOK_cons ok_q_plan_chooser__rangeOf (allOK_cons ok_qplan_worth allOK_nil)) Tryz.func26 rfl (by decide)
noncomputable def v_qplan_Accesses:PFn:=evalFn [(17,v_qplan_Hints),(22,v_qslices_ContainsFunc___api_Node_api_Node_),(23,v_qslices_Concat___api_Node_api_Node_),(16,v_qbind_Row),(25,v_qplan_place),(26,v_q_plan_chooser__access)] ⟨[],[(0,⟨[(2,false),(3,false),(4,false),(7,false),(8,true),(20,false),(21,false),(22,false)],[3,4]⟩)]⟩ 40 Tryz.f9
theorem ok_qplan_Accesses:FOK NGc Wc 9 v_qplan_Accesses:=evalFn_ok wokc (allOK_cons ok_qplan_Hints (allOK_cons ok_qslices_ContainsFunc___api_Node_api_Node_ (allOK_cons ok_qslices_Concat___api_Node_api_Node_ (allOK_cons ok_qbind_Row (allOK_cons ok_qplan_place (allOK_cons ok_q_plan_chooser__access allOK_nil)))))) Tryz.func9 rfl (by decide)
noncomputable def v_qrefitlaw24_first:PFn:=evalFn [(18,(p_qu (quS 3))),(9,v_qplan_Accesses),(17,v_qplan_Hints)] ⟨[],[]⟩ 40 Tryz.f4
theorem ok_qrefitlaw24_first:FOK NGc Wc 4 v_qrefitlaw24_first:=evalFn_ok wokc (allOK_cons (ok_qu 3) (allOK_cons ok_qplan_Accesses (allOK_cons ok_qplan_Hints allOK_nil))) Tryz.func4 rfl (by decide)
theorem first24_true:v_qrefitlaw24_first.F [] (R:=PV) some=some (.bool true):=by kernel_rfl
theorem ok_first24:FOK NGc Wc 4 p_true0:=by
 refine fok_at ok_qrefitlaw24_first ?_ rfl ?_
 ·intro R xs k
  simp only[p_true0]
  split<;>rfl
 ·intro xs r h
  simp only[p_true0] at h
  split at h
  ·rw[first24_true];exact h
  ·cases h
end Go.Proofs.YtegmldndflfohaaGreatDoor
end
section
set_option maxRecDepth 100000
namespace Go.Proofs.YtegmldndflfohaaGreatDoor
open Go.ChangeShapes Go.WideShapes Go.ChangeAt Go.RowKit
theorem trodAll_below {H:Type}{enc:TypeId×Value→H}{P:Program}(hl:laidOutB P=true){W W':World}(hb:Below W.heap.size W W'):∀ {ts:List TypeId} {vs:List Value} {ds:List (DataW H)} {ps:List MemPlace},
  (∀ t∈ts,P.readableRec t=true∧t<P.types.size)→DataW.TrodAll enc P W 0 (fun _=>true) true ts vs ds ps→(∀ x∈ps,x.block<W.heap.size)→DataW.TrodAll enc P W' 0 (fun b=>decide (b<W.heap.size)) true ts vs ds ps
 |[],vs,ds,ps,_,h,_=>by
  cases vs<;>cases ds<;>simp_all [DataW.TrodAll]
 |t::ts,vs,ds,ps,ht,h,hlt=>by
  obtain⟨v,vs',d,ds',p,q,rfl,rfl,rfl,h0,h1⟩:=trodAll_cons h
  exact trodAll_cons_mk (Below.trod hl (ht t (by simp)).1 (ht t (by simp)).2 h0 hb (fun x hx=>hlt x (by simp[hx])))
   (trodAll_below hl hb (fun t' ht'=>ht t' (by simp[ht'])) h1 (fun x hx=>hlt x (by simp[hx])))
theorem law_post {H:Type}{enc:TypeId×Value→H}{P:Program}{f:Func}{s:ChangeSpec}{W W':World}{args:Array Value}{ds gs:List (DataW H)}{before:List MemPlace}{tb:TypeId}
  (hl:laidOutB P=true) (ht:∀ t∈f.params.toList,P.readableRec t=true∧t<P.types.size) (htb:P.underlying tb=some .bool) (hf:f.resultTypes=#[tb])
  (hW:DataW.Whole enc P f.params.toList s.vars false W args.toList ds gs before) (hv:s.vars=[])
  (hr:(s.fn H (ds++gs)).results=[.lit (.bool true)]) (ha:(s.fn H (ds++gs)).args=ds) (hvs:(s.fn H (ds++gs)).vars=[]) (hb:Below W.heap.size W W') :
  s.post enc P f false true false false W args (.bool true) W':=by
 have hlt:=hW.lt
 have hW2:=hW
 obtain⟨p,q,hA,hV,rfl,_,_⟩:=hW
 rw[hv] at hV
 obtain⟨rfl,rfl⟩:=trodVars_none hV
 refine⟨ds,[],p++[],[],p,[],hW2,?_,?_,?_,hb.frame _,fun h=>by cases h⟩
 ·rw[hr,hf]
  exact trodAll_cons_mk (shut_bool htb _) trodAll_mk0
 ·rw[ha]
  exact trodAll_below hl hb ht hA (fun x hx=>hlt x (by simp[hx]))
 ·rw[hv,hvs]
  rfl
abbrev laidList:List (String×DataW Unit):=[("math/bits.deBruijn32tab", Rows.laid_math_bits_deBruijn32tab),("math/bits.deBruijn64tab", Rows.laid_math_bits_deBruijn64tab),("internal/strconv.uint64pow10", Rows.laid_internal_strconv_uint64pow10),("unicode/utf8.acceptRanges", Rows.laid_unicode_utf8_acceptRanges),("strconv.ErrRange", Rows.laid_strconv_ErrRange),("strconv.ErrSyntax", Rows.laid_strconv_ErrSyntax),("unicode/utf8.first", Rows.laid_unicode_utf8_first)]
theorem wd_of_laid {W:World}(h:laidMetH Tryz.prog laidList W):Wd W:=by
 have h':laidMet Tryz.prog laidList W:=h
 obtain⟨g,t,cs,fuel,p,hg,hty,hvar,hd⟩:=Lib.laidMet.reads (n := "internal/strconv.uint64pow10") (d:=Rows.laid_internal_strconv_uint64pow10) h' (by unfold laidList;exact List.mem_cons_of_mem _ (List.mem_cons_of_mem _ (List.mem_cons_self ..)))
 have e:(Rows.laid_internal_strconv_uint64pow10:DataW Unit)=Lib.tabData .u64 Lib.pow10Tab:=by kernel_rfl
 rw[e] at hd
 obtain rfl:5=g:=Option.some.inj (gPow.symm.trans hg)
 obtain rfl:t=207:=Option.some.inj (hty.symm.trans (show (Tryz.prog.globals[5]?).map (·.type)=some 207 by kernel_rfl))
 have hcs:=Lib.cells_of_tab (e:=125) (n:=20) (by kernel_rfl) (by kernel_rfl) (by kernel_rfl) (by kernel_rfl) hd
 unfold Wd Lib.TabIs
 rw[hvar,← hcs]
theorem star : "*" ++ "errors.errorString" = "*errors.errorString" := by decide
theorem row_err (u:TypeId)(h:Tryz.prog.typeName? 3 u=some "*errors.errorString"):u=215 :=
 typeName_ptr_named (nm := "errors.errorString") (by rw[star];kernel_rfl) (by kernel_rfl) (by decide) u (by rw[star];exact h)
theorem gRangeT:(Tryz.prog.globals[4]?).map (·.type)=some 165:=by kernel_rfl
theorem gSyntaxT:(Tryz.prog.globals[3]?).map (·.type)=some 165:=by kernel_rfl
theorem we_of_laid {W:World}(h:laidMetH Tryz.prog laidList W):We W:=by
 have h':laidMet Tryz.prog laidList W:=h
 have h3:=h'.tail.tail.tail.tail
 refine⟨wd_of_laid h,?_,?_⟩
 ·obtain⟨a,s,hv,_⟩:=laid_sentinel h3.tail gSyntax gSyntaxT Tryz.underlying165 row_err Tryz.underlying215 Tryz.underlying217 rfl rfl Tryz.underlying9 (by kernel_rfl) (by kernel_rfl)
  exact⟨_,_,hv⟩
 ·obtain⟨a,s,hv,_⟩:=laid_sentinel h3 gRange gRangeT Tryz.underlying165 row_err Tryz.underlying215 Tryz.underlying217 rfl rfl Tryz.underlying9 (by kernel_rfl) (by kernel_rfl)
  exact⟨_,_,hv⟩
theorem tabs_of_laid {W:World}(h:laidMetH Tryz.prog laidList W):Tabs W:=by
 have h':laidMet Tryz.prog laidList W:=h
 have e1:Lib.firstData=Rows.laid_unicode_utf8_first:=by kernel_rfl
 have e2:Lib.acceptData=Rows.laid_unicode_utf8_acceptRanges:=by kernel_rfl
 exact tabs_of_reads (Lib.laidMet.reads (n := "unicode/utf8.first") (d:=Lib.firstData) h' (by rw[e1];unfold laidList;exact (List.mem_cons_of_mem _ (List.mem_cons_of_mem _ (List.mem_cons_of_mem _ (List.mem_cons_of_mem _ (List.mem_cons_of_mem _ (List.mem_cons_of_mem _ (List.mem_cons_self ..)))))))))
  (Lib.laidMet.reads (n := "unicode/utf8.acceptRanges") (d:=Lib.acceptData) h' (by rw[e2];unfold laidList;exact (List.mem_cons_of_mem _ (List.mem_cons_of_mem _ (List.mem_cons_of_mem _ (List.mem_cons_self ..))))))
theorem wc_of_laid {W:World}(h:laidMetH Tryz.prog laidList W):Wc W:=⟨we_of_laid h,tabs_of_laid h⟩
theorem own:ownKnob Tryz.prog.godebug=none:=by kernel_rfl
def holdCells (cs:Array Value):Obj→Obj
 | .cells _ t frozen=>.cells cs t frozen
 |o=>o
def cellsOfData:DataW Unit→Array Value
 | .agg l=>(l.filterMap fun|.lit (.int k z)=>some (Value.int k z)|_=>none).toArray
 |_=>#[]
def errText:DataW Unit→List UInt8
 | .iface _ (.ptr (.agg [.lit (.string s)]))=>s
 |_=>[]
def errCells (b:Nat):Array Value:=#[.iface 215 (.pointer (some ⟨b,0,none⟩))]
def firstCells:Array Value:=(Lib.firstTab.map (Value.int .u8)).toArray
def acceptCells:Array Value:=((List.range 16).flatMap fun i=>[Value.int .u8 (Lib.accLo i),Value.int .u8 (Lib.accHi i)]).toArray
noncomputable def laidHeap (h:Array Obj):Array Obj :=
 (((((((h.modify 6 (holdCells (cellsOfData Rows.laid_math_bits_deBruijn32tab))).modify 7 (holdCells (cellsOfData Rows.laid_math_bits_deBruijn64tab))).modify
  5 (holdCells (cellsOfData Rows.laid_internal_strconv_uint64pow10))).modify 4 (holdCells (errCells h.size))).modify 3 (holdCells (errCells (h.size+1)))).modify 0 (holdCells firstCells)).modify 1 (holdCells acceptCells)) ++
  #[.cells #[.string ⟨(errText Rows.laid_strconv_ErrRange).toArray⟩] 217,.cells #[.string ⟨(errText Rows.laid_strconv_ErrSyntax).toArray⟩] 217]
noncomputable def laidWorld (os:Os):World :=
 {World.holding Tryz.prog os ⟨#[],#[],[]⟩ with heap:=laidHeap (World.holding Tryz.prog os ⟨#[],#[],[]⟩).heap }
theorem laidWorld_met (os:Os)(args:Array Value):laidMet Tryz.prog laidList ((laidWorld os).forCall (fun _ _=>0) ⟨#[],args,[]⟩).memory :=
 laidMet_of_run' 8 (by kernel_rfl) (by kernel_rfl)
end Go.Proofs.YtegmldndflfohaaGreatDoor
end
section
set_option maxRecDepth 100000
namespace Go.Proofs.YtegmldndflfohaaGreatDoor
open Go.ChangeShapes Go.WideShapes Go.ChangeAt Go.RowKit Go.Deep
theorem val_trod {H:Type}{enc:TypeId×Value→H}{w:World}{base:Nat}{sp:Nat→Bool}{held:Bool}{n:Nat}{cs:List Value}{x:DataW H×List MemPlace}
  (h:DataW.trod enc Tryz.prog w base sp held n 68 cs=some x):∃ v:Val,inI v.n=true∧cs=[.int .i64 v.kind,.int .i64 v.n,.int .i64 v.scale,.string ⟨v.s.toArray⟩]:=by
 obtain⟨xs,k,_,_,hl,hxl,hf⟩:=DataW.trod_struct Tryz.underlying68 h
 rw[show Tryz.prog.cellsOf 68=4 by kernel_rfl] at hl
 match cs,hl with
 |[v0,v1,v2,v3],_ =>
  match xs,hxl with
  |[y0,y1,y2,y3],_ =>
   have g0:DataW.trod enc Tryz.prog w base sp held k 64 [v0]=some y0:=hf 0 _ rfl
   have g1:DataW.trod enc Tryz.prog w base sp held k 3 [v1]=some y1:=hf 1 _ rfl
   have g2:DataW.trod enc Tryz.prog w base sp held k 3 [v2]=some y2:=hf 2 _ rfl
   have g3:DataW.trod enc Tryz.prog w base sp held k 9 [v3]=some y3:=hf 3 _ rfl
   obtain⟨a,e0,_,_⟩:=DataW.trod_int Tryz.underlying64 g0
   obtain⟨b,e1,_,hb⟩:=DataW.trod_int Tryz.underlying3 g1
   obtain⟨c,e2,_,_⟩:=DataW.trod_int Tryz.underlying3 g2
   obtain⟨s,e3,_,_⟩:=DataW.trod_string Tryz.underlying9 g3
   obtain rfl:=List.head_eq_of_cons_eq e0
   obtain rfl:=List.head_eq_of_cons_eq e1
   obtain rfl:=List.head_eq_of_cons_eq e2
   obtain rfl:=List.head_eq_of_cons_eq e3
   exact⟨⟨a,b,c,s.data.toList⟩,inI_iff.2 (bounds_i64 hb),by simp⟩
theorem typ_trod {H:Type}{enc:TypeId×Value→H}{w:World}{base:Nat}{sp:Nat→Bool}{held:Bool}{n:Nat}{cs:List Value}{x:DataW H×List MemPlace}
  (h:DataW.trod enc Tryz.prog w base sp held n 66 cs=some x):∃ a b:Int,cs=[.int .i64 a,.int .i64 b]:=by
 obtain⟨xs,k,_,_,hl,hxl,hf⟩:=DataW.trod_struct Tryz.underlying66 h
 rw[show Tryz.prog.cellsOf 66=2 by kernel_rfl] at hl
 match cs,hl with
 |[v0,v1],_ =>
  match xs,hxl with
  |[y0,y1],_ =>
   have g0:DataW.trod enc Tryz.prog w base sp held k 64 [v0]=some y0:=hf 0 _ rfl
   have g1:DataW.trod enc Tryz.prog w base sp held k 3 [v1]=some y1:=hf 1 _ rfl
   obtain⟨a,e0,_,_⟩:=DataW.trod_int Tryz.underlying64 g0
   obtain⟨b,e1,_,hb⟩:=DataW.trod_int Tryz.underlying3 g1
   obtain rfl:=List.head_eq_of_cons_eq e0
   obtain rfl:=List.head_eq_of_cons_eq e1
   exact⟨a,b,rfl⟩
def ArgU (w:World)(p:PV)(v:Value):Prop:=∃ B:Nat,∀ U:Nat→Nat,(∀ b,B≤U b)→RelD (memU w U) p v
def ArgsU (w:World)(ps:List PV)(vs:List Value):Prop:=∃ B:Nat,∀ U:Nat→Nat,(∀ b,B≤U b)→RelT (memU w U) ps vs
theorem ArgsU.nil {w:World}:ArgsU w [] []:=⟨0,fun _ _=>rfl⟩
theorem ArgsU.cons {w:World}{p:PV}{v:Value}{ps:List PV}{vs:List Value}(h:ArgU w p v)(k:ArgsU w ps vs):ArgsU w (p::ps) (v::vs):=by
 obtain⟨A,h⟩:=h
 obtain⟨B,k⟩:=k
 exact⟨max A B,fun U hU=>⟨_,_,rfl,h U fun b=>Nat.le_trans (Nat.le_max_left _ _) (hU b),k U fun b=>Nat.le_trans (Nat.le_max_right _ _) (hU b)⟩⟩
theorem law_runA {NG:Nat}{W:World→Prop}(hW:WOK NG W){l:List (FuncId×PFn)}(hl:AllOK NG W l){f:FuncId}{fn:Func}(hf:Tryz.prog.funcs[f]? = some fn){h:Hints}{fuel:Nat}{w:World}{xs:List PV}{vs:List Value}
  (hw:W w) (hng:NG≤w.heap.size) (hr:ArgsU w xs vs) (hrun:prun (en l) h fuel false fn xs=some (.bool true)) :
  Calls Tryz.prog f vs.toArray w fun e w'=>e=.returned (.bool true)∧Below w.heap.size w w':=by
 obtain⟨B,hB⟩:=hr
 exact law_runU hW hl hf (U:=fun _=>B) hw hng (hB _ fun _=>Nat.le_refl _) hrun
end Go.Proofs.YtegmldndflfohaaGreatDoor
end
