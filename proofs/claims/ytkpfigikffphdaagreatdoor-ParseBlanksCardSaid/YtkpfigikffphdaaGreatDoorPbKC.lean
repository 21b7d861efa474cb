/-
  Lemmas, part K3: what the claim needs of the texts of wip/tpl.
-/
import Derived.Test.YtkpfigikffphdaaGreatDoorPbKB
set_option linter.unusedVariables false
set_option linter.unusedSimpArgs false
section
set_option maxRecDepth 100000
namespace Go.Proofs.YtkpfigikffphdaaGreatDoor
open Go.RowKit
def prK {R:Type}(o:Option (Int ⊕ XR))(kl:Int→Option R)(kr:XR→Option R):Option R:=o.bind fun o=>match o with
 | .inl a=>kl a
 | .inr x=>kr x
theorem prK_bind {R S:Type}{o:Option (Int ⊕ XR)}{kl:Int→Option R}{kr:XR→Option R}{g:R→Option S}:(prK o kl kr).bind g=prK o (fun a=>(kl a).bind g) fun x=>(kr x).bind g:=by
 cases o with
 |none=>rfl
 |some o=>cases o<;>rfl
def tPxK (f:List UInt8→Option (Int ⊕ XR)):PFn:=⟨fun xs k=>match xs with|[.str s]=>prK (f s) (fun a=>k (.tuple [.agg XR.zero.cells,.int .i64 a,.int .i64 170])) fun x=>k (.tuple [.agg x.cells,.int .i64 0,.int .i64 0])|_=>none,false⟩
theorem tPxK_nat (f:List UInt8→Option (Int ⊕ XR)):(tPxK f).nat:=by
 intro R xs k
 simp only[tPxK]
 split
 ·simp only[prK_bind,Option.bind_some]
 ·rfl
def tPd (f:List UInt8→Option (Int ⊕ XR)):PFn:=⟨fun xs k=>match xs with|[.str s]=>prK (f s) (fun a=>k (tPV (SR.zero,a,170))) fun x=>k (tPV (delX x,0,0))|_=>none,false⟩
theorem tPd_nat (f:List UInt8→Option (Int ⊕ XR)):(tPd f).nat:=by
 intro R xs k
 simp only[tPd]
 split
 ·simp only[prK_bind,Option.bind_some]
 ·rfl
def delW:List UInt8:=[68,69,76,69,84,69,32,70,82,79,77,32,116,32,87,72,69,82,69,32]
noncomputable def lBr (fe:List UInt8→Option (Int ⊕ XR))(fp:List UInt8→Option (Int ⊕ XR))(fx:XR→XR→Option Bool):List (FuncId×PFn):=[(8,p_trueF),(9,tPxK fe),(13,tPd fp),(12,tXXt fx)]
section
variable (fe:List UInt8→Option (Int ⊕ XR)) (fp:List UInt8→Option (Int ⊕ XR)) (fx:XR→XR→Option Bool)
noncomputable def brR (s:List UInt8)(x:XR):Option PV:=lenA delW s fun u =>
   prK (fp u) (fun a=>lenA delW s fun u=>lenA u [32,116] fun u=>prK (fp u) (fun b=>some (.bool false)) (fun z=>some (.bool false)))
    (fun y=>lenA delW s fun u=>lenA u [32,116] fun u=>prK (fp u) (fun b=>tB (fx y x) (some (.bool (b==IntKind.i64.wrap (21+(s.length:Int)))))) (fun z=>tB (fx y x) (some (.bool false))))
noncomputable def brX (s:List UInt8)(x:XR):Option PV:=lenA [40] s fun u=>lenA u [10,41] fun u=>prK (fe u) (fun _=>brR fp fx s x) fun y=>tB (fx x y) (brR fp fx s x)
theorem br_raw (fu:Nat)(s:List UInt8):prun (en (lBr fe fp fx)) hh0 fu false Tryz.f5 [.str s] =
  prK (fe s) (fun _=>bif (bif decide ((900:Int)<(s.length:Int)) then true else true) then some (.bool true) else brX fe fp fx s XR.zero) fun x=>bif (bif decide ((900:Int)<(s.length:Int)) then true else false) then some (.bool true) else brX fe fp fx s x:=by kernel_rfl
end
def Res.isBad {α:Type}:Res α→Prop
 | .bad _=>True
 | .ok _ _=>False
theorem Res.isBad.bind {α β:Type}{r:Res α}(h:r.isBad)(k:α→List TR→Res β):(r.bind k).isBad:=by
 cases r with
 |bad a=>trivial
 |ok x R=>cases h
theorem tokV_par (s:List UInt8):tokV (40::s)=some (⟨3,0,[40],0,0,0,[]⟩,1):=by
 have e:tokV (40::s)=signV (40::s):=by
  simp only[tokV]
  rw[if_neg (by decide),if_neg (by simp),if_neg (by decide),if_neg (by decide),if_neg (by decide)]
 rw[e]
 cases s with
 |nil=>rfl
 |cons d s =>
  show (bif conA sg2 [40,d] then some ((⟨3,0,[40,d],0,0,0,[]⟩:TR),2) else bif sgC 40 then some (⟨3,0,[40],0,0,0,[]⟩,1) else none)=_
  rw[show conA sg2 [40,d]=false by simp[conA,sg2]]
  rfl
abbrev Blank (z:UInt8):Prop:=z=32∨z=10
theorem tw_app {p:UInt8→Bool}{z:UInt8}(hz:p z=false)(w:List UInt8):∀ s:List UInt8,(s++z::w).takeWhile p=s.takeWhile p
 |[]=>by rw[List.nil_append,List.takeWhile_cons,if_neg (by rw[hz];decide)];rfl
 |c::s=>by rw[List.cons_append,List.takeWhile_cons,List.takeWhile_cons,tw_app hz w s]
theorem qsc_app {z:UInt8}(hz:z≠39)(w:List UInt8):∀ (k:Nat) (l r u x:List UInt8),l.length≤k→qsc l=some (r,u,x)→qsc (l++z::w)=some (r,u,x++z::w)
 |_,[],r,u,x,_,h=>by cases h
 |_,[c],r,u,x,_,h=>by
  rw[qsc] at h
  obtain⟨hc,h⟩:=ite_inv h
  injection h with h
  injection h with h1 h
  injection h with h2 h3
  subst h1 h2 h3 hc
  show qsc (39::z::w)=_
  rw[qsc,if_pos rfl,if_neg hz]
  rfl
 |0,c::d::t,r,u,x,hk,_=>absurd hk (by simp)
 |k+1,c::d::t,r,u,x,hk,h=>by
  show qsc (c::d::(t++z::w))=_
  rw[qsc] at h ⊢
  by_cases hc:c=39
  ·rw[if_pos hc] at h ⊢
   by_cases hd:d=39
   ·rw[if_pos hd] at h ⊢
    obtain⟨q,hq,h⟩:=Option.map_eq_some_iff.1 h
    obtain⟨r',u',x'⟩:=q
    rw[qsc_app hz w k t r' u' x' (by simp only[List.length_cons] at hk;omega) hq]
    injection h with h1 h
    injection h with h2 h3
    subst h1 h2 h3
    rfl
   ·rw[if_neg hd] at h ⊢
    injection h with h
    injection h with h1 h
    injection h with h2 h3
    subst h1 h2 h3
    rfl
  ·rw[if_neg hc] at h ⊢
   obtain⟨q,hq,h⟩:=Option.map_eq_some_iff.1 h
   obtain⟨r',u',x'⟩:=q
   have:=qsc_app hz w k (d::t) r' u' x' (by simp only[List.length_cons] at hk ⊢;omega) hq
   rw[show d::(t++z::w)=(d::t)++z::w from rfl,this]
   injection h with h1 h
   injection h with h2 h3
   subst h1 h2 h3
   rfl
theorem numText_app {z:UInt8}(hd:lDig z=false)(h46:(z==46)=false)(w s:List UInt8):numText (s++z::w)=numText s:=by
 unfold numText
 rw[tw_app hd w s,List.drop_append_of_le_length (tw_len s)]
 generalize s.drop (s.takeWhile lDig).length=q
 match q with
 |[] =>
  show (match z::w with|v::w::t=>_|_=>_)=_
  cases w with
  |nil=>rfl
  |cons a w=>simp only[h46,Bool.false_and,cond_false]
 |[v] =>
  show (bif v==46&&lDig z then _ else _)=_
  rw[hd,Bool.and_false]
  rfl
 |v::a::t =>
  show (bif v==46&&lDig a then _++46::((a::t)++z::w).takeWhile lDig else _)=_
  rw[tw_app hd w]
theorem blank_sg {z:UInt8}(hz:Blank z)(c:UInt8):conA sg2 [c,z]=false:=by
 rcases hz with rfl|rfl<;>simp[conA,sg2]
theorem signV_app {z:UInt8}(hz:Blank z)(w:List UInt8){c:UInt8}{t:List UInt8}:signV (c::t++z::w)=signV (c::t):=by
 cases t with
 |nil =>
  show (bif conA sg2 [c,z] then _ else _)=_
  rw[blank_sg hz]
  rfl
 |cons d t=>rfl
theorem tokV_app {z:UInt8}(hz:Blank z)(w:List UInt8){s:List UInt8}{r:TR×Nat}(h:tokV s=some r):tokV (s++z::w)=some r:=by
 have h39:z≠39:=by rcases hz with rfl|rfl<;>decide
 have hD:lDig z=false:=by rcases hz with rfl|rfl<;>rfl
 have hG:lGre z=false:=by rcases hz with rfl|rfl<;>rfl
 have hS:lSma z=false:=by rcases hz with rfl|rfl<;>rfl
 have h46:(z==46)=false:=by rcases hz with rfl|rfl<;>rfl
 rcases s with _|⟨c,t⟩
 ·cases h
 rw[List.cons_append,tokV]
 rw[tokV] at h
 by_cases hc:c=39
 ·rw[if_pos hc] at h ⊢
  obtain⟨q,hq,h⟩:=Option.bind_eq_some_iff.1 h
  obtain⟨r',u',x'⟩:=q
  rw[qsc_app h39 w _ t r' u' x' (Nat.le_refl _) hq]
  exact h
 rw[if_neg hc] at h ⊢
 have hh:(t++z::w).head? = some 39↔t.head? = some 39:=by
  cases t with
  |nil=>simp[h39]
  |cons d t=>rfl
 by_cases h88:c=88∧t.head? = some 39
 ·rw[if_pos h88] at h
  rw[if_pos ⟨h88.1,hh.2 h88.2⟩]
  obtain⟨q,hq,h⟩:=Option.bind_eq_some_iff.1 h
  obtain⟨r',u',x'⟩:=q
  have ht:(t++z::w).tail=t.tail++z::w:=by
   cases t with
   |nil=>exact absurd h88.2 (by simp)
   |cons d t=>rfl
  rw[ht,qsc_app h39 w _ t.tail r' u' x' (Nat.le_refl _) hq]
  exact h
 rw[if_neg h88] at h
 rw[if_neg (fun hx=>h88 ⟨hx.1,hh.1 hx.2⟩),← List.cons_append,numText_app hD h46,tw_app hG,tw_app hS,signV_app hz]
 exact h
theorem lexV_fu:∀ (n f g i:Nat) (s:List UInt8),s.length≤n→s.length<f→s.length<g→lexV f i s=lexV g i s
 |_,0,_,_,_,_,h,_=>absurd h (Nat.not_lt_zero _)
 |_,_+1,0,_,_,_,_,h=>absurd h (Nat.not_lt_zero _)
 |_,f+1,g+1,i,[],_,_,_=>rfl
 |0,f+1,g+1,i,c::t,h,_,_=>absurd h (by simp)
 |n+1,f+1,g+1,i,c::t,hn,hf,hg=>by
  simp only[List.length_cons] at hn hf hg
  rw[lexV,lexV]
  split
  ·exact lexV_fu n f g _ t (by omega) (by omega) (by omega)
  ·cases hr:tokV (c::t) with
   |none=>rfl
   |some r =>
    obtain⟨h1,-,-,-⟩:=tokV_ok hr
    dsimp only
    rw[lexV_fu n f g (i+r.2) ((c::t).drop r.2) (by simp only[List.length_drop,List.length_cons];omega) (by simp only[List.length_drop,List.length_cons];omega) (by simp only[List.length_drop,List.length_cons];omega)]
def lexN (i:Nat)(s:List UInt8):Nat ⊕ List TR:=lexV (s.length+1) i s
theorem lexN_eq {f i:Nat}{s:List UInt8}(h:s.length<f):lexV f i s=lexN i s:=lexV_fu _ _ _ _ _ (Nat.le_refl _) h (Nat.lt_succ_self _)
theorem lexN_nil (i:Nat):lexN i []=.inr []:=rfl
theorem lexN_sp {i:Nat}{c:UInt8}{t:List UInt8}(h:Blank c):lexN i (c::t)=lexN (i+1) t:=by
 unfold lexN
 rw[List.length_cons,lexV,if_pos (show c=32∨c=10 from h)]
def conL (x:TR):Nat ⊕ List TR→Nat ⊕ List TR
 | .inl a=>.inl a
 | .inr l=>.inr (x::l)
def appL (L:List TR):Nat ⊕ List TR→Nat ⊕ List TR
 | .inl a=>.inl a
 | .inr l=>.inr (L++l)
def tkAt (i:Nat)(r:TR×Nat):TR:=⟨r.1.k,i,r.1.t,r.1.vk,r.1.vn,r.1.vc,r.1.vs⟩
theorem lexN_tok {i:Nat}{c:UInt8}{t:List UInt8}{r:TR×Nat}(h:¬ Blank c)(hr:tokV (c::t)=some r):lexN i (c::t)=conL (tkAt i r) (lexN (i+r.2) ((c::t).drop r.2)):=by
 obtain⟨h1,-,-,-⟩:=tokV_ok hr
 rw[← lexN_eq (f:=t.length+1) (s:=(c::t).drop r.2) (by simp only[List.length_drop,List.length_cons];omega)]
 unfold lexN
 rw[List.length_cons,lexV,if_neg (show ¬ (c=32∨c=10) from h),hr]
 dsimp only
 cases lexV (t.length+1) (i+r.2) ((c::t).drop r.2)<;>rfl
theorem lexN_bad {i:Nat}{c:UInt8}{t:List UInt8}(h:¬ Blank c)(hr:tokV (c::t)=none):lexN i (c::t)=.inl i:=by
 unfold lexN
 rw[List.length_cons,lexV,if_neg (show ¬ (c=32∨c=10) from h),hr]
theorem conL_inv {x:TR}{o:Nat ⊕ List TR}{T:List TR}(h:conL x o=.inr T):∃ l,o=.inr l∧T=x::l:=by
 cases o with
 |inl a=>cases h
 |inr l=>injection h with h;exact⟨l,rfl,h.symm⟩
theorem conL_appL (x:TR)(L:List TR)(o:Nat ⊕ List TR):conL x (appL L o)=appL (x::L) o:=by cases o<;>rfl
theorem lexN_app (c:Nat){z:UInt8}(hz:Blank z)(w:List UInt8):∀ (n:Nat) (s:List UInt8) (i:Nat) (T:List TR),s.length≤n→lexN i s=.inr T→lexN (i+c) (s++z::w)=appL (T.map (shT c)) (lexN (i+c+s.length) (z::w))
 |_,[],i,T,_,h=>by
  rw[lexN_nil] at h
  injection h with h
  subst h
  show lexN (i+c) (z::w)=appL [] (lexN (i+c+0) (z::w))
  rw[Nat.add_zero]
  cases lexN (i+c) (z::w)<;>rfl
 |0,d::t,i,T,hn,_=>absurd hn (by simp)
 |n+1,d::t,i,T,hn,h=>by
  simp only[List.length_cons] at hn
  by_cases hb:Blank d
  ·rw[lexN_sp hb] at h
   rw[List.cons_append,lexN_sp hb,show i+c+1=(i+1)+c by omega,lexN_app c hz w n t (i+1) T (by omega) h,List.length_cons,show i+1+c+t.length=i+c+(t.length+1) by omega]
  ·cases hr:tokV (d::t) with
   |none=>rw[lexN_bad hb hr] at h;cases h
   |some r =>
    rw[lexN_tok hb hr] at h
    obtain⟨l,hl,rfl⟩:=conL_inv h
    obtain⟨h1,h2,-,-⟩:=tokV_ok hr
    have hr':=tokV_app hz w hr
    rw[List.cons_append] at hr'
    rw[List.cons_append,lexN_tok hb hr',← List.cons_append,List.drop_append_of_le_length h2,show i+c+r.2=(i+r.2)+c by omega,
     lexN_app c hz w n ((d::t).drop r.2) (i+r.2) l (by simp only[List.length_drop,List.length_cons] at h2 ⊢;omega) hl,conL_appL]
    rw[show i+r.2+c+((d::t).drop r.2).length=i+c+(d::t).length by rw[List.length_drop];omega]
    rfl
theorem lexN_sh (c:Nat):∀ (n:Nat) (s:List UInt8) (i:Nat) (T:List TR),s.length≤n→lexN i s=.inr T→lexN (i+c) s=.inr (T.map (shT c))
 |_,[],i,T,_,h=>by
  rw[lexN_nil] at h
  injection h with h
  subst h
  rfl
 |0,d::t,i,T,hn,_=>absurd hn (by simp)
 |n+1,d::t,i,T,hn,h=>by
  simp only[List.length_cons] at hn
  by_cases hb:Blank d
  ·rw[lexN_sp hb] at h
   rw[lexN_sp hb,show i+c+1=(i+1)+c by omega,lexN_sh c n t (i+1) T (by omega) h]
  ·cases hr:tokV (d::t) with
   |none=>rw[lexN_bad hb hr] at h;cases h
   |some r =>
    rw[lexN_tok hb hr] at h
    obtain⟨l,hl,rfl⟩:=conL_inv h
    obtain⟨h1,h2,-,-⟩:=tokV_ok hr
    rw[lexN_tok hb hr,show i+c+r.2=(i+r.2)+c by omega,lexN_sh c n ((d::t).drop r.2) (i+r.2) l (by simp only[List.length_drop,List.length_cons] at h2 ⊢;omega) hl]
    rfl
theorem lexS_N {s:List UInt8}(h:s.length≤2000):lexS s=lexN 0 s:=by
 unfold lexS
 rw[cond_f (decide_eq_false (by omega))]
 rfl
theorem lexS_N' {s:List UInt8}{T:List TR}(h:lexS s=.inr T):lexN 0 s=.inr T:=by
 by_cases hs:s.length≤2000
 ·rwa [lexS_N hs] at h
 ·unfold lexS at h
  rw[cond_t (decide_eq_true (by omega))] at h
  cases h
theorem lev_ok0 {e:Int}{n:Nat}{part:List TR→Res XR}{T:List TR}{x:XR}(h:part T=.ok x []):levG e n part T=.ok x []:=by
 unfold levG
 rw[h]
 show loopG e n part (4999+1) x []=_
 rw[loopG]
 rfl
theorem lev_bad {e:Int}{n:Nat}{part:List TR→Res XR}{T:List TR}{a:Int}(h:part T=.bad a):levG e n part T=.bad a:=by
 unfold levG
 rw[h]
 rfl
theorem par_atom {e:Int}{G:GF}{tp:TR}{I:List TR}(hk:tp.k=3)(ht:tp.t=[40]):factG e (some G) (tp::I)=(G.expr I).bind fun x R=>(wantG e 3 [41] R).bind fun _ R=>.ok x R:=by
 obtain⟨k,a,t,vk,vn,vc,vs⟩:=tp
 dsimp only at hk ht
 subst hk ht
 unfold factG
 rw[cond_f (by rfl)]
 unfold atomG
 rw[cond_t (by rfl)]
 unfold withinG
 rw[cond_t (by rfl)]
 rfl
theorem par_not {e:Int}{low:Option GF}{tp:TR}{I:List TR}(hk:tp.k=3):negG e low (tp::I)=compG e low (tp::I):=by
 obtain⟨k,a,t,vk,vn,vc,vs⟩:=tp
 dsimp only at hk
 subst hk
 unfold negG
 rw[cond_f (by rfl)]
theorem par_bad {e:Int}{G:GF}{tp:TR}{I:List TR}(hk:tp.k=3)(ht:tp.t=[40]){a:Int}(h:G.expr I=.bad a):exprG e (some G) (tp::I)=.bad a:=by
 have h1:factG e (some G) (tp::I)=.bad a:=by rw[par_atom hk ht,h];rfl
 have h2:sumG e (some G) (tp::I)=.bad a:=lev_bad (lev_bad h1)
 have h3:negG e (some G) (tp::I)=.bad a:=by rw[par_not hk];unfold compG;rw[h2];rfl
 exact lev_bad (lev_bad h3)
theorem par_ok {e:Int}{G:GF}{tp tr:TR}{I:List TR}(hk:tp.k=3)(ht:tp.t=[40])(hk':tr.k=3)(ht':tr.t=[41]){y:XR}(h:G.expr I=.ok y [tr]):exprG e (some G) (tp::I)=.ok y []:=by
 have h1:factG e (some G) (tp::I)=.ok y []:=by
  rw[par_atom hk ht,h]
  obtain⟨k,a,t,vk,vn,vc,vs⟩:=tr
  dsimp only at hk' ht'
  subst hk' ht'
  rfl
 have h2:sumG e (some G) (tp::I)=.ok y []:=lev_ok0 (lev_ok0 h1)
 have h3:negG e (some G) (tp::I)=.ok y []:=by rw[par_not hk];unfold compG;rw[h2];rfl
 exact lev_ok0 (lev_ok0 h3)
theorem shT0 (t:TR):shT 0 t=t:=by
 unfold shT
 rw[Int.add_zero]
theorem shT0s (T:List TR):T.map (shT 0)=T:=by
 induction T with
 |nil=>rfl
 |cons t T ih=>rw[List.map_cons,shT0,ih]
theorem zok_nil:ZOK []:=⟨fun _=>rfl,fun _ _=>rfl⟩
theorem zok_name {t:TR}(h:t.k=0):ZOK [t]:=⟨fun ws=>by simp[tokIs,h],fun ws _=>by simp[tokIs,h]⟩
theorem zok_shut {t:TR}(h:t.k=3)(ht:t.t=[41]):ZOK [t]:=⟨fun ws=>by simp[tokIs,h],fun ws hw=>by simp only[tokIs,ht,hw,Bool.and_false]⟩
theorem expr_sh {e e' c:Int}{Z T R:List TR}(hZ:ZOK Z){k k':Nat}(hk:k≤k'){x:XR}(h:exprG e (gfs e k) T=.ok x R):∃ y,exprG e' (gfs e' k') (T.map (shT c)++Z)=.ok y (R.map (shT c)++Z)∧Alk x y :=
 expr_e (c:=c) (e:=e) (e':=e') hZ (gfs_e hZ k k' hk) T x R h
theorem par_alike {e e' c:Int}{tp tr:TR}{T:List TR}(hk:tp.k=3)(ht:tp.t=[40])(hk':tr.k=3)(ht':tr.t=[41]){x:XR}(h:exprG e (gfs e 20) T=.ok x []) :
  (∃ a,exprG e' (gfs e' 20) (tp::(T.map (shT c)++[tr]))=.bad a)∨∃ y,exprG e' (gfs e' 20) (tp::(T.map (shT c)++[tr]))=.ok y []∧Alk x y:=by
 obtain⟨y2,h2,a2⟩:=expr_sh (e':=e') (c:=c) (zok_shut hk' ht') (Nat.le_refl 20) h
 have hg:gfs e' 20=some ⟨exprG e' (gfs e' 19),negG e' (gfs e' 19),factG e' (gfs e' 19)⟩:=rfl
 cases hi:exprG e' (gfs e' 19) (T.map (shT c)++[tr]) with
 |bad a=>exact .inl ⟨a,by rw[hg];exact par_bad hk ht hi⟩
 |ok y1 R1 =>
  obtain⟨y3,h3,a3⟩:=expr_sh (e':=e') (c:=0) zok_nil (show 19≤20 by omega) hi
  rw[List.append_nil,List.append_nil,shT0s,shT0s,h2] at h3
  injection h3 with h4 h5
  subst h4
  rw[List.map_nil,List.nil_append] at h5
  subst h5
  exact .inr ⟨y1,by rw[hg];exact par_ok hk ht hk' ht' hi,a2.trans a3.symm⟩
theorem alk_right {x y:XR}(h:Alk x y):rightX y=rightX x:=by
 unfold rightX
 rw[h 6000]
theorem alk_same {x y:XR}(h:Alk x y){t:TX}(ht:er 6000 x=some t):smD 6000 x y=some true∧smD 6000 y x=some true:=by
 have hy:er 6000 y=some t:=by rw[← h 6000,ht]
 unfold smD
 rw[ht,hy,Option.bind_some,Option.bind_some,sameT_self]
 exact⟨rfl,rfl⟩
theorem exprV_inv {s:List UInt8}{x:XR}(h:exprV s=.inr x):∃ T,lexS s=.inr T∧exprG (s.length:Int) (gfs (s.length:Int) 20) T=.ok x []:=by
 unfold exprV at h
 cases hl:lexS s with
 |inl a=>rw[hl] at h;cases h
 |inr T =>
  rw[hl] at h
  have h:exprT (s.length:Int) T=.inr x:=h
  unfold exprT at h
  refine⟨T,rfl,?_⟩
  cases hx:exprG (s.length:Int) (gfs (s.length:Int) 20) T with
  |bad a=>rw[hx] at h;cases h
  |ok y R =>
   rw[hx] at h
   cases R with
   |cons t R=>cases h
   |nil =>
    dsimp only at h
    cases hr:rightX y with
    |false=>rw[hr] at h;cases h
    |true =>
     rw[hr] at h
     injection h with h
     subst h
     rfl
theorem tokV_shut:tokV [41]=some (⟨3,0,[41],0,0,0,[]⟩,1):=rfl
theorem lex_par {s:List UInt8}(hs:s.length≤900){T:List TR}(h:lexS s=.inr T):∃ tp tr:TR,tp.k=3∧tp.t=[40]∧tr.k=3∧tr.t=[41]∧lexS ([40]++s++[10,41])=.inr (tp::(T.map (shT 1)++[tr])):=by
 rw[lexS_N (by simp only[List.length_append,List.length_cons,List.length_nil];omega)]
 have h1:=lexN_app 1 (z:=10) (.inr rfl) [41] s.length s 0 T (Nat.le_refl _) (lexS_N' h)
 have e:[40]++s++[10,41]=40::(s++[10,41]):=by simp
 rw[e,lexN_tok (by decide) (tokV_par (s++[10,41]))]
 have h2:lexN (0+1+s.length) [10,41]=.inr [tkAt (0+1+s.length+1) (⟨3,0,[41],0,0,0,[]⟩,1)]:=by
  rw[lexN_sp (.inr rfl),lexN_tok (by decide) tokV_shut]
  rfl
 rw[h2] at h1
 refine⟨tkAt 0 (⟨3,0,[40],0,0,0,[]⟩,1),tkAt (0+1+s.length+1) (⟨3,0,[41],0,0,0,[]⟩,1),rfl,rfl,rfl,rfl,?_⟩
 show conL _ (lexN (0+1) (s++[10,41]))=_
 rw[h1]
 rfl
theorem par_V {s:List UInt8}(hs:s.length≤900){x:XR}(h:exprV s=.inr x):(∃ a,exprV ([40]++s++[10,41])=.inl a)∨∃ y,exprV ([40]++s++[10,41])=.inr y∧Alk x y:=by
 obtain⟨T,hT,hx⟩:=exprV_inv h
 obtain⟨tp,tr,h1,h2,h3,h4,h5⟩:=lex_par hs hT
 unfold exprV
 rw[h5]
 generalize (([40]++s++[10,41]).length:Int)=e'
 show (∃ a,exprT e' _=.inl a)∨∃ y,exprT e' _=.inr y∧Alk x y
 unfold exprT
 rcases par_alike (e':=e') (c:=1) h1 h2 h3 h4 hx with ⟨a,ha⟩|⟨y,hy,hA⟩
 ·rw[ha]
  exact .inl ⟨a,rfl⟩
 ·rw[hy]
  dsimp only
  cases hr:rightX y with
  |false=>exact .inl ⟨0,rfl⟩
  |true=>exact .inr ⟨y,rfl,hA⟩
abbrev wDELETE:List UInt8:=[68,69,76,69,84,69]
abbrev wFROM:List UInt8:=[70,82,79,77]
abbrev wWHERE:List UInt8:=[87,72,69,82,69]
def tk (k:Int)(a:Nat)(t:List UInt8):TR:=⟨k,a,t,0,0,0,[]⟩
def delT (R:List TR):List TR:=tk 1 0 wDELETE::tk 1 7 wFROM::tk 0 12 [116]::tk 1 14 wWHERE::R
theorem tokV_del (s:List UInt8):tokV (68::69::76::69::84::69::32::s)=some (⟨1,0,wDELETE,0,0,0,[]⟩,6):=rfl
theorem tokV_from (s:List UInt8):tokV (70::82::79::77::32::s)=some (⟨1,0,wFROM,0,0,0,[]⟩,4):=rfl
theorem tokV_t (s:List UInt8):tokV (116::32::s)=some (⟨0,0,[116],0,0,0,[]⟩,1):=rfl
theorem tokV_t0:tokV [116]=some (⟨0,0,[116],0,0,0,[]⟩,1):=rfl
theorem tokV_where (s:List UInt8):tokV (87::72::69::82::69::32::s)=some (⟨1,0,wWHERE,0,0,0,[]⟩,5):=rfl
theorem lexN_del (s:List UInt8):lexN 0 (delW++s)=appL (delT []) (lexN 20 s):=by
 have h1:lexN 0 (delW++s)=conL (tk 1 0 wDELETE) (lexN 6 (32::70::82::79::77::32::116::32::87::72::69::82::69::32::s)):=lexN_tok (by decide) (tokV_del _)
 have h2:lexN 7 (70::82::79::77::32::116::32::87::72::69::82::69::32::s)=conL (tk 1 7 wFROM) (lexN 11 (32::116::32::87::72::69::82::69::32::s)):=lexN_tok (by decide) (tokV_from _)
 have h3:lexN 12 (116::32::87::72::69::82::69::32::s)=conL (tk 0 12 [116]) (lexN 13 (32::87::72::69::82::69::32::s)):=lexN_tok (by decide) (tokV_t _)
 have h4:lexN 14 (87::72::69::82::69::32::s)=conL (tk 1 14 wWHERE) (lexN 19 (32::s)):=lexN_tok (by decide) (tokV_where _)
 rw[h1,lexN_sp (.inl rfl),h2,lexN_sp (.inl rfl),h3,lexN_sp (.inl rfl),h4,lexN_sp (.inl rfl)]
 show conL _ (conL _ (conL _ (conL _ (lexN 20 s))))=appL _ (lexN 20 s)
 cases lexN 20 s<;>rfl
theorem lex_del {s:List UInt8}(hs:s.length≤900){T:List TR}(h:lexS s=.inr T):lexS (delW++s)=.inr (delT (T.map (shT 20))):=by
 rw[lexS_N (by simp only[List.length_append];show 20+s.length≤2000;omega),lexN_del,lexN_sh 20 s.length s 0 T (Nat.le_refl _) (lexS_N' h)]
 rfl
theorem lex_del2 {s:List UInt8}(hs:s.length≤900){T:List TR}(h:lexS s=.inr T):lexS (delW++s++[32,116])=.inr (delT (T.map (shT 20)++[tk 0 (21+s.length) [116]])):=by
 rw[lexS_N (by simp only[List.length_append,List.length_cons,List.length_nil];show 20+s.length+2≤2000;omega),List.append_assoc,lexN_del,
  lexN_app 20 (z:=32) (.inl rfl) [116] s.length s 0 T (Nat.le_refl _) (lexS_N' h),lexN_sp (.inl rfl),lexN_tok (by decide) tokV_t0]
 show Sum.inr _=_
 rw[show 0+20+s.length+1=21+s.length by omega]
 rfl
theorem fldFROM:FieldsAs fldF wFROM:=⟨some false,by kernel_rfl⟩
theorem stmt_del {e:Int}(he:0≤e){nl:Option Bool}{R Q:List TR}{y:XR}(hT:TOKs (delT R))(hx:exprG e (gfs e 20) R=.ok y Q):stmtP (PG e nl 0 (delT R))=some (delX y,PG e nl 0 Q):=by
 have k1:skipP (PG e nl 0 (delT R)) [67,82,69,65,84,69]=some (false,PG e nl 0 (delT R)):=by rw[skipP_g];rfl
 have k2:skipP (PG e nl 0 (delT R)) [68,82,79,80]=some (false,PG e nl 0 (delT R)):=by rw[skipP_g];rfl
 have k3:skipP (PG e nl 0 (delT R)) [65,76,84,69,82]=some (false,PG e nl 0 (delT R)):=by rw[skipP_g];rfl
 have k4:skipP (PG e nl 0 (delT R)) [73,78,83,69,82,84]=some (false,PG e nl 0 (delT R)):=by rw[skipP_g];rfl
 have k5:skipP (PG e nl 0 (delT R)) [85,80,68,65,84,69]=some (false,PG e nl 0 (delT R)):=by rw[skipP_g];rfl
 have k6:skipP (PG e nl 0 (delT R)) [68,69,76,69,84,69]=some (true,PG e nl 0 (tk 1 7 wFROM::tk 0 12 [116]::tk 1 14 wWHERE::R)):=by rw[skipP_g];rfl
 have k7:wE (PG e nl 0 (tk 1 7 wFROM::tk 0 12 [116]::tk 1 14 wWHERE::R)) [70,82,79,77]=some (PG e nl 0 (tk 0 12 [116]::tk 1 14 wWHERE::R)):=by
  unfold wE
  rw[want_eq fldFROM,skipP_g]
  rfl
 have hR:TOKs R:=hT.suf ⟨[tk 1 0 wDELETE,tk 1 7 wFROM,tk 0 12 [116],tk 1 14 wWHERE],rfl⟩
 have hN:TOKs (tk 0 12 [116]::tk 1 14 wWHERE::R):=hT.suf ⟨[tk 1 0 wDELETE,tk 1 7 wFROM],rfl⟩
 have k8:nameP (PG e nl 0 (tk 0 12 [116]::tk 1 14 wWHERE::R))=some ([116],PG e nl 0 (tk 1 14 wWHERE::R)):=((name_spec he).good nl _ hN).2
 have k9:skipP (PG e nl 0 (tk 1 14 wWHERE::R)) [87,72,69,82,69]=some (true,PG e nl 0 R):=by rw[skipP_g];rfl
 have k10:xE (PG e nl 0 R)=some (y,PG e nl 0 Q):=by
  have hg:=(pexpr (e:=e) he fldAS fldNU (d:=231) (Nat.le_refl _)).good nl R hR
  rw[hx] at hg
  exact hg.2
 have k11:whereP (PG e nl 0 (tk 1 14 wWHERE::R))=some (.one y.cells,PG e nl 0 Q):=by
  unfold whereP
  rw[k9,Option.bind_some]
  show (xE (PG e nl 0 R)).bind _=_
  rw[k10]
  rfl
 have k12:removeP (PG e nl 0 (tk 1 7 wFROM::tk 0 12 [116]::tk 1 14 wWHERE::R))=some (delX y,PG e nl 0 Q):=by
  unfold removeP
  rw[k7,Option.bind_some,k8,Option.bind_some]
  show (whereP (PG e nl 0 (tk 1 14 wWHERE::R))).bind _=_
  rw[k11]
  rfl
 unfold stmtP stO
 simp only[stF,k1,k2,k3,k4,k5,k6,k12,Option.bind_some,cond_false,cond_true]
theorem stmtV_del {s:List UInt8}(hs:s.length≤900){x:XR}(h:exprV s=.inr x):∃ y,stmtV (delW++s)=some (delX y,0,0)∧Alk x y:=by
 obtain⟨hr,t,ht⟩:=exprV_has h
 obtain⟨T,hT,hx⟩:=exprV_inv h
 have hl:=lex_del hs hT
 obtain⟨hK,-,-⟩:=lexS_ok hl
 obtain⟨y,hy,hA⟩:=expr_sh (e':=((delW++s).length:Int)) (c:=20) zok_nil (Nat.le_refl 20) hx
 rw[List.append_nil] at hy
 refine⟨y,?_,hA⟩
 unfold stmtV
 rw[hl]
 dsimp only
 rw[stmt_del (Int.natCast_nonneg _) hK hy,Option.bind_some]
 rw[cond_f (by rfl)]
 unfold prR
 rw[cond_t (by rfl),rightS_del (x:=y) (t:=t) (by rw[← hA 6000,ht]) (by rw[alk_right hA,hr])]
 rfl
theorem stmtV_del2 {s:List UInt8}(hs:s.length≤900){x:XR}(h:exprV s=.inr x):stmtV (delW++s++[32,116])=some (SR.zero,((21+s.length:Nat):Int),170):=by
 obtain⟨T,hT,hx⟩:=exprV_inv h
 have hl:=lex_del2 hs hT
 obtain⟨hK,-,-⟩:=lexS_ok hl
 obtain⟨y,hy,hA⟩:=expr_sh (e':=((delW++s++[32,116]).length:Int)) (c:=20) (zok_name (t:=tk 0 (21+s.length) [116]) rfl) (Nat.le_refl 20) hx
 unfold stmtV
 rw[hl]
 dsimp only
 rw[stmt_del (Int.natCast_nonneg _) hK hy,Option.bind_some]
 rw[cond_t (by rfl),flP_g,Option.bind_some]
 unfold prR prE
 show (bif decide (((21+s.length:Nat):Int)<0) then _ else some (bif decide ((0:Int)≤((21+s.length:Nat):Int)) then _ else _))=_
 rw[cond_f (decide_eq_false (by omega)),cond_t (decide_eq_true (by omega))]
 rfl
theorem delX_inj {x y:XR}(h:delX x=delX y):x=y:=by
 have:x.cells=y.cells:=by
  have:=congrArg (fun e:SR=>e.cells) h
  simp only[SR.cells,delX,SlS.pv,SlS.one] at this
  simpa using this
 have:=congrArg xrG this
 rw[xrG_of,xrG_of] at this
 injection this
open Classical in
noncomputable def fpD (s:List UInt8):Option (Int ⊕ XR):=if h:∃ a,stmtV s=some (SR.zero,a,170) then some (.inl h.choose) else if h:∃ x,stmtV s=some (delX x,0,0) then some (.inr h.choose) else none
theorem fpD_inl {s:List UInt8}{a:Int}(h:fpD s=some (.inl a)):stmtV s=some (SR.zero,a,170):=by
 unfold fpD at h
 split at h
 ·rename_i hx
  injection h with h
  injection h with h
  subst h
  exact hx.choose_spec
 ·split at h
  ·injection h with h
   cases h
  ·cases h
theorem fpD_inr {s:List UInt8}{x:XR}(h:fpD s=some (.inr x)):stmtV s=some (delX x,0,0):=by
 unfold fpD at h
 split at h
 ·injection h with h
  cases h
 ·split at h
  ·rename_i hx
   injection h with h
   injection h with h
   subst h
   exact hx.choose_spec
  ·cases h
theorem fpD_bad {s:List UInt8}{a:Int}(h:stmtV s=some (SR.zero,a,170)):fpD s=some (.inl a):=by
 have hx:∃ a,stmtV s=some (SR.zero,a,170):=⟨a,h⟩
 unfold fpD
 rw[dif_pos hx]
 have:=h.symm.trans hx.choose_spec
 injection this with this
 injection this with _ this
 injection this with this
 rw[← this]
theorem fpD_del {s:List UInt8}{x:XR}(h:stmtV s=some (delX x,0,0)):fpD s=some (.inr x):=by
 have hn:¬ ∃ a,stmtV s=some (SR.zero,a,170):=by
  rintro ⟨a,ha⟩
  rw[h] at ha
  injection ha with ha
  injection ha with _ ha
  injection ha with _ ha
  exact absurd ha (by decide)
 have hx:∃ x,stmtV s=some (delX x,0,0):=⟨x,h⟩
 unfold fpD
 rw[dif_neg hn,dif_pos hx]
 have:=h.symm.trans hx.choose_spec
 injection this with this
 injection this with this
 rw[← delX_inj this]
def feD (s:List UInt8):Option (Int ⊕ XR):=some (exprV s)
theorem ok_exK:FOK NGs Ws 9 (tPxK feD):=fok_wk ok_pE (tPxK_nat _) rfl fun xs r h=>by
 simp only[tPxK] at h
 split at h
 ·rename_i s
  unfold prK feD at h
  rw[Option.bind_some] at h
  refine Eq.trans (b:=some (pxV (pxRes (exprV s)))) rfl ?_
  cases hv:exprV s with
  |inl a=>rw[hv] at h;exact h
  |inr x=>rw[hv] at h;exact h
 ·cases h
theorem ok_stK:FOK NGs Ws 13 (tPd fpD):=fok_wk ok_parse (tPd_nat _) rfl fun xs r h=>by
 simp only[tPd] at h
 split at h
 ·rename_i s
  unfold prK at h
  obtain⟨o,ho,h⟩:=Option.bind_eq_some_iff.1 h
  refine Eq.trans (b:=(stmtV s).bind fun r=>some (tPV r)) rfl ?_
  cases o with
  |inl a=>rw[fpD_inl ho];exact h
  |inr x=>rw[fpD_inr ho];exact h
 ·cases h
theorem lenA_eq {R:Type}{a b:List UInt8}{k:List UInt8→Option R}(h:a.length+b.length≤100000):lenA a b k=k (a++b):=by
 unfold lenA
 rw[cond_t (decide_eq_true (by omega))]
theorem prK_l {R:Type}{a:Int}{kl:Int→Option R}{kr:XR→Option R}:prK (some (.inl a)) kl kr=kl a:=rfl
theorem prK_r {R:Type}{x:XR}{kl:Int→Option R}{kr:XR→Option R}:prK (some (.inr x)) kl kr=kr x:=rfl
theorem brR_true {s:List UInt8}(hs:s.length≤900){x:XR}(h:exprV s=.inr x):brR fpD (smD 6000) s x=some (.bool true):=by
 obtain⟨-,t,ht⟩:=exprV_has h
 obtain⟨y,hy,hA⟩:=stmtV_del hs h
 have hd:delW.length=20:=rfl
 unfold brR
 rw[lenA_eq (by rw[hd];omega),fpD_del hy,prK_r,lenA_eq (by rw[hd];omega),lenA_eq (by rw[List.length_append,hd];simp only[List.length_cons,List.length_nil];omega),fpD_bad (stmtV_del2 hs h),prK_l,tB_t (alk_same hA ht).2,wrapI_of (by omega) (by omega)]
 congr 2
 exact beq_iff_eq.2 (by omega)
theorem bl_true (s:List UInt8):prun (en (lBr feD fpD (smD 6000))) hh0 0 false Tryz.f5 [.str s]=some (.bool true):=by
 rw[br_raw]
 unfold feD
 cases hv:exprV s with
 |inl a =>
  rw[prK_l]
  cases decide ((900:Int)<(s.length:Int))<;>rfl
 |inr x =>
  rw[prK_r]
  by_cases hs:s.length≤900
  ·rw[decide_eq_false (by omega)]
   show brX (fun s=>some (exprV s)) fpD (smD 6000) s x=_
   obtain⟨-,t,ht⟩:=exprV_has hv
   unfold brX
   rw[lenA_eq (by simp only[List.length_cons,List.length_nil];omega),lenA_eq (by simp only[List.length_append,List.length_cons,List.length_nil];omega)]
   dsimp only
   rcases par_V hs hv with ⟨a,ha⟩|⟨y,hy,hA⟩
   ·rw[ha,prK_l]
    exact brR_true hs hv
   ·rw[hy,prK_r,tB_t (alk_same hA ht).1]
    exact brR_true hs hv
  ·rw[decide_eq_true (by omega)]
   rfl
theorem ok_lBr:AllOK NGs Ws (lBr feD fpD (smD 6000)):=allOK_cons ok_first19 (allOK_cons ok_exK (allOK_cons ok_stK (allOK_cons ok_smx allOK_nil)))
theorem blLaw (W:World)(s:ByteArray)(hW:Ws W)(hng:NGs≤W.heap.size) :
  Calls Tryz.prog 5 #[.string s] W fun e W'=>e=.returned (.bool true)∧Below W.heap.size W W' :=
 law_run (vs:=[.string s]) (xs:=[.str s.data.toList]) woks ok_lBr Tryz.func5 hW hng (by simp only[RelT,RelD];exact⟨_,_,rfl,by simp,rfl⟩) (bl_true s.data.toList)
end Go.Proofs.YtkpfigikffphdaaGreatDoor
end
