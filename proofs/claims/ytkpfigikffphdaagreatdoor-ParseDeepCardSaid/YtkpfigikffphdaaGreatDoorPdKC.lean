/-
  Lemmas, part K3: what the claim needs of the texts of wip/tpl.
-/
import Derived.Laws.RangeAny
import Derived.LoopTactic
import Derived.Test.YtkpfigikffphdaaGreatDoorPxKB
set_option linter.unusedVariables false
set_option linter.unusedSimpArgs false
section
set_option maxRecDepth 100000
namespace Go.Proofs.YtkpfigikffphdaaGreatDoor
open Go.RowKit
def finD (c a z:Int):Option Bool:=some (bif decide (a≤c) then decide (c≤z) else false)
theorem ok_in17:FOK NGs Ws 56 (tIn finD):=fokH woks allOK_nil allH_nil allI_nil (h:=hh0) Tryz.func56 rfl (by decide) (tIn_nat _) fun xs r h=>by
 simp only[tIn] at h
 split at h
 ·refine⟨0,(in17_raw 0 _ _ _).trans ?_⟩
  simp only[finD,Option.bind_some] at h
  exact h
 ·cases h
theorem ok_k17:FOK NGs Ws 58 (tWs0 keysD):=fok_tWs0 woks allOK_nil allH_nil (h:=hh0) Tryz.func58 rfl (by decide) fun r h=>⟨0,by
 unfold keysD at h
 injection h with h
 subst h
 kernel_rfl⟩
def FLd:FL2:=⟨finD,rvD,parD,keysD⟩
theorem slS_eq {R:Type}{s:List UInt8}{a e:Nat}{k:List UInt8→Option R}(h1:a≤e)(h2:e≤s.length):slS s (a:Int) (e:Int) k=k ((s.drop a).take (e-a)):=by
 unfold slS
 rw[cond_t (by simp only[Bool.and_eq_true,decide_eq_true_eq];omega),Int.toNat_natCast,Int.toNat_natCast,cond_t (by simp only[Bool.and_eq_true,decide_eq_true_eq];omega),List.drop_take]
theorem tw_take {p:UInt8→Bool}(l:List UInt8):l.take (l.takeWhile p).length=l.takeWhile p:=(List.prefix_iff_eq_take.1 (List.takeWhile_prefix p)).symm
section
variable {F:FL2} {fu:Nat} {s:List UInt8} {A:TA} {a:Int} {K:St→Option PV}
theorem rowI {p:UInt8→Bool}{pa:List Nat}{b:Nat}{E:Int→Option PV}
  (hst:∀ (j:Nat) (K2:St→Option PV),stepP (enL2 F) hL2 fu false fL2 pa (fun st=>pnorm (hL2.loop.lookup 0) st K) (frI s A (j:Int) a) (fun st=>pnorm (hL2.loop.lookup b) st K2) =
   bif decide ((j:Int)<(s.length:Int)) then ixB s (j:Int) fun v=>bif p v then K2 (frI s A (IntKind.i64.wrap ((j:Int)+1)) a) else E j else E j) (hs:s.length≤100000) :
  ∀ (k j n:Nat),j+k=s.length→k<n→lI F fu pa b K n (frI s A (j:Int) a)=E ((j+((s.drop j).takeWhile p).length:Nat):Int)
 |k,j,0,_,h=>by omega
 |0,j,n+1,hj,_=>by
  unfold lI
  rw[loopP_succ,hst,cond_f (decide_eq_false (by omega)),List.drop_of_length_le (by omega)]
  rfl
 |k+1,j,n+1,hj,hn=>by
  have hc:=List.getElem?_eq_getElem (l:=s) (i:=j) (by omega)
  have hd:=List.drop_eq_getElem_cons (l:=s) (i:=j) (by omega)
  generalize s[j]=c at hc hd
  have ih:=rowI (p:=p) (E:=E) hst hs k (j+1) n (by omega) (by omega)
  unfold lI at ih ⊢
  rw[loopP_succ,hst,cond_t (decide_eq_true (by omega)),ixB_eq hc,hd,List.takeWhile_cons]
  cases hp:p c with
  |false=>simp only[cond_false,Bool.false_eq_true,if_false];rfl
  |true =>
   rw[cond_true,if_pos rfl,wrapI_of (by omega) (by omega),show (j:Int)+1=((j+1:Nat):Int) by omega]
   refine ih.trans ?_
   rw[List.length_cons,show j+(List.length ((s.drop (j+1)).takeWhile p)+1)=j+1+List.length ((s.drop (j+1)).takeWhile p) by omega]
theorem ix_congr {R:Type}{i:Int}{k k':UInt8→Option R}(h:∀ v,s[i.toNat]? = some v→k v=k' v):ixB s i k=ixB s i k':=by
 unfold ixB
 congr 1
 cases hv:s[i.toNat]? with
 |none=>rfl
 |some v=>exact h v hv
theorem lDig_fin (v:UInt8):finD (v.toNat:Int) 48 57=some (lDig v):=by
 unfold finD lDig
 cases decide ((48:Int)≤(v.toNat:Int))<;>rfl
theorem lGre_fin (v:UInt8):finD (v.toNat:Int) 65 90=some (lGre v):=by
 unfold finD lGre
 cases decide ((65:Int)≤(v.toNat:Int))<;>rfl
theorem sm_fin (v:UInt8):finD (v.toNat:Int) 97 122=some (decide (97≤(v.toNat:Int))&&decide ((v.toNat:Int)≤122)):=by
 unfold finD
 cases decide ((97:Int)≤(v.toNat:Int))<;>rfl
theorem step6 (j:Nat)(K2:St→Option PV):stepP (enL2 FLd) hL2 fu false fL2 p6 (fun st=>pnorm (hL2.loop.lookup 0) st K) (frI s A (j:Int) a) (fun st=>pnorm (hL2.loop.lookup 6) st K2) =
  bif decide ((j:Int)<(s.length:Int)) then ixB s (j:Int) fun v=>bif lDig v then K2 (frI s A (IntKind.i64.wrap ((j:Int)+1)) a) else numE FLd s A a K j else numE FLd s A a K j:=by
 rw[st6]
 congr 1
 refine ix_congr fun v _=>?_
 show (finD (v.toNat:Int) 48 57).bind _=_
 rw[lDig_fin]
 rfl
theorem step4 (j:Nat)(K2:St→Option PV):stepP (enL2 FLd) hL2 fu false fL2 p4 (fun st=>pnorm (hL2.loop.lookup 0) st K) (frI s A (j:Int) a) (fun st=>pnorm (hL2.loop.lookup 4) st K2) =
  bif decide ((j:Int)<(s.length:Int)) then ixB s (j:Int) fun v=>bif lDig v then K2 (frI s A (IntKind.i64.wrap ((j:Int)+1)) a) else digE FLd fu s A j a K else digE FLd fu s A j a K:=by
 rw[st4]
 congr 1
 refine ix_congr fun v _=>?_
 show (finD (v.toNat:Int) 48 57).bind _=_
 rw[lDig_fin]
 rfl
noncomputable def greE (F:FL2)(fu:Nat)(s:List UInt8)(A:TA)(a:Int)(K:St→Option PV)(i:Int):Option PV:=F.fk.bind fun r=>lI F fu p10 10 K fu (frKy s A i a false r.1 r.2.1 r.2.2 0)
theorem step8 (j:Nat)(K2:St→Option PV):stepP (enL2 FLd) hL2 fu false fL2 p8 (fun st=>pnorm (hL2.loop.lookup 0) st K) (frI s A (j:Int) a) (fun st=>pnorm (hL2.loop.lookup 8) st K2) =
  bif decide ((j:Int)<(s.length:Int)) then ixB s (j:Int) fun v=>bif lGre v then K2 (frI s A (IntKind.i64.wrap ((j:Int)+1)) a) else greE FLd fu s A a K j else greE FLd fu s A a K j:=by
 rw[st8]
 show (bif _ then _ else _)=_
 congr 1
 refine ix_congr fun v _=>?_
 show (finD (v.toNat:Int) 65 90).bind _=_
 rw[lGre_fin]
 rfl
theorem step12 (j:Nat)(K2:St→Option PV):stepP (enL2 FLd) hL2 fu false fL2 p12 (fun st=>pnorm (hL2.loop.lookup 0) st K) (frI s A (j:Int) a) (fun st=>pnorm (hL2.loop.lookup 12) st K2) =
  bif decide ((j:Int)<(s.length:Int)) then ixB s (j:Int) fun v=>bif lSma v then K2 (frI s A (IntKind.i64.wrap ((j:Int)+1)) a) else namE s A j a K else namE s A j a K:=by
 rw[st12]
 dsimp only
 congr 1
 refine ix_congr fun v hv=>?_
 rw[Int.toNat_natCast] at hv
 show (finD (v.toNat:Int) 97 122).bind _=_
 rw[sm_fin,Option.bind_some,lSma]
 cases decide ((97:Int)≤(v.toNat:Int))&&decide ((v.toNat:Int)≤122) with
 |true=>rfl
 |false =>
  simp only[Bool.not_false,cond_true]
  rw[ixB_eq hv]
  show (finD (v.toNat:Int) 48 57).bind _=_
  rw[lDig_fin,Option.bind_some]
  cases lDig v with
  |true=>rfl
  |false =>
   simp only[Bool.not_false,cond_true,Bool.false_or]
   rw[ixB_eq hv]
theorem qsc_two {c d:UInt8}{t:List UInt8}:qsc (c::d::t)=if c=39 then (if d=39 then (qsc t).map fun r=>(39::39::r.1,39::r.2.1,r.2.2) else some ([],[],d::t)) else (qsc (d::t)).map fun r=>(c::r.1,c::r.2.1,r.2.2):=rfl
def qEnd (s:List UInt8)(j:Nat):Nat:=match qsc (s.drop j) with
 |none=>s.length
 |some r=>j+r.1.length
theorem strI (hs:s.length≤100000):∀ (k j n:Nat),j+k=s.length→k<n→lI F fu p2 2 K n (frI s A (j:Int) a)=strE F s A a K ((qEnd s j:Nat):Int)
 |k,j,0,_,h=>by omega
 |0,j,n+1,hj,_=>by
  unfold lI qEnd
  rw[loopP_succ,st2,List.drop_of_length_le (by omega)]
  dsimp only
  rw[cond_f (decide_eq_false (by omega)),qsc,show j=s.length by omega]
 |k+1,j,n+1,hj,hn=>by
  have hc:=List.getElem?_eq_getElem (l:=s) (i:=j) (by omega)
  have hd:=List.drop_eq_getElem_cons (l:=s) (i:=j) (by omega)
  generalize s[j]=c at hc hd
  have i1:=fun hk=>strI hs k (j+1) n (by omega) hk
  have i2:=fun hk h1=>strI hs (k-1) (j+2) n hk h1
  unfold lI at i1 i2 ⊢
  rw[loopP_succ,st2]
  dsimp only
  rw[cond_t (decide_eq_true (by omega)),ixB_eq hc,wrapI_of (x:=(j:Int)+1) (by omega) (by omega),show (j:Int)+1=((j+1:Nat):Int) by omega,ixB_eq hc,bne,show ((c.toNat:Int)==39)=(c==39) from n_eq c 39,Bool.not_not]
  by_cases h39:c=39
  ·rw[h39,beq_self_eq_true,Bool.not_true]
   rw[h39] at hd
   simp only[cond_true,cond_false]
   rcases hk:s.drop (j+1) with _|⟨d,t⟩
   ·have hk2:=congrArg List.length hk
    rw[List.length_drop,List.length_nil] at hk2
    rw[decide_eq_false (by omega)]
    simp only[cond_false]
    unfold qEnd
    rw[hd,hk]
    rfl
   ·have hk2:=congrArg List.length hk
    rw[List.length_drop,List.length_cons] at hk2
    have hx:s[j+1]? = some d:=by rw[← List.head?_drop,hk];rfl
    rw[decide_eq_true (by omega),cond_true,ixB_eq hx,show ((d.toNat:Int)==39)=(d==39) from n_eq d 39]
    by_cases hd39:d=39
    ·rw[hd39,beq_self_eq_true,cond_true,wrapI_of (by omega) (by omega),show ((j+1:Nat):Int)+1=((j+2:Nat):Int) by omega]
     have:=i2 (by omega) (by omega)
     refine this.trans ?_
     unfold qEnd
     rw[hd,hk,qsc_two,if_pos rfl,if_pos hd39]
     have e:s.drop (j+2)=t:=by
      have:=congrArg List.tail hk
      rwa [List.tail_drop] at this
     rw[e]
     cases qsc t with
     |none=>rfl
     |some r=>simp only[Option.map_some,List.length_cons];congr 2;omega
    ·rw[beq_eq_false_iff_ne.2 hd39,cond_false]
     unfold qEnd
     rw[hd,hk,qsc_two,if_pos rfl,if_neg hd39]
     rfl
  ·rw[beq_eq_false_iff_ne.2 h39,Bool.not_false]
   simp only[cond_true,cond_false]
   refine (i1 (by omega)).trans ?_
   unfold qEnd
   rw[hd]
   rcases hk:s.drop (j+1) with _|⟨d,t⟩
   ·rw[show qsc [c]=none by rw[qsc,if_neg h39]]
    rfl
   ·rw[qsc_two,if_neg h39]
    cases qsc (d::t) with
    |none=>rfl
    |some r=>simp only[Option.map_some,List.length_cons];congr 2;omega
theorem keyI (hs:s.length≤100000){a i:Nat}(ha:a≤i)(hi:i≤s.length):∀ (l m:List (List UInt8)) (n:Nat) (kn:Bool),keysL=m++l→l.length<n →
  lI F fu p10 10 K n (frKy s A (i:Int) (a:Int) kn (some false) keysL.length (keysL.flatMap stC) (m.length:Int))=keyE s A (i:Int) (a:Int) K (kn||conA l ((s.drop a).take (i-a)))
 |l,m,0,_,_,h=>by omega
 |[],m,n+1,kn,hm,_=>by
  unfold lI
  rw[loopP_succ,st10,cond_f (decide_eq_false (by rw[hm,List.append_nil];omega))]
  cases kn<;>rfl
 |w::l,m,n+1,kn,hm,hn=>by
  have hlen:keysL.length=m.length+(l.length+1):=by rw[hm,List.length_append,List.length_cons]
  have hx:keysL[m.length]? = some w:=by rw[hm,List.getElem?_append_right (Nat.le_refl _),Nat.sub_self];rfl
  have ih:=fun kn=>keyI hs ha hi l (m++[w]) n kn (by rw[hm,List.append_assoc];rfl) (by simp only[List.length_cons] at hn;omega)
  have h44:keysL.length=44:=rfl
  unfold lI at ih ⊢
  rw[loopP_succ,st10,cond_t (decide_eq_true (by omega)),chk,cond_t (by rw[decide_eq_true (by omega),decide_eq_true (by omega)];rfl),Int.toNat_natCast,flat_at stC_len hx,wrapI_of (by omega) (by omega),show (m.length:Int)+1=((m++[w]).length:Int) by rw[List.length_append];simp]
  simp only[stC,List.head?_cons,Option.bind_some,PV.asStr]
  cases kn with
  |false =>
   rw[Bool.not_false,cond_true,slS_eq ha hi]
   refine (ih _).trans ?_
   rw[Bool.false_or]
   have:((s.drop a).take (i-a)==w)=(w==(s.drop a).take (i-a)):=by rw[Bool.eq_iff_iff,beq_iff_eq,beq_iff_eq,eq_comm]
   rw[show conA (w::l) ((s.drop a).take (i-a))=((s.drop a).take (i-a)==w||conA l ((s.drop a).take (i-a))) from rfl,this]
  |true =>
   rw[Bool.not_true,cond_false]
   exact ih true
end
theorem qsc_dbl {r u:List UInt8}(h:Dbl r u){x:List UInt8}(hx:x.head? ≠ some 39):qsc (r++39::x)=some (r,u,x):=by
 induction h with
 |nil =>
  rcases x with _|⟨d,t⟩
  ·rfl
  ·have:d≠39:=by simpa using hx
   rw[List.nil_append,qsc_two,if_pos rfl,if_neg this]
 |q h ih=>rw[List.cons_append,List.cons_append,qsc_two,if_pos rfl,if_pos rfl,ih];rfl
 | @c c r u hc h ih =>
  rw[List.cons_append]
  rcases hr:r++39::x with _|⟨d,t⟩
  ·cases r<;>cases hr
  ·rw[qsc_two,if_neg hc,← hr,ih];rfl
theorem qAll_qt {r u:List UInt8}(h:Dbl r u)(hl:r.length≤4000):qAll (39::(r++[39]))=some u:=by
 rw[qAll,if_pos rfl,qsc_dbl h (by simp),Option.bind_some]
 rw[cond_t]
 simp only[List.isEmpty_nil,Bool.true_and,decide_eq_true_eq,List.length_append,List.length_cons,List.length_nil]
 omega
theorem take_app {s:List UInt8}{a j:Nat}(ha:a≤j)(hj:j≤s.length){r x:List UInt8}(h:s.drop j=r++39::x):(s.drop a).take (j+r.length+1-a)=(s.drop a).take (j-a)++(r++[39]):=by
 have e:s.drop a=(s.drop a).take (j-a)++(r++39::x):=by
  rw[← h,show j=a+(j-a) by omega,← List.drop_drop,show a+(j-a)-a=j-a by omega,List.take_append_drop]
 have hl:((s.drop a).take (j-a)).length=j-a:=by rw[List.length_take,List.length_drop];omega
 generalize (s.drop a).take (j-a)=p at e hl
 rw[e,show j+r.length+1-a=p.length+(r.length+1) by omega,List.take_length_add_append]
 congr 1
 rw[show r++39::x=(r++[39])++x by simp,List.take_left' (by simp)]
theorem numText_pre (s:List UInt8):numText s <+: s:=by
 have hp:=List.takeWhile_append_dropWhile (p:=lDig) (l:=s)
 have hpre:=List.takeWhile_prefix (p:=lDig) (l:=s)
 have hs:s.takeWhile lDig++s.drop (s.takeWhile lDig).length=s:=by
  have:=List.take_append_drop (s.takeWhile lDig).length s
  rwa [tw_take] at this
 unfold numText
 split
 ·rename_i v w t h
  cases hc:v==46&&lDig w with
  |false=>exact hpre
  |true =>
   rw[Bool.and_eq_true,beq_iff_eq] at hc
   rw[h,hc.1] at hs
   rw[cond_true]
   conv=>rhs;rw[← hs]
   rw[List.prefix_append_right_inj,List.cons_prefix_cons]
   exact⟨rfl,List.takeWhile_prefix _⟩
 ·exact hpre
section
variable {fu:Nat} {s:List UInt8} {A:TA} {K:St→Option PV}
def tokE (s:List UInt8)(A:TA)(K:St→Option PV)(i:Nat)(o:Option (TR×Nat)):Option PV:=match o with
 |none=>l2F i
 |some r=>finT s A K ⟨r.1.k,i,r.1.t,r.1.vk,r.1.vn,r.1.vc,r.1.vs⟩ ((i+r.2:Nat):Int)
theorem str_tok (hs:s.length≤2000)(hfu:s.length<fu){a j:Nat}(ha:a≤j)(hj:j≤s.length){V:List UInt8→Val×Bool}(hV:∀ r u,Dbl r u→r.length≤2000→rvD ((s.drop a).take (j-a)++(r++[39]))=some (V u)) :
  lI FLd fu p2 2 K fu (frI s A (j:Int) (a:Int))=tokE s A K a ((qsc (s.drop j)).bind fun r=>bif (V r.2.1).2 then some (vTok (V r.2.1).1,r.1.length+(j-a)+1) else none):=by
 rw[strI (by omega) (s.length-j) j fu (by omega) (by omega)]
 unfold qEnd
 cases hq:qsc (s.drop j) with
 |none =>
  dsimp only
  unfold strE
  rw[cond_t (decide_eq_true (Int.le_refl _))]
  rfl
 |some q =>
  obtain⟨h1,h2,h3⟩:=qsc_ok _ _ q.1 q.2.1 q.2.2 (Nat.le_refl _) hq
  have hl:=congrArg List.length h2
  rw[List.length_drop,List.length_append,List.length_cons] at hl
  dsimp only
  unfold strE
  rw[cond_f (decide_eq_false (by omega)),wrapI_of (by omega) (by omega),show ((j+q.1.length:Nat):Int)+1=((j+q.1.length+1:Nat):Int) by omega,slS_eq (by omega) (by omega),take_app ha hj h2]
  show (rvD _).bind _=_
  rw[hV q.1 q.2.1 h1 (by omega),Option.bind_some,Option.bind_some]
  cases (V q.2.1).2 with
  |false=>rfl
  |true =>
   simp only[Bool.not_true,cond_false,cond_true,tokE,vTok]
   rw[show a+(q.1.length+(j-a)+1)=j+q.1.length+1 by omega]
theorem num_tok (hs:s.length≤2000){a e:Nat}(ha:a≤e)(he:e≤s.length){x:List UInt8}(hx:(s.drop a).take (e-a)=x):numE FLd s A (a:Int) K (e:Int)=tokE s A K a ((parseP x).map fun p=>(nTok p,e-a)):=by
 have hxl:x.length≤4000:=by rw[← hx,List.length_take,List.length_drop];omega
 unfold numE
 rw[slS_eq ha he,hx]
 show (parD x).bind _=_
 unfold parD
 rw[cond_t (decide_eq_true hxl),Option.bind_some]
 cases parseP x with
 |none=>rfl
 |some p =>
  simp only[Option.elim_some,Option.isSome_some,Bool.not_true,cond_false,Option.map_some,tokE,nTok]
  show (bif decide ((0:Int)<(p.2:Int)) then _ else _)=_
  rw[show decide ((0:Int)<(p.2:Int))=decide (0<p.2) by by_cases h:0<p.2<;>simp[h],show a+(e-a)=e by omega]
  cases decide (0<p.2)<;>rfl
theorem dig_tok (hs:s.length≤2000)(hfu:s.length<fu){i:Nat}(hi:i≤s.length):lI FLd fu p4 4 K fu (frI s A (i:Int) (i:Int))=tokE s A K i ((parseP (numText (s.drop i))).map fun p=>(nTok p,(numText (s.drop i)).length)):=by
 rw[rowI (p:=lDig) (E:=fun j=>digE FLd fu s A j i K) step4 (by omega) (s.length-i) i fu (by omega) (by omega)]
 have h1:=tw_len (p:=lDig) (s.drop i)
 rw[List.length_drop] at h1
 have hpre:=numText_pre (s.drop i)
 have hnl:=hpre.length_le
 rw[List.length_drop] at hnl
 have hend:∀ e:Nat,e=i+(numText (s.drop i)).length→numE FLd s A (i:Int) K (e:Int)=tokE s A K i ((parseP (numText (s.drop i))).map fun p=>(nTok p,(numText (s.drop i)).length)):=fun e he=>by
  rw[num_tok hs (a:=i) (e:=e) (x:=numText (s.drop i)) (by omega) (by omega) (by rw[he,show i+(numText (s.drop i)).length-i=(numText (s.drop i)).length by omega];exact (List.prefix_iff_eq_take.1 hpre).symm),he,show i+(numText (s.drop i)).length-i=(numText (s.drop i)).length by omega]
 generalize hm:((s.drop i).takeWhile lDig).length=m at h1 ⊢
 have hdd:(s.drop i).drop m=s.drop (i+m):=by rw[List.drop_drop]
 unfold digE
 have hnt:numText (s.drop i)=match s.drop (i+m) with
  |v::w::t=>bif v==46&&lDig w then (s.drop i).takeWhile lDig++46::(w::t).takeWhile lDig else (s.drop i).takeWhile lDig
  |_=>(s.drop i).takeWhile lDig:=by
  unfold numText
  rw[hm,hdd]
  rcases s.drop (i+m) with _|⟨v,_|⟨w,t⟩⟩<;>rfl
 rw[wrapI_of (x:=((i+m:Nat):Int)+1) (by omega) (by omega),show ((i+m:Nat):Int)+1=((i+m+1:Nat):Int) by omega]
 rcases hk:s.drop (i+m) with _|⟨v,_|⟨w,t⟩⟩
 ·have:=congrArg List.length hk
  rw[List.length_drop,List.length_nil] at this
  rw[cond_f (decide_eq_false (by omega))]
  refine hend _ ?_
  rw[hnt,hk,hm]
 ·have:=congrArg List.length hk
  rw[List.length_drop,List.length_cons,List.length_nil] at this
  rw[cond_f (decide_eq_false (by omega))]
  refine hend _ ?_
  rw[hnt,hk,hm]
 ·have h2:=congrArg List.length hk
  rw[List.length_drop,List.length_cons,List.length_cons] at h2
  have hv:s[i+m]? = some v:=by rw[← List.head?_drop,hk];rfl
  have hk1:s.drop (i+m+1)=w::t:=by
   have:=congrArg List.tail hk
   rwa [List.tail_drop] at this
  have hw:s[i+m+1]? = some w:=by rw[← List.head?_drop,hk1];rfl
  rw[cond_t (decide_eq_true (by omega)),ixB_eq hv,show ((v.toNat:Int)==46)=(v==46) from n_eq v 46]
  rw[hk] at hnt
  dsimp only at hnt
  cases hv46:v==46 with
  |false =>
   rw[hv46,Bool.false_and,cond_false] at hnt
   rw[cond_false]
   refine hend _ ?_
   rw[hnt,hm]
  |true =>
   rw[cond_true,ixB_eq hw]
   show (finD (w.toNat:Int) 48 57).bind _=_
   rw[lDig_fin,Option.bind_some]
   cases hlw:lDig w with
   |false =>
    rw[hv46,hlw,Bool.true_and,cond_false] at hnt
    rw[cond_false]
    refine hend _ ?_
    rw[hnt,hm]
   |true =>
    rw[hv46,hlw,Bool.true_and,cond_true] at hnt
    rw[cond_true,rowI (p:=lDig) (E:=fun j=>numE FLd s A i K j) step6 (by omega) (s.length-(i+m+1)) (i+m+1) fu (by omega) (by omega),hk1]
    refine hend _ ?_
    rw[hnt,List.length_append,List.length_cons,hm]
    omega
theorem gre_tok (hs:s.length≤2000)(hfu:s.length+50<fu){i:Nat}(hi:i≤s.length):lI FLd fu p8 8 K fu (frI s A (i:Int) (i:Int))=tokE s A K i (bif conA keysL ((s.drop i).takeWhile lGre) then some (⟨1,0,(s.drop i).takeWhile lGre,0,0,0,[]⟩,((s.drop i).takeWhile lGre).length) else none):=by
 rw[rowI (p:=lGre) (E:=fun j=>greE FLd fu s A i K j) step8 (by omega) (s.length-i) i fu (by omega) (by omega)]
 have h1:=tw_len (p:=lGre) (s.drop i)
 rw[List.length_drop] at h1
 have htk:=tw_take (p:=lGre) (s.drop i)
 generalize (s.drop i).takeWhile lGre=x at h1 htk ⊢
 unfold greE
 show (some _).bind _=_
 rw[Option.bind_some]
 have:=keyI (F:=FLd) (fu:=fu) (A:=A) (K:=K) (s:=s) (by omega) (a:=i) (i:=i+x.length) (by omega) (by omega) keysL [] fu false rfl (by show 44<fu;omega)
 refine this.trans ?_
 rw[show i+x.length-i=x.length by omega,htk,Bool.false_or]
 unfold keyE
 cases conA keysL x with
 |false=>rfl
 |true =>
  simp only[Bool.not_true,cond_false,cond_true,tokE]
  rw[slS_eq (by omega) (by omega),show i+x.length-i=x.length by omega,htk]
theorem sma_tok (hs:s.length≤2000)(hfu:s.length<fu){i:Nat}(hi:i≤s.length):lI FLd fu p12 12 K fu (frI s A (i:Int) (i:Int))=tokE s A K i (bif decide (((s.drop i).takeWhile lSma).length≤24) then some (⟨0,0,(s.drop i).takeWhile lSma,0,0,0,[]⟩,((s.drop i).takeWhile lSma).length) else none):=by
 rw[rowI (p:=lSma) (E:=fun j=>namE s A j i K) step12 (by omega) (s.length-i) i fu (by omega) (by omega)]
 have h1:=tw_len (p:=lSma) (s.drop i)
 rw[List.length_drop] at h1
 have htk:=tw_take (p:=lSma) (s.drop i)
 generalize (s.drop i).takeWhile lSma=x at h1 htk ⊢
 unfold namE
 rw[wrapI_of (by omega) (by omega),show ((i+x.length:Nat):Int)-(i:Int)=(x.length:Int) by omega]
 by_cases h:x.length≤24
 ·rw[cond_f (decide_eq_false (by omega)),cond_t (decide_eq_true h),slS_eq (by omega) (by omega),show i+x.length-i=x.length by omega,htk]
  rfl
 ·rw[cond_t (decide_eq_true (by omega)),cond_f (decide_eq_false h)]
  rfl
theorem orI_eq {S:Type}(v:Int)(x y:S):∀ l:List Int,orI v x y l=bif l.any (fun c=>v==c) then x else y
 |[]=>rfl
 |[c]=>by
  rw[orI,List.any_cons,List.any_nil,Bool.or_false]
 |c::d::l=>by
  have e:orI v x y (c::d::l)=bif v==c then (bif v==c then x else y) else orI v x y (d::l):=rfl
  have e2:(c::d::l).any (fun c=>v==c)=(v==c||(d::l).any fun c=>v==c):=rfl
  rw[e,orI_eq v x y (d::l),e2]
  cases v==c<;>rfl
theorem ten_all:∀ n:Fin 256,n.val≠60→n.val≠62→([40,41,44,46,43,45,42,47,37,61].any fun c:Int=>(n.val:Int)==c)=sgC (UInt8.ofNat n.val):=by decide +kernel
theorem ten_eq {c:UInt8}(h1:c≠60)(h2:c≠62):([40,41,44,46,43,45,42,47,37,61].any fun d:Int=>(c.toNat:Int)==d)=sgC c:=by
 have:=ten_all ⟨c.toNat,c.toNat_lt⟩ (fun h=>h1 (UInt8.toNat_inj.1 h)) (fun h=>h2 (UInt8.toNat_inj.1 h))
 simpa using this
theorem sg2_eq (c d:UInt8):conA sg2 [c,d]=((c==60&&(d==61||d==62))||(c==62&&d==61)):=by
 rw[Bool.eq_iff_iff,conA_iff]
 simp only[sg2,List.mem_cons,List.cons.injEq,and_true,List.not_mem_nil,or_false,Bool.or_eq_true,Bool.and_eq_true,beq_iff_eq]
 constructor
 ·rintro (h|h|h)<;>simp[h.1,h.2]
 ·rintro (⟨h1,h2|h2⟩|⟨h1,h2⟩)<;>simp[h1,h2]
theorem sig_one {i:Nat}{c:UInt8}{t:List UInt8}(hd:s.drop i=c::t)(hi:i<s.length):sigE s A (i:Int) K ((i+1:Nat):Int)=tokE s A K i (some (⟨3,0,[c],0,0,0,[]⟩,1)):=by
 unfold sigE
 rw[slS_eq (by omega) (by omega),show i+1-i=1 by omega,hd]
 rfl
theorem sig_two {i:Nat}{c d:UInt8}{t:List UInt8}(hd:s.drop i=c::d::t)(hi:i+1<s.length):sigE s A (i:Int) K ((i+2:Nat):Int)=tokE s A K i (some (⟨3,0,[c,d],0,0,0,[]⟩,2)):=by
 unfold sigE
 rw[slS_eq (by omega) (by omega),show i+2-i=2 by omega,hd]
 rfl
theorem sgE_eq (hs:s.length≤2000){i:Nat}{c:UInt8}{t:List UInt8}(hd:s.drop i=c::t)(hi:i<s.length)(n:Int) :
  sgE s A ((i+1:Nat):Int) (i:Int) K (c.toNat:Int) n=bif (c==60&&(n==61||n==62))||(c==62&&n==61) then sigE s A (i:Int) K ((i+2:Nat):Int) else tokE s A K i (bif sgC c then some (⟨3,0,[c],0,0,0,[]⟩,1) else none):=by
 unfold sgE
 dsimp only
 rw[orI_eq,sig_one hd hi,wrapI_of (by omega) (by omega),show ((i+1:Nat):Int)+1=((i+2:Nat):Int) by omega,show ((c.toNat:Int)==60)=(c==60) from n_eq c 60,show ((c.toNat:Int)==62)=(c==62) from n_eq c 62]
 by_cases h60:c=60
 ·subst h60
  rw[show sgC 60=true from by decide]
  simp only[beq_self_eq_true,cond_true,Bool.true_and]
  cases n==61<;>cases n==62<;>rfl
 ·rw[beq_eq_false_iff_ne.2 h60]
  by_cases h62:c=62
  ·subst h62
   rw[show sgC 62=true from by decide]
   simp only[beq_self_eq_true,cond_true,cond_false,Bool.true_and,Bool.false_and,Bool.false_or]
   cases n==61<;>rfl
  ·rw[beq_eq_false_iff_ne.2 h62,ten_eq h60 h62]
   simp only[cond_false,Bool.false_and,Bool.false_or]
   cases sgC c<;>rfl
theorem sig_tok (hs:s.length≤2000){i:Nat}{c:UInt8}{t:List UInt8}(hd:s.drop i=c::t)(hi:i<s.length):sigB s A (i:Int) (i:Int) K (c.toNat:Int)=tokE s A K i (signV (c::t)):=by
 have hl:=congrArg List.length hd
 rw[List.length_drop,List.length_cons] at hl
 unfold sigB
 rw[wrapI_of (by omega) (by omega),show (i:Int)+1=((i+1:Nat):Int) by omega]
 rcases t with _|⟨d,t⟩
 ·rw[cond_f (decide_eq_false (by simp at hl;omega)),sgE_eq hs hd hi,signV]
  rw[cond_f]
  simp
 ·simp only[List.length_cons] at hl
  have hx:s[i+1]? = some d:=by
   rw[← List.head?_drop]
   have:=congrArg List.tail hd
   rw[List.tail_drop] at this
   rw[this]
   rfl
  rw[cond_t (decide_eq_true (by omega)),ixB_eq hx,sgE_eq hs hd hi,show ((d.toNat:Int)==61)=(d==61) from n_eq d 61,show ((d.toNat:Int)==62)=(d==62) from n_eq d 62,← sg2_eq,sig_two hd (by omega),signV]
  cases conA sg2 [c,d]<;>rfl
theorem res_tok (hs:s.length≤2000)(hfu:s.length+50<fu){i:Nat}{c:UInt8}{t:List UInt8}(hd:s.drop i=c::t)(hi:i<s.length)(h39:c≠39)(h88:¬ (c=88∧t.head? = some 39)) :
  resB FLd s A (i:Int) (nmP (enL2 FLd) hL2 fu fL2 fun st=>pnorm (hL2.loop.lookup 0) st K) (fun v=>sigB s A (i:Int) (i:Int) K v) (c.toNat:Int)=tokE s A K i (tokV (c::t)):=by
 unfold resB
 rw[tokV,if_neg h39,if_neg h88]
 show (finD (c.toNat:Int) 48 57).bind _=_
 rw[lDig_fin,Option.bind_some]
 cases h1:lDig c with
 |true =>
  rw[cond_true,if_pos rfl,← hd]
  exact dig_tok hs (by omega) (by omega)
 |false =>
  rw[cond_false,if_neg (by simp)]
  show (finD (c.toNat:Int) 65 90).bind _=_
  rw[lGre_fin,Option.bind_some]
  cases h2:lGre c with
  |true =>
   rw[cond_true,if_pos rfl,← hd]
   exact gre_tok hs hfu (by omega)
  |false =>
   rw[cond_false,if_neg (by simp)]
   show (finD (c.toNat:Int) 97 122).bind _=_
   rw[sm_fin,Option.bind_some]
   have e:lSma c=bif decide (97≤(c.toNat:Int))&&decide ((c.toNat:Int)≤122) then true else (c.toNat:Int)==95:=by
    unfold lSma
    rw[h1]
    cases decide (97≤(c.toNat:Int))&&decide ((c.toNat:Int)≤122)<;>rfl
   cases h3:decide (97≤(c.toNat:Int))&&decide ((c.toNat:Int)≤122) with
   |true =>
    rw[h3,cond_true] at e
    rw[cond_true,if_pos ⟨e,fun h=>by rw[h] at h3;revert h3;decide⟩,← hd]
    exact sma_tok hs (by omega) (by omega)
   |false =>
    rw[h3,cond_false] at e
    rw[cond_false,if_neg]
    ·exact sig_tok hs hd hi
    ·rintro ⟨h4,h5⟩
     rw[e,show ((c.toNat:Int)==95)=(c==95) from n_eq c 95] at h4
     exact h5 (eq_of_beq h4)
theorem rnd_tok (hs:s.length≤2000)(hfu:s.length+50<fu){i:Nat}{c:UInt8}{t:List UInt8}(hd:s.drop i=c::t)(hi:i<s.length) :
  rndB FLd s A (i:Int) K (nmP (enL2 FLd) hL2 fu fL2 fun st=>pnorm (hL2.loop.lookup 0) st K) (fun v=>sigB s A (i:Int) (i:Int) K v)=if c=32∨c=10 then K (frL s A ((i+1:Nat):Int)) else tokE s A K i (tokV (c::t)):=by
 have hl:=congrArg List.length hd
 rw[List.length_drop,List.length_cons] at hl
 have hc:s[i]? = some c:=by rw[← List.head?_drop,hd];rfl
 have hd1:s.drop (i+1)=t:=by
  have:=congrArg List.tail hd
  rwa [List.tail_drop] at this
 unfold rndB
 rw[cond_t (decide_eq_true (by omega)),ixB_eq hc,wrapI_of (x:=(i:Int)+1) (by omega) (by omega),show (i:Int)+1=((i+1:Nat):Int) by omega,show ((c.toNat:Int)==32)=(c==32) from n_eq c 32,show ((c.toNat:Int)==10)=(c==10) from n_eq c 10,show ((c.toNat:Int)==39)=(c==39) from n_eq c 39,show ((c.toNat:Int)==88)=(c==88) from n_eq c 88]
 by_cases h32:c=32
 ·rw[if_pos (Or.inl h32),h32];rfl
 by_cases h10:c=10
 ·rw[if_pos (Or.inr h10),h10];rfl
 rw[if_neg (by rintro (h|h);exact h32 h;exact h10 h),beq_eq_false_iff_ne.2 h32,beq_eq_false_iff_ne.2 h10]
 simp only[cond_false]
 have hstr:∀ {a j:Nat} {V:List UInt8→Val×Bool},a≤j→j≤s.length→(∀ r u,Dbl r u→r.length≤2000→rvD ((s.drop a).take (j-a)++(r++[39]))=some (V u)) →
   nmP (enL2 FLd) hL2 fu fL2 (fun st=>pnorm (hL2.loop.lookup 0) st K) p2 2 (frI s A (j:Int) (a:Int))=tokE s A K a ((qsc (s.drop j)).bind fun r=>bif (V r.2.1).2 then some (vTok (V r.2.1).1,r.1.length+(j-a)+1) else none):=fun ha hj hV=>str_tok hs (by omega) ha hj hV
 by_cases h39:c=39
 ·subst h39
  simp only[beq_self_eq_true,Bool.not_true,cond_false,cond_true]
  unfold strB
  rw[show (((39:UInt8).toNat:Int)==88)=false from by decide,cond_false,wrapI_of (by omega) (by omega),show (i:Int)+1=((i+1:Nat):Int) by omega,hstr (V:=txtV) (by omega) (by omega),hd1,tokV,if_pos rfl]
  ·congr 1
   congr 1
   funext r
   rw[show i+1-i=1 by omega]
  ·intro r u hru hr
   rw[show i+1-i=1 by omega,hd]
   show rvD (39::(r++[39]))=_
   rw[rvD,if_pos rfl,qAll_qt hru (by omega)]
   rfl
 rw[beq_eq_false_iff_ne.2 h39]
 simp only[Bool.not_false,cond_true,cond_false]
 by_cases h88:c=88
 ·subst h88
  simp only[beq_self_eq_true,cond_true]
  rcases t with _|⟨d,t⟩
  ·rw[decide_eq_false (by simp at hl;omega)]
   simp only[cond_false]
   exact res_tok hs hfu hd hi (by decide) (by simp)
  ·simp only[List.length_cons] at hl
   have hx:s[i+1]? = some d:=by rw[← List.head?_drop,hd1];rfl
   rw[decide_eq_true (by omega),cond_true,ixB_eq hx,show ((d.toNat:Int)==39)=(d==39) from n_eq d 39]
   by_cases hd39:d=39
   ·subst hd39
    rw[beq_self_eq_true,cond_true]
    have hd2:s.drop (i+2)=t:=by
     have:=congrArg List.tail hd1
     rwa [List.tail_drop] at this
    unfold strB
    rw[show (((88:UInt8).toNat:Int)==88)=true from by decide,cond_true,wrapI_of (x:=(i:Int)+1) (by omega) (by omega),wrapI_of (by omega) (by omega),show (i:Int)+1+1=((i+2:Nat):Int) by omega,hstr (V:=bytV) (by omega) (by omega),hd2,tokV,if_neg (by decide),if_pos ⟨rfl,rfl⟩,List.tail_cons]
    ·congr 1
     congr 1
     funext r
     rw[show i+2-i=2 by omega]
    ·intro r u hru hr
     rw[show i+2-i=2 by omega,hd]
     show rvD (88::39::(r++[39]))=_
     rw[rvD,if_neg (by decide),if_pos rfl,qAll_qt hru (by omega)]
     rfl
   ·rw[beq_eq_false_iff_ne.2 hd39,cond_false]
    exact res_tok hs hfu hd hi (by decide) (by simpa using hd39)
 ·rw[beq_eq_false_iff_ne.2 h88]
  simp only[cond_false]
  exact res_tok hs hfu hd hi h39 fun h=>h88 h.1
end
theorem l2_ok:AllOK NGs Ws [(55,tSvb rvD),(56,tIn finD),(57,tD3 parD),(58,tWs0 keysD)] :=
 allOK_cons ok_rvD (allOK_cons ok_in17 (allOK_cons ok_rparD (allOK_cons ok_k17 allOK_nil)))
theorem l2_nat:(enL2 FLd).nat:=(env_okH woks l2_ok allH_nil allI_nil).nat
open Classical in
noncomputable def sgG (K:St→Option PV) (vs:List TV) (ws:List (Option (List TV))):Option PV :=
 match vs with
 |[(.str s,_),(.sl no _ lo co,_),(.int _ i,_),(.int _ v,_),(.int _ a,_),_] =>
  if vs=[(.str s,0),(.sl no 7 lo co,319),(.int .i64 i,0),(.int .u8 v,0),(.int .i64 a,0),(.ptr 9 0,0)]∧ws=[some (tzB a)] then sigB s ⟨no,lo,co⟩ i a K v else none
 |_=>none
theorem sgG_eq (K:St→Option PV)(s:List UInt8)(A:TA)(i v a:Int):sgG K [(.str s,0),(A.sl,319),(.int .i64 i,0),(.int .u8 v,0),(.int .i64 a,0),(.ptr 9 0,0)] [some (tzB a)]=sigB s A i a K v:=by
 unfold sgG TA.sl
 exact if_pos ⟨rfl,rfl⟩
theorem sgG_inv {K:St→Option PV}{vs:List TV}{ws:List (Option (List TV))}{q:PV}(h:sgG K vs ws=some q):∃ s A i v a,vs=[(.str s,0),(A.sl,319),(.int .i64 i,0),(.int .u8 v,0),(.int .i64 a,0),(.ptr 9 0,0)]∧ws=[some (tzB a)]∧sigB s A i a K v=some q:=by
 unfold sgG at h
 split at h
 ·rename_i s _ no _ lo co _ _ i _ _ v _ _ a _ _
  split at h
  ·rename_i h1
   exact⟨s,⟨no,lo,co⟩,i,v,a,h1.1,h1.2,h⟩
  ·cases h
 ·cases h
theorem nr0:noRange (subCt (p0++[0]) (fL2.body.getD .skip))=true:=by kernel_rfl
theorem st0_run {fu:Nat}{s:List UInt8}{A:TA}{i:Int}{K:St→Option PV}{r:PV}(h:rndB FLd s A i K (nmP (enL2 FLd) hL2 fu fL2 fun st=>pnorm (hL2.loop.lookup 0) st K) (fun v=>sigB s A i i K v)=some r) :
  stepF (enL2 FLd) hL2 fu false fL2 p0 (frL s A i) (fun st=>pnorm (hL2.loop.lookup 0) st K)=some r:=by
 have e:stepF (enL2 FLd) hL2 fu false fL2 p0 (frL s A i) (fun st=>pnorm (hL2.loop.lookup 0) st K)=stepB (enL2 FLd) hL2 fu (pfin (enL2 FLd) false fL2) (nmP (enL2 FLd) hL2 fu fL2 fun st=>pnorm (hL2.loop.lookup 0) st K) fL2 p0 0 [(0,l2Tail FLd fu)] (frL s A i) (fun st=>pnorm (hL2.loop.lookup 0) st K):=stepF_eq (by kernel_rfl)
 rw[e]
 refine stepB_cut (enL2 FLd) hL2 fu (pfin (enL2 FLd) false fL2) _ fL2 p0 0 [(0,l2Tail FLd fu)] l2_nat (p:=pSg) (KM:=rdK 312 312 [0,5,6,7,8,9] [9] (sgG K)) nr0 ?_ ?_
 ·intro st q hq
  obtain⟨vs,ws,g,gb,h1,rfl⟩:=rdK_inv hq
  obtain⟨s,A,i,v,a,rfl,rfl,h2⟩:=sgG_inv h1
  exact (st0s FLd fu s A i a K _ v g gb).trans h2
 ·rw[st0c]
  simp only[sgG_eq]
  exact h
def rlexE (acc:List TR)(o:Nat ⊕ List TR):PV:=match o with
 | .inl a=>.tuple [.sl (some true) 7 0 [],.int .i64 (a:Int),.bool false]
 | .inr l=>.tuple [.sl (some (acc++l).isEmpty) 7 (acc++l).length ((acc++l).flatMap TR.cells),.int .i64 0,.bool true]
def taOf (acc:List TR):TA:=⟨some acc.isEmpty,acc.length,acc.flatMap TR.cells⟩
theorem taOf_put (acc:List TR)(t:TR):(taOf acc).put t=taOf (acc++[t]):=by
 unfold TA.put taOf
 simp only[TA.mk.injEq]
 refine⟨?_,by simp,by simp⟩
 show some (acc.isEmpty&&false)=_
 rw[Bool.and_false]
 congr 1
 cases acc<;>rfl
theorem l2_loop (fu:Nat)(s:List UInt8)(hs:s.length≤2000)(hfu:s.length+50<fu):∀ (n f i:Nat) (acc:List TR),i≤s.length→s.length<i+n→s.length<i+f→acc.length≤i →
  l0 FLd fu n (frL s (taOf acc) (i:Int))=some (rlexE acc (lexV f i (s.drop i)))
 |0,f,i,acc,hi,hn,_,_=>by omega
 |n+1,0,i,acc,hi,_,hf,_=>by omega
 |n+1,f+1,i,acc,hi,hn,hf,ha=>by
  unfold l0
  rw[loopF_succ]
  refine st0_run (K:=fun st=>loopF (enL2 FLd) hL2 fu false fL2 p0 0 n st) ?_
  by_cases hlt:i<s.length
  ·have hd:=List.drop_eq_getElem_cons hlt
   generalize s[i]=c at hd
   have skip:=l2_loop fu s hs hfu n f (i+1) acc hlt (by omega) (by omega) (by omega)
   unfold l0 at skip
   rw[rnd_tok hs hfu hd hlt,hd,lexV]
   by_cases hb:c=32∨c=10
   ·rw[if_pos hb,if_pos hb]
    exact skip
   ·rw[if_neg hb,if_neg hb]
    cases hr:tokV (c::s.drop (i+1)) with
    |none=>rfl
    |some r =>
     obtain⟨g1,g2,-,-⟩:=tokV_ok hr
     rw[← hd,List.length_drop] at g2
     have go:=l2_loop fu s hs hfu n f (i+r.2) (acc++[⟨r.1.k,i,r.1.t,r.1.vk,r.1.vn,r.1.vc,r.1.vs⟩]) (by omega) (by omega) (by omega) (by rw[List.length_append];simp only[List.length_cons,List.length_nil];omega)
     unfold l0 at go
     simp only[tokE]
     unfold finT
     rw[roomT_eq (by show acc.length+1≤_;omega),taOf_put]
     refine go.trans ?_
     rw[← hd,List.drop_drop]
     cases lexV f (i+r.2) (s.drop (i+r.2)) with
     |inl a=>rfl
     |inr l=>simp only[rlexE,List.append_assoc];rfl
  ·have:i=s.length:=by omega
   subst this
   unfold rndB
   rw[cond_f (decide_eq_false (by omega)),List.drop_length,lexV]
   simp only[rlexE,List.append_nil]
   rfl
def rlxRes (o:Nat ⊕ List TR):LR:=match o with
 | .inl a=>⟨some true,0,[],a,false⟩
 | .inr l=>⟨some l.isEmpty,l.length,l.flatMap TR.cells,0,true⟩
def rlexD (s:List UInt8):Option LR:=some (rlxRes (lexS s))
theorem ok_rlexD:FOK NGs Ws 24 (tLr rlexD) :=
 fokH woks l2_ok allH_nil allI_nil (h:=hL2) Tryz.func24 rfl (by decide) (tLr_nat _) fun xs r h=>by
  simp only[tLr] at h
  split at h
  ·rename_i s
   refine⟨s.length+100,(lx2_raw FLd _ s).trans (Eq.trans ?_ h)⟩
   unfold rlexD lexS
   rw[Option.bind_some]
   by_cases hs:s.length≤2000
   ·rw[cond_f (decide_eq_false (by omega)),decide_eq_false (show ¬ 2000<s.length by omega),cond_false]
    refine (l2_loop _ s hs (by omega) (s.length+100) (s.length+1) 0 [] (Nat.zero_le _) (by omega) (by omega) (Nat.le_refl _)).trans ?_
    rw[List.drop_zero]
    cases lexV (s.length+1) 0 s<;>rfl
   ·rw[cond_t (decide_eq_true (by omega)),decide_eq_true (show 2000<s.length by omega),cond_true]
    rfl
  ·cases h
end Go.Proofs.YtkpfigikffphdaaGreatDoor
end
section
set_option maxRecDepth 1000000
namespace Go.Proofs.YtkpfigikffphdaaGreatDoor
open Go.RowKit Go.Lib
def nmC (i:Nat)(c:UInt8):Bool:=(decide (97≤c.toNat)&&decide (c.toNat≤122))||(i != 0&&(c.toNat==95||(decide (48≤c.toNat)&&decide (c.toNat≤57))))
def nmL:Nat→List UInt8→Bool
 |_,[]=>true
 |i,c::l=>nmC i c&&nmL (i+1) l
def nameV (l:List UInt8):Bool:=nmL 0 l&&(decide (1≤l.length)&&decide (l.length≤24))
theorem nmC_of {i:Nat}{c:UInt8}(h:(97≤c.toNat∧c.toNat≤122)∨(i≠0∧(c.toNat=95∨(48≤c.toNat∧c.toNat≤57)))):nmC i c=true:=by
 unfold nmC
 simp only[Bool.or_eq_true,Bool.and_eq_true,decide_eq_true_eq,bne_iff_ne,beq_iff_eq]
 exact h
theorem nmC_no {i:Nat}{c:UInt8}(h:¬ ((97≤c.toNat∧c.toNat≤122)∨(i≠0∧(c.toNat=95∨(48≤c.toNat∧c.toNat≤57))))):nmC i c=false:=by
 rw[Bool.eq_false_iff]
 intro e
 unfold nmC at e
 simp only[Bool.or_eq_true,Bool.and_eq_true,decide_eq_true_eq,bne_iff_ne,beq_iff_eq] at e
 exact h e
set_option maxHeartbeats 4000000 in
theorem name_walk (s:ByteArray) (w:World) :
    Calls Tryz.prog 136 #[.string s] w fun e w'=>e=.returned (.bool (nameV s.data.toList))∧Below w.heap.size w w':=by
  go_enter Tryz.func136,Tryz.ntmps136
  go_wp2
  go_loopw [] (fun w'=>∃ pos:Nat,w'=w.iter s pos∧nmL pos (s.data.toList.drop pos)=nmL 0 s.data.toList) (fun w'=>s.size - w'.iterPos w.heap.size)
  case atStart=>exact ⟨0,rfl,rfl⟩
  case round =>
    obtain ⟨pos,rfl,hb⟩:=hrel
    have hbel:∀ p,Below w.heap.size w (w.iter s p):=fun p=>(Below.refl _ w).alloc (Nat.le_refl _) _
    by_cases hp:pos < s.size
    · obtain ⟨c, hc⟩:∃ c,s[pos]'hp=c:=⟨_,rfl⟩
      have hd:s.data.toList.drop pos=c :: s.data.toList.drop (pos + 1):=by
        rw [List.drop_eq_getElem_cons (by simpa using hp),← hc]
        rfl
      rw [hd,nmL] at hb
      by_cases ha:c.toNat < 128
      · have hnx : ∀ ty,(Instr.next (.pointer (some ⟨w.heap.size,0,none⟩)) true ty).run Tryz.prog (w.iter s pos)=_:=fun ty=>run_next_ascii w s pos ty hp (by rw [hc];exact ha)
        rw [hc] at hnx
        by_cases hP:(97≤c.toNat∧c.toNat≤122)∨(pos≠0∧(c.toNat=95∨(48≤c.toNat∧c.toNat≤57)))
        · rw [nmC_of hP,Bool.true_and] at hb
          rcases Nat.eq_zero_or_pos pos with rfl | hpos
          · have h1:(97:Int)≤c.toNat:=by omega
            have h2:(c.toNat:Int)≤122:=by omega
            clear hd
            go_wp2
            all_goals refine ⟨⟨_,rfl,hb⟩,?_⟩
            all_goals simp
            all_goals omega
          · have h3:¬ (pos:Int)=0:=by omega
            clear hd
            by_cases h1:(97:Int)≤c.toNat<;>by_cases h2:(c.toNat:Int)≤122<;>by_cases h4:(c.toNat:Int)=95<;>by_cases h5:(c.toNat:Int) < 48<;>by_cases h6:(57:Int) < c.toNat<;>first
              | (exfalso;omega)
              | (go_wp2
                 all_goals refine ⟨⟨_,rfl,hb⟩,?_⟩
                 all_goals simp
                 all_goals omega)
        · rw [nmC_no hP,Bool.false_and] at hb
          have hv:nameV s.data.toList=false:=by unfold nameV;rw [← hb];rfl
          clear hb hd
          rcases Nat.eq_zero_or_pos pos with rfl | hpos
          · by_cases h1:(97:Int)≤c.toNat<;>by_cases h2:(c.toNat:Int)≤122<;>first
              | (exfalso;omega)
              | (go_wp2
                 all_goals go_ret
                 all_goals first | exact ⟨rfl,hbel _⟩ | exact ⟨by rw [hv],hbel _⟩)
          · have h3:¬ (pos:Int)=0:=by omega
            by_cases h1:(97:Int)≤c.toNat<;>by_cases h2:(c.toNat:Int)≤122<;>by_cases h4:(c.toNat:Int)=95<;>by_cases h5:(c.toNat:Int) < 48<;>by_cases h6:(57:Int) < c.toNat<;>first
              | (exfalso;omega)
              | (have h3b:((pos:Int) == 0)=false:=beq_eq_false_iff_ne.2 h3
                 have h4b:((c.toNat:Int) != 95)=true:=bne_iff_ne.2 h4
                 go_wp2
                 all_goals go_ret
                 all_goals first | exact ⟨rfl,hbel _⟩ | exact ⟨by rw [hv],hbel _⟩)
      · have hh:=decode_high s pos hp (by rw [hc];omega)
        have hnx:∀ ty,(Instr.next (.pointer (some ⟨w.heap.size,0,none⟩)) true ty).run Tryz.prog (w.iter s pos)=_:=fun ty=>run_next_any w s pos ty hp
        obtain ⟨r,hr⟩:∃ r,(Utf8.decode s pos).1=r:=⟨_,rfl⟩
        obtain ⟨q,hq⟩:∃ q,pos + (Utf8.decode s pos).2=q:=⟨_,rfl⟩
        rw [hr,hq] at hnx
        rw [hr] at hh
        have h1:(97:Int)≤r:=by omega
        have h2:¬ (r:Int)≤122:=by omega
        have h4:¬ (r:Int)=95:=by omega
        have h5:¬ (r:Int) < 48:=by omega
        have h6:(57:Int) < r:=by omega
        rw [nmC_no (by omega),Bool.false_and] at hb
        have hv:nameV s.data.toList=false:=by unfold nameV;rw [← hb];rfl
        clear hb hd
        by_cases h3:(pos:Int)=0
        · go_wp2
          all_goals go_ret
          all_goals first | exact ⟨rfl,hbel _⟩ | exact ⟨by rw [hv],hbel _⟩
        · have h3b:((pos:Int) == 0)=false:=beq_eq_false_iff_ne.2 h3
          have h4b:((r:Int) != 95)=true:=bne_iff_ne.2 h4
          go_wp2
          all_goals go_ret
          all_goals first | exact ⟨rfl,hbel _⟩ | exact ⟨by rw [hv],hbel _⟩
    · have hnx:∀ ty,(Instr.next (.pointer (some ⟨w.heap.size,0,none⟩)) true ty).run Tryz.prog (w.iter s pos)=_:=fun ty=>run_next_end w s pos ty hp
      rw [List.drop_of_length_le (by simpa using hp),nmL] at hb
      have hv:nameV s.data.toList=(decide (1≤s.size) && decide (s.size≤24)):=by unfold nameV;rw [← hb];simp
      clear hb
      by_cases h1:(1:Int)≤s.size<;>by_cases h2:(s.size:Int)≤24<;>first
        | (exfalso;omega)
        | (go_wp2
           all_goals go_ret
           all_goals refine ⟨?_,hbel _⟩
           all_goals try rw [hv]
           all_goals first
             | (rw [decide_eq_true (show 1≤s.size by omega),decide_eq_true (show s.size≤24 by omega)];rfl)
             | (rw [decide_eq_true (show 1≤s.size by omega),decide_eq_false (show ¬ s.size≤24 by omega)];rfl)
             | (rw [decide_eq_false (show ¬ 1≤s.size by omega)];rfl))
def tNm:PFn:=⟨fun xs k=>match xs with|[.str s]=>k (.bool (nameV s))|_=>none,false⟩
theorem tNm_nat:tNm.nat:=by
 intro R xs k
 simp only[tNm]
 split<;>rfl
theorem ok_sName {NG:Nat}{W:World→Prop}:FOK NG W 136 tNm :=
 fok_calls Tryz.func136 rfl (by decide) tNm_nat rfl fun xs r M vs hW h hr=>by
  simp only[tNm] at h
  split at h
  ·rename_i s
   injection h with h
   subst h
   obtain⟨v,rfl,hv⟩:=relT1 hr
   simp only[RelD] at hv
   subst hv
   refine (name_walk ⟨s.toArray⟩ M.w).mono ?_
   rintro e w' ⟨rfl,hb⟩
   refine⟨_,rfl,hb,fun U' _=>?_⟩
   simp only[RelD]
  ·cases h
end Go.Proofs.YtkpfigikffphdaaGreatDoor
end
section
set_option maxRecDepth 100000
namespace Go.Proofs.YtkpfigikffphdaaGreatDoor
open Go.RowKit
theorem iteo_bind {α β:Type}{c:Prop}[Decidable c]{x:Option α}{g:α→Option β}:(if c then x else none).bind g=if c then x.bind g else none:=by split<;>rfl
section
variable {NG:Nat} {W:World→Prop}
def tWb (f:List UInt8→Option (Bool)):PFn:=⟨fun xs k=>match xs with|[.str s]=>(f s).bind fun r=>k (.bool r)|_=>none,false⟩
theorem tWb_nat (f:List UInt8→Option (Bool)):(tWb f).nat:=by
 intro R xs k
 simp only[tWb]
 split
 ·simp only[onXR_bind,iteo_bind,Option.bind_assoc,Option.bind_some]
 ·rfl
theorem fok_tWb (hW:WOK NG W){l:List (FuncId×PFn)}(hl:AllOK NG W l){lh:List (FuncId×HFn)}(hh:AllH NG W lh){h:Hints}{f:FuncId}{fn:Func}(hf:Tryz.prog.funcs[f]? = some fn)(hb:fn.body.isSome=true)(hname:fn.name ≠ "runtime.NumGoroutine"){g:List UInt8→Option (Bool)}(hr:∀ (s:List UInt8) r,g s=some r→∃ fu,prun (enH l lh []) h fu false fn [.str s]=some (.bool r)):FOK NG W f (tWb g) :=
 fokH hW hl hh allI_nil (h:=h) hf hb hname (tWb_nat g) fun xs r h=>by
  simp only[tWb] at h
  split at h
  ·obtain⟨qq,hq,hend⟩:=Option.bind_eq_some_iff.1 h
   obtain⟨fu,hr⟩:=hr _ _ hq
   exact⟨fu,hr.trans hend⟩
  ·cases h
def tTb (f:Int→Int→Option (Bool)):PFn:=⟨fun xs k=>match xs with|[.agg [.int .i64 a,.int .i64 b]]=>(f a b).bind fun r=>k (.bool r)|_=>none,false⟩
theorem tTb_nat (f:Int→Int→Option (Bool)):(tTb f).nat:=by
 intro R xs k
 simp only[tTb]
 split
 ·simp only[onXR_bind,iteo_bind,Option.bind_assoc,Option.bind_some]
 ·rfl
def tXX (f:XR→XR→Option (Bool)):PFn:=⟨fun xs k=>match xs with|[xe,xd]=>onXR xe fun e=>onXR xd fun d=>(f e d).bind fun r=>k (.bool r)|_=>none,false⟩
theorem tXX_nat (f:XR→XR→Option (Bool)):(tXX f).nat:=by
 intro R xs k
 simp only[tXX]
 split
 ·simp only[onXR_bind,iteo_bind,Option.bind_assoc,Option.bind_some]
 ·rfl
theorem fok_tXX (hW:WOK NG W){l:List (FuncId×PFn)}(hl:AllOK NG W l){lh:List (FuncId×HFn)}(hh:AllH NG W lh){h:Hints}{f:FuncId}{fn:Func}(hf:Tryz.prog.funcs[f]? = some fn)(hb:fn.body.isSome=true)(hname:fn.name ≠ "runtime.NumGoroutine"){g:XR→XR→Option (Bool)}(hr:∀ (e:XR) (d:XR) r,g e d=some r→∃ fu,prun (enH l lh []) h fu false fn [.agg e.cells,.agg d.cells]=some (.bool r)):FOK NG W f (tXX g) :=
 fokH hW hl hh allI_nil (h:=h) hf hb hname (tXX_nat g) fun xs r h=>by
  simp only[tXX] at h
  split at h
  ·obtain⟨e,hxe,h0⟩:=onXR_inv h
   subst hxe
   obtain⟨d,hxd,h1⟩:=onXR_inv h0
   subst hxd
   obtain⟨qq,hq,hend⟩:=Option.bind_eq_some_iff.1 h1
   obtain⟨fu,hr⟩:=hr _ _ _ hq
   exact⟨fu,hr.trans hend⟩
  ·cases h
def tXXp (f:XR→XR→Bool→Option (Bool)):PFn:=⟨fun xs k=>match xs with|[xe,xd,.bool p]=>onXR xe fun e=>onXR xd fun d=>(f e d p).bind fun r=>k (.bool r)|_=>none,false⟩
theorem tXXp_nat (f:XR→XR→Bool→Option (Bool)):(tXXp f).nat:=by
 intro R xs k
 simp only[tXXp]
 split
 ·simp only[onXR_bind,iteo_bind,Option.bind_assoc,Option.bind_some]
 ·rfl
theorem fok_tXXp (hW:WOK NG W){l:List (FuncId×PFn)}(hl:AllOK NG W l){lh:List (FuncId×HFn)}(hh:AllH NG W lh){h:Hints}{f:FuncId}{fn:Func}(hf:Tryz.prog.funcs[f]? = some fn)(hb:fn.body.isSome=true)(hname:fn.name ≠ "runtime.NumGoroutine"){g:XR→XR→Bool→Option (Bool)}(hr:∀ (e:XR) (d:XR) (p:Bool) r,g e d p=some r→∃ fu,prun (enH l lh []) h fu false fn [.agg e.cells,.agg d.cells,.bool p]=some (.bool r)):FOK NG W f (tXXp g) :=
 fokH hW hl hh allI_nil (h:=h) hf hb hname (tXXp_nat g) fun xs r h=>by
  simp only[tXXp] at h
  split at h
  ·obtain⟨e,hxe,h0⟩:=onXR_inv h
   subst hxe
   obtain⟨d,hxd,h1⟩:=onXR_inv h0
   subst hxd
   obtain⟨qq,hq,hend⟩:=Option.bind_eq_some_iff.1 h1
   obtain⟨fu,hr⟩:=hr _ _ _ _ hq
   exact⟨fu,hr.trans hend⟩
  ·cases h
def tXb (f:XR→Option (Bool)):PFn:=⟨fun xs k=>match xs with|[xe]=>onXR xe fun e=>(f e).bind fun r=>k (.bool r)|_=>none,false⟩
theorem tXb_nat (f:XR→Option (Bool)):(tXb f).nat:=by
 intro R xs k
 simp only[tXb]
 split
 ·simp only[onXR_bind,iteo_bind,Option.bind_assoc,Option.bind_some]
 ·rfl
theorem fok_tXb (hW:WOK NG W){l:List (FuncId×PFn)}(hl:AllOK NG W l){lh:List (FuncId×HFn)}(hh:AllH NG W lh){h:Hints}{f:FuncId}{fn:Func}(hf:Tryz.prog.funcs[f]? = some fn)(hb:fn.body.isSome=true)(hname:fn.name ≠ "runtime.NumGoroutine"){g:XR→Option (Bool)}(hr:∀ (e:XR) r,g e=some r→∃ fu,prun (enH l lh []) h fu false fn [.agg e.cells]=some (.bool r)):FOK NG W f (tXb g) :=
 fokH hW hl hh allI_nil (h:=h) hf hb hname (tXb_nat g) fun xs r h=>by
  simp only[tXb] at h
  split at h
  ·obtain⟨e,hxe,h0⟩:=onXR_inv h
   subst hxe
   obtain⟨qq,hq,hend⟩:=Option.bind_eq_some_iff.1 h0
   obtain⟨fu,hr⟩:=hr _ _ hq
   exact⟨fu,hr.trans hend⟩
  ·cases h
def tXdB (f:XR→Int→Option (Bool)):PFn:=⟨fun xs k=>match xs with|[xe,.int .i64 d]=>onXR xe fun e=>(f e d).bind fun r=>k (.bool r)|_=>none,false⟩
theorem tXdB_nat (f:XR→Int→Option (Bool)):(tXdB f).nat:=by
 intro R xs k
 simp only[tXdB]
 split
 ·simp only[onXR_bind,iteo_bind,Option.bind_assoc,Option.bind_some]
 ·rfl
theorem fok_tXdB (hW:WOK NG W){l:List (FuncId×PFn)}(hl:AllOK NG W l){lh:List (FuncId×HFn)}(hh:AllH NG W lh){h:Hints}{f:FuncId}{fn:Func}(hf:Tryz.prog.funcs[f]? = some fn)(hb:fn.body.isSome=true)(hname:fn.name ≠ "runtime.NumGoroutine"){g:XR→Int→Option (Bool)}(hr:∀ (e:XR) (d:Int) r,g e d=some r→∃ fu,prun (enH l lh []) h fu false fn [.agg e.cells,.int .i64 d]=some (.bool r)):FOK NG W f (tXdB g) :=
 fokH hW hl hh allI_nil (h:=h) hf hb hname (tXdB_nat g) fun xs r h=>by
  simp only[tXdB] at h
  split at h
  ·obtain⟨e,hxe,h0⟩:=onXR_inv h
   subst hxe
   obtain⟨qq,hq,hend⟩:=Option.bind_eq_some_iff.1 h0
   obtain⟨fu,hr⟩:=hr _ _ _ hq
   exact⟨fu,hr.trans hend⟩
  ·cases h
def tKK (f:Nat→List PV→Nat→List PV→Option (Bool)):PFn:=⟨fun xs k=>match xs with|[.sl _ zn n c,.sl _ zm m d]=>if zn=13 then if zm=13 then (f n c m d).bind fun r=>k (.bool r) else none else none|_=>none,false⟩
theorem tKK_nat (f:Nat→List PV→Nat→List PV→Option (Bool)):(tKK f).nat:=by
 intro R xs k
 simp only[tKK]
 split
 ·simp only[onXR_bind,iteo_bind,Option.bind_assoc,Option.bind_some]
 ·rfl
theorem fok_tKK (hW:WOK NG W){l:List (FuncId×PFn)}(hl:AllOK NG W l){lh:List (FuncId×HFn)}(hh:AllH NG W lh){h:Hints}{f:FuncId}{fn:Func}(hf:Tryz.prog.funcs[f]? = some fn)(hb:fn.body.isSome=true)(hname:fn.name ≠ "runtime.NumGoroutine"){g:Nat→List PV→Nat→List PV→Option (Bool)}(hr:∀ (nln:Option Bool) (n:Nat) (c:List PV) (nlm:Option Bool) (m:Nat) (d:List PV) r,g n c m d=some r→∃ fu,prun (enH l lh []) h fu false fn [.sl nln 13 n c,.sl nlm 13 m d]=some (.bool r)):FOK NG W f (tKK g) :=
 fokH hW hl hh allI_nil (h:=h) hf hb hname (tKK_nat g) fun xs r h=>by
  simp only[tKK] at h
  split at h
  ·obtain⟨hzn,h0⟩:=ite_inv h
   subst hzn
   obtain⟨hzm,h1⟩:=ite_inv h0
   subst hzm
   obtain⟨qq,hq,hend⟩:=Option.bind_eq_some_iff.1 h1
   obtain⟨fu,hr⟩:=hr _ _ _ _ _ _ _ hq
   exact⟨fu,hr.trans hend⟩
  ·cases h
def tKKp (f:Nat→List PV→Nat→List PV→Bool→Option (Bool)):PFn:=⟨fun xs k=>match xs with|[.sl _ zn n c,.sl _ zm m d,.bool p]=>if zn=13 then if zm=13 then (f n c m d p).bind fun r=>k (.bool r) else none else none|_=>none,false⟩
theorem tKKp_nat (f:Nat→List PV→Nat→List PV→Bool→Option (Bool)):(tKKp f).nat:=by
 intro R xs k
 simp only[tKKp]
 split
 ·simp only[onXR_bind,iteo_bind,Option.bind_assoc,Option.bind_some]
 ·rfl
theorem fok_tKKp (hW:WOK NG W){l:List (FuncId×PFn)}(hl:AllOK NG W l){lh:List (FuncId×HFn)}(hh:AllH NG W lh){h:Hints}{f:FuncId}{fn:Func}(hf:Tryz.prog.funcs[f]? = some fn)(hb:fn.body.isSome=true)(hname:fn.name ≠ "runtime.NumGoroutine"){g:Nat→List PV→Nat→List PV→Bool→Option (Bool)}(hr:∀ (nln:Option Bool) (n:Nat) (c:List PV) (nlm:Option Bool) (m:Nat) (d:List PV) (p:Bool) r,g n c m d p=some r→∃ fu,prun (enH l lh []) h fu false fn [.sl nln 13 n c,.sl nlm 13 m d,.bool p]=some (.bool r)):FOK NG W f (tKKp g) :=
 fokH hW hl hh allI_nil (h:=h) hf hb hname (tKKp_nat g) fun xs r h=>by
  simp only[tKKp] at h
  split at h
  ·obtain⟨hzn,h0⟩:=ite_inv h
   subst hzn
   obtain⟨hzm,h1⟩:=ite_inv h0
   subst hzm
   obtain⟨qq,hq,hend⟩:=Option.bind_eq_some_iff.1 h1
   obtain⟨fu,hr⟩:=hr _ _ _ _ _ _ _ _ hq
   exact⟨fu,hr.trans hend⟩
  ·cases h
def tKKf (f:Nat→List PV→Nat→List PV→Option (Bool)):PFn:=⟨fun xs k=>match xs with|[.sl _ zn n c,.sl _ zm m d,.clo q []]=>if zn=13 then if zm=13 then if q=12 then (f n c m d).bind fun r=>k (.bool r) else none else none else none|_=>none,false⟩
theorem tKKf_nat (f:Nat→List PV→Nat→List PV→Option (Bool)):(tKKf f).nat:=by
 intro R xs k
 simp only[tKKf]
 split
 ·simp only[onXR_bind,iteo_bind,Option.bind_assoc,Option.bind_some]
 ·rfl
theorem fok_tKKf (hW:WOK NG W){l:List (FuncId×PFn)}(hl:AllOK NG W l){lh:List (FuncId×HFn)}(hh:AllH NG W lh){h:Hints}{f:FuncId}{fn:Func}(hf:Tryz.prog.funcs[f]? = some fn)(hb:fn.body.isSome=true)(hname:fn.name ≠ "runtime.NumGoroutine"){g:Nat→List PV→Nat→List PV→Option (Bool)}(hr:∀ (nln:Option Bool) (n:Nat) (c:List PV) (nlm:Option Bool) (m:Nat) (d:List PV) r,g n c m d=some r→∃ fu,prun (enH l lh []) h fu false fn [.sl nln 13 n c,.sl nlm 13 m d,.clo 12 []]=some (.bool r)):FOK NG W f (tKKf g) :=
 fokH hW hl hh allI_nil (h:=h) hf hb hname (tKKf_nat g) fun xs r h=>by
  simp only[tKKf] at h
  split at h
  ·obtain⟨hzn,h0⟩:=ite_inv h
   subst hzn
   obtain⟨hzm,h1⟩:=ite_inv h0
   subst hzm
   obtain⟨hzq,h2⟩:=ite_inv h1
   subst hzq
   obtain⟨qq,hq,hend⟩:=Option.bind_eq_some_iff.1 h2
   obtain⟨fu,hr⟩:=hr _ _ _ _ _ _ _ hq
   exact⟨fu,hr.trans hend⟩
  ·cases h
def tSl (f:List UInt8→Nat→List PV→Option (Bool)):PFn:=⟨fun xs k=>match xs with|[.str s,.sl _ zn n c]=>if zn=1 then (f s n c).bind fun r=>k (.bool r) else none|_=>none,false⟩
theorem tSl_nat (f:List UInt8→Nat→List PV→Option (Bool)):(tSl f).nat:=by
 intro R xs k
 simp only[tSl]
 split
 ·simp only[onXR_bind,iteo_bind,Option.bind_assoc,Option.bind_some]
 ·rfl
theorem fok_tSl (hW:WOK NG W){l:List (FuncId×PFn)}(hl:AllOK NG W l){lh:List (FuncId×HFn)}(hh:AllH NG W lh){h:Hints}{f:FuncId}{fn:Func}(hf:Tryz.prog.funcs[f]? = some fn)(hb:fn.body.isSome=true)(hname:fn.name ≠ "runtime.NumGoroutine"){g:List UInt8→Nat→List PV→Option (Bool)}(hr:∀ (s:List UInt8) (nln:Option Bool) (n:Nat) (c:List PV) r,g s n c=some r→∃ fu,prun (enH l lh []) h fu false fn [.str s,.sl nln 1 n c]=some (.bool r)):FOK NG W f (tSl g) :=
 fokH hW hl hh allI_nil (h:=h) hf hb hname (tSl_nat g) fun xs r h=>by
  simp only[tSl] at h
  split at h
  ·obtain⟨hzn,h1⟩:=ite_inv h
   subst hzn
   obtain⟨qq,hq,hend⟩:=Option.bind_eq_some_iff.1 h1
   obtain⟨fu,hr⟩:=hr _ _ _ _ _ hq
   exact⟨fu,hr.trans hend⟩
  ·cases h
end
abbrev wsBin:List (List UInt8):=[[79,82],[65,78,68],[61],[60,62],[60],[60,61],[62],[62,61],[43],[45],[42],[47],[37]]
theorem binary_raw (fc:Nat→List PV→List UInt8→Option Bool)(fu:Nat)(s:List UInt8):prun (enH [(184,tCn fc)] [] []) hh0 fu false Tryz.f186 [.str s]=(fc 13 (wsBin.flatMap stC) s).bind fun b=>some (.bool b):=by kernel_rfl
theorem scall_raw (fc:Nat→List PV→List UInt8→Option Bool)(fu:Nat)(s:List UInt8):prun (enH [(184,tCn fc)] [] []) hh0 fu false Tryz.f187 [.str s]=(fc 4 (wsCall.flatMap stC) s).bind fun b=>some (.bool b):=by kernel_rfl
def eqV4 (k n c:Int)(s:List UInt8)(k' n' c':Int)(s':List UInt8):Bool:=bif k==k' then (bif n==n' then (bif c==c' then (bif s==s' then true else false) else false) else false) else false
def eqT2 (k s k' s':Int):Bool:=bif k==k' then (bif s==s' then true else false) else false
def alikeB (e d:XR):Bool :=
 bif (bif (bif (bif (bif (bif e.k==d.k then e.op==d.op else false) then eqV4 e.vk e.vn e.vc e.vs d.vk d.vn d.vc d.vs else false) then e.tb==d.tb else false) then e.nm==d.nm else false) then e.nt==d.nt else false) then eqT2 e.tk e.ts d.tk d.ts else false
theorem alike_raw (fu:Nat)(e d:XR):prun (enH [] [] []) hh0 fu false Tryz.f28 [.agg e.cells,.agg d.cells]=some (.bool (alikeB e d)):=by kernel_rfl
theorem lit18_raw (fr:Int→Int→Int→List UInt8→Option Bool)(fu:Nat)(a n c:Int)(s:List UInt8):prun (enH [(231,tvB fr)] [] []) hh0 fu false Tryz.f185 [.agg [.int .i64 a,.int .i64 n,.int .i64 c,.str s]] =
  (fr a n c s).bind fun r=>some (.bool (bif (bif r then (bif !(bif a==2 then true else a==3) then true else decide (0≤n)) else false) then (bif a != 3 then true else decide (0<c)) else false)):=by kernel_rfl
theorem kids18_raw (fu:Nat)(e:XR):prun (enH [] [] []) hh0 fu false Tryz.f104 [.agg e.cells] =
    (let z:=some (PV.bool ((e.kn:Int)==0))
     let o:=some (PV.bool ((e.kn:Int)==1))
     let B:=bif e.k==3 then some (PV.bool ((e.kn:Int)==2)) else bif e.k==5 then some (PV.bool (bif (e.kn:Int)==1 then true else bif (e.kn:Int)==0 then e.op==wCOUNT else false)) else o
     bif e.k==0 then (bif e.k==0 then z else B) else bif e.k==1 then z else B):=by kernel_rfl
def bareX (e:XR):XR:=⟨e.k,e.a,[],0,0,0,[],[],[],false,0,0,some true,0,[]⟩
structure FOw where
 fl:Int→Int→Int→List UInt8→Option Bool
 fn:List UInt8→Option Bool
 fb:List UInt8→Option Bool
 fc:List UInt8→Option Bool
 ft:Int→Int→Option Bool
 fa:XR→XR→Option Bool
noncomputable def enOw (F:FOw):Env:=enH [(185,tvB F.fl),(136,tWb F.fn),(186,tWb F.fb),(187,tWb F.fc),(82,tTb F.ft),(28,tXX F.fa)] [] []
def finO (F:FOw)(e:XR)(ok:Bool)(b:XR):Option PV:=bif ok then (F.fa e b).bind fun r=>some (.bool r) else some (.bool false)
def ownO (F:FOw)(e:XR):Option PV :=
  let b:=bareX e
  bif e.k==0 then (F.fl e.vk e.vn e.vc e.vs).bind fun ok=>finO F e ok ⟨b.k,b.a,[],e.vk,e.vn,e.vc,e.vs,[],[],false,0,0,some true,0,[]⟩
  else bif e.k==1 then (F.fn e.nm).bind fun ok =>
    (let c:XR:=⟨b.k,b.a,[],0,0,0,[],e.tb,e.nm,false,0,0,some true,0,[]⟩
     bif (bif ok then !(e.tb==[]) else false) then (F.fn e.tb).bind fun r=>finO F e r c else finO F e (bif ok then (bif e.tb==[] then true else false) else false) c)
  else bif e.k==2 then finO F e (bif e.op==wNOT then true else e.op==[45]) ⟨b.k,b.a,e.op,0,0,0,[],[],[],false,0,0,some true,0,[]⟩
  else bif e.k==3 then (F.fb e.op).bind fun ok=>finO F e ok ⟨b.k,b.a,e.op,0,0,0,[],[],[],false,0,0,some true,0,[]⟩
  else bif e.k==4 then finO F e true ⟨b.k,b.a,[],0,0,0,[],[],[],e.nt,0,0,some true,0,[]⟩
  else bif e.k==5 then (F.fc e.op).bind fun ok=>finO F e ok ⟨b.k,b.a,e.op,0,0,0,[],[],[],false,0,0,some true,0,[]⟩
  else bif e.k==6 then (F.ft e.tk e.ts).bind fun ok=>finO F e ok ⟨b.k,b.a,[],0,0,0,[],[],[],false,e.tk,e.ts,some true,0,[]⟩
  else some (.bool false)
theorem own_raw (F:FOw)(fu:Nat)(e:XR):prun (enOw F) hh0 fu false Tryz.f103 [.agg e.cells]=ownO F e:=by kernel_rfl
def tR1 (f:XR→Int→Option Bool):HFn:=⟨fun bs xs k=>match bs,xs with
 |[[.int .i64 d]],[x,.ptr 0 0]=>onXR x fun e=>(f e d).bind fun b=>k [[.int .i64 d]] (.bool b)
 |_,_=>none⟩
def tIx18 (f:Nat→List PV→Int→Option Int):HFn:=⟨fun bs xs k=>match bs,xs with
 |[[.int .i64 d]],[.sl _ z n c,.clo q [.ptr 0 0]]=>if z=13 then if q=105 then (f n c d).bind fun b=>k [[.int .i64 d]] (.int .i64 b) else none else none
 |_,_=>none⟩
def tRB' (f:Nat→List PV→Int→Option Bool):HFn:=⟨fun bs xs k=>match bs,xs with
 |[[.int .i64 d]],[.sl _ z n c,.clo q [.ptr 0 0]]=>if z=13 then if q=105 then (f n c d).bind fun b=>k [[.int .i64 d]] (.bool b) else none else none
 |_,_=>none⟩
theorem right1_raw {R:Type}(fr:XR→Int→Option Bool)(fu:Nat)(e:XR)(d:Int)(K:List (List PV)→PV→Option R):prunH (enH [(54,tXdB fr)] [] []) hh0 fu Tryz.f105 [[.int .i64 d]] [.agg e.cells,.ptr 0 0] K =
  (fr e (IntKind.i64.wrap (d+1))).bind fun b=>K [[.int .i64 d]] (.bool (!b)):=by kernel_rfl
theorem rcont_raw {R:Type}(fi:Nat→List PV→Int→Option Int)(fu:Nat)(nl:Option Bool)(n:Nat)(c:List PV)(d:Int)(K:List (List PV)→PV→Option R):prunH (enH [] [(156,tIx18 fi)] []) hh0 fu Tryz.f75 [[.int .i64 d]] [.sl nl 13 n c,.clo 105 [.ptr 0 0]] K =
  (fi n c d).bind fun i=>K [[.int .i64 d]] (.bool (decide (0≤i))):=by kernel_rfl
theorem right18_raw (fo fk:XR→Option Bool)(fc:Nat→List PV→Int→Option Bool)(fu:Nat)(e:XR)(d:Int):prun (enH [(103,tXb fo),(104,tXb fk)] [(75,tRB' fc)] []) hh0 fu false Tryz.f54 [.agg e.cells,.int .i64 d] =
  (bif !decide (60≤d) then (fo e).bind fun o=>bif !!o then (fk e).bind fun q=>bif !q then some (.bool false) else (fc e.kn e.kc d).bind fun b=>some (.bool (!b)) else some (.bool false) else some (.bool false)):=by kernel_rfl
theorem rexp_raw (fr:XR→Int→Option Bool)(fu:Nat)(e:XR):prun (enH [(54,tXdB fr)] [] []) hh0 fu false Tryz.f23 [.agg e.cells]=(fr e 0).bind fun b=>some (.bool b):=by kernel_rfl
def xrK {S:Type}(cs:List PV)(k:XR→Option S):Option S :=
 cs.head?.bind fun x=>(x.asInt .i64).bind fun k1=>cs.tail.head?.bind fun x=>(x.asInt .i64).bind fun a=>cs.tail.tail.head?.bind fun x=>x.asStr.bind fun op =>
 cs.tail.tail.tail.head?.bind fun x=>(x.asInt .i64).bind fun vk=>cs.tail.tail.tail.tail.head?.bind fun x=>(x.asInt .i64).bind fun vn=>cs.tail.tail.tail.tail.tail.head?.bind fun x=>(x.asInt .i64).bind fun vc=>cs.tail.tail.tail.tail.tail.tail.head?.bind fun x=>x.asStr.bind fun vs =>
 cs.tail.tail.tail.tail.tail.tail.tail.head?.bind fun x=>x.asStr.bind fun tb=>cs.tail.tail.tail.tail.tail.tail.tail.tail.head?.bind fun x=>x.asStr.bind fun nm=>cs.tail.tail.tail.tail.tail.tail.tail.tail.tail.head?.bind fun x=>x.asBool.bind fun nt =>
 cs.tail.tail.tail.tail.tail.tail.tail.tail.tail.tail.head?.bind fun x=>(x.asInt .i64).bind fun tk=>cs.tail.tail.tail.tail.tail.tail.tail.tail.tail.tail.tail.head?.bind fun x=>(x.asInt .i64).bind fun ts=>cs.tail.tail.tail.tail.tail.tail.tail.tail.tail.tail.tail.tail.head?.bind fun x=>(x.asSl 13).bind fun p =>
  k ⟨k1,a,op,vk,vn,vc,vs,tb,nm,nt,tk,ts,p.1,p.2.1,p.2.2⟩
def xAt {S:Type}(n:Nat)(c:List PV)(i:Int)(k:XR→Option S):Option S:=chk (decide (0≤i)&&decide (i<(n:Int))) (xrK ((c.drop (i.toNat * 13)).take 13) k)
theorem xAt_eq {S:Type}{l:List XR}{i:Nat}{x:XR}{k:XR→Option S}(h:l[i]? = some x):xAt l.length (l.flatMap XR.cells) (i:Int) k=k x:=by
 have hi:=(List.getElem?_eq_some_iff.1 h).1
 unfold xAt
 rw[chk,cond_t (by rw[decide_eq_true (by omega),decide_eq_true (by omega)];rfl),Int.toNat_natCast,flat_at xr_len h]
 rfl
noncomputable def fIx:Func:=Tryz.f156
def hIx18:Hints:=⟨[],[(0,⟨[(0,false),(1,false),(7,false),(8,false)],[19]⟩)]⟩
def frIx18 (nl:Option Bool)(n:Nat)(c:List PV)(d i:Int):St:=frameB 19 20 [(0,(.sl nl 13 n c,0)),(1,(.clo 105 [.ptr 19 0],0)),(7,(.int .i64 n,0)),(8,(.int .i64 i,0))] [(19,[(.int .i64 d,0)])]
noncomputable def enIx18 (f:XR→Int→Option Bool):Env:=enH [] [(105,tR1 f)] []
section
variable {R:Type}
noncomputable def ixKr (f:XR→Int→Option Bool)(K:List (List PV)→PV→Option R)(st:St):Option R:=pfinH (enIx18 f) 1 fIx st fun bs _ v=>K bs v
noncomputable def ixL18 (f:XR→Int→Option Bool)(fu:Nat)(K:List (List PV)→PV→Option R)(m:Nat)(st:St):Option R:=loopK (enIx18 f) hIx18 fu (ixKr f K) fIx (fun _=>none) [1,0,1,0] 0 m st
theorem ix18_raw (f:XR→Int→Option Bool)(fu:Nat)(nl:Option Bool)(n:Nat)(c:List PV)(d:Int)(K:List (List PV)→PV→Option R) :
  prunH (enIx18 f) hIx18 fu fIx [[.int .i64 d]] [.sl nl 13 n c,.clo 105 [.ptr 0 0]] K=ixL18 f fu K fu (frIx18 nl n c d 0):=prunHN_eq.trans (by kernel_rfl)
theorem ix18_step (f:XR→Int→Option Bool)(fu:Nat)(nl:Option Bool)(n:Nat)(c:List PV)(d i:Int)(K:List (List PV)→PV→Option R)(G:St→Option R) :
  stepK (enIx18 f) hIx18 fu (ixKr f K) fIx [1,0,1,0] (fun _=>none) (frIx18 nl n c d i) (fun st=>pnorm (hIx18.loop.lookup 0) st G) =
   bif decide (i<(n:Int)) then xAt n c i fun x=>(f x d).bind fun b=>bif b then K [[.int .i64 d]] (.int .i64 i) else G (frIx18 nl n c d (IntKind.i64.wrap (i+1))) else K [[.int .i64 d]] (.int .i64 (-1)):=by kernel_rfl
end
noncomputable def fWo:Func:=Tryz.f49
def hWo:Hints:=⟨[],[(0,⟨[(0,false),(7,false),(8,false),(9,false)],[]⟩)]⟩
def frWo (s:List UInt8)(nl:Option Bool)(n:Nat)(c:List PV)(i:Int):St:=frame 17 [(0,(.str s,0)),(7,(.sl nl 1 n c,0)),(8,(.int .i64 n,0)),(9,(.int .i64 i,0))] []
noncomputable def woL (fu n:Nat)(st:St):Option PV:=loopF (enH [] [] []) hWo fu false fWo [1,0,1,0] 0 n st
theorem wo_raw (fu:Nat)(s:List UInt8)(nl:Option Bool)(n:Nat)(c:List PV):prun (enH [] [] []) hWo fu false fWo [.str s,.sl nl 1 n c]=woL fu fu (frWo s nl n c 0):=prunN_eq.trans (by kernel_rfl)
theorem wo_step (fu:Nat)(s:List UInt8)(nl:Option Bool)(n:Nat)(c:List PV)(i:Int)(K:St→Option PV) :
  stepF (enH [] [] []) hWo fu false fWo [1,0,1,0] (frWo s nl n c i) (fun st=>pnorm (hWo.loop.lookup 0) st K) =
   bif decide (i<(n:Int)) then chk (decide (0≤i)&&decide (i<(n:Int))) (((c.drop (i.toNat * 1)).take 1).head?.bind fun x=>x.asStr.bind fun u=>bif u==s then some (.bool true) else K (frWo s nl n c (IntKind.i64.wrap (i+1)))) else some (.bool false):=by kernel_rfl
noncomputable def fNa18:Func:=Tryz.f48
def hNa18:Hints:=⟨[],[(0,⟨[(0,false),(3,false)],[]⟩)]⟩
def frNa18 (s:List UInt8)(i:Int):St:=frame 43 [(0,(.str s,0)),(3,(.int .i64 i,0))] []
noncomputable def naL18 (fu n:Nat)(st:St):Option PV:=loopF (enH [] [] []) hNa18 fu false fNa18 [1,0,1,0] 0 n st
def naC18 (i:Int)(c:UInt8):Bool:=bif (bif decide ((c.toNat:Int)<97) then true else decide (122<(c.toNat:Int))) then (bif i==0 then true else bif (bif decide ((c.toNat:Int)<48) then true else decide (57<(c.toNat:Int))) then (c.toNat:Int) != 95 else false) else false
theorem na18_raw (fu:Nat)(s:List UInt8):prun (enH [] [] []) hNa18 fu false fNa18 [.str s]=naL18 fu fu (frNa18 s 0):=prunN_eq.trans (by kernel_rfl)
theorem na18_step (fu:Nat)(s:List UInt8)(i:Int)(K:St→Option PV) :
  stepF (enH [] [] []) hNa18 fu false fNa18 [1,0,1,0] (frNa18 s i) (fun st=>pnorm (hNa18.loop.lookup 0) st K) =
  bif decide (i<(s.length:Int)) then ixB s i fun c=>bif naC18 i c then some (.bool false) else K (frNa18 s (IntKind.i64.wrap (i+1)))
  else some (.bool (bif s != [] then decide ((s.length:Int)≤24) else false)):=by kernel_rfl
structure FEx where
 fe:XR→Int→Option Bool
 fr:Int→Int→Int→List UInt8→Option Bool
 fn:List UInt8→Option Bool
 fw:List UInt8→Nat→List PV→Option Bool
 ft:Int→Int→Option Bool
noncomputable def fEx:Func:=Tryz.f20
def hEx:Hints:=⟨[],[(0,⟨[(1,false),(2,false),(12,false),(13,false),(14,false)],[2]⟩)]⟩
noncomputable def enEx (F:FEx):Env:=enH [(20,tXdB F.fe),(47,tvB F.fr),(48,tWb F.fn),(49,tSl F.fw),(50,tTb F.ft)] [] []
def frEx (e:XR)(d i:Int):St:=frame 203 [(1,(.int .i64 d,0)),(2,(.ptr 2 0,0)),(12,(.sl e.knl 13 e.kn e.kc,0)),(13,(.int .i64 e.kn,0)),(14,(.int .i64 i,0))] [(2,e.cells.map fun x=>(x,0))]
noncomputable def exL (F:FEx)(fu n:Nat)(st:St):Option PV:=loopF (enEx F) hEx fu false fEx [1,1,0,1,0] 0 n st
theorem ex_raw (F:FEx)(fu:Nat)(e:XR)(d:Int):prun (enEx F) hEx fu false fEx [.agg e.cells,.int .i64 d]=bif d==60 then some (.bool false) else exL F fu fu (frEx e d 0):=prunN_eq.trans (by kernel_rfl)
def boB (b:Bool):Option PV:=some (.bool b)
def exSw (F:FEx)(e:XR):Option PV :=
 let n:Int:=e.kn
 bif e.k==0 then (bif n==0 then (F.fr e.vk e.vn e.vc e.vs).bind fun r=>boB (bif (bif r then !(bif (bif e.vk==2 then true else e.vk==3) then decide (e.vn<0) else false) else false) then !(bif e.vk==3 then e.vc==0 else false) else false) else boB false)
 else bif e.k==1 then (bif n==0 then (F.fn e.nm).bind fun r=>bif (bif r then !(e.tb==[]) else false) then (F.fn e.tb).bind fun q=>boB q else boB (bif r then (bif e.tb==[] then true else false) else false) else boB false)
 else bif e.k==2 then boB (bif n==1 then (bif e.op==wNOT then true else e.op==[45]) else false)
 else bif e.k==3 then (bif n==2 then (F.fw e.op 13 (wsBin.flatMap stC)).bind fun r=>boB r else boB false)
 else bif e.k==4 then boB (n==1)
 else bif e.k==5 then (F.fw e.op 4 (wsCall.flatMap stC)).bind fun r=>boB (bif r then (bif n==1 then true else (bif n==0 then e.op==wCOUNT else false)) else false)
 else bif e.k==6 then (bif n==1 then (F.ft e.tk e.ts).bind fun r=>boB r else boB false)
 else boB false
def exT2 (F:FEx)(e:XR):Option PV:=bif (bif (bif (bif e.k != 2 then e.k != 3 else false) then e.k != 5 else false) then e.op != [] else false) then boB false else exSw F e
def ex59 (e:XR)(v:Bool):Bool:=bif (bif v then true else (bif e.k != 1 then (bif e.tb != [] then true else e.nm != []) else false)) then true else (bif e.k != 4 then e.nt else false)
def exT1 (F:FEx)(e:XR)(v:Bool):Option PV :=
 bif (bif !ex59 e v then e.k != 6 else false) then (bif (bif !ex59 e v then e.k != 6 else false) then (bif !eqT2 e.tk e.ts 0 0 then boB false else exT2 F e) else none) else bif (bif !ex59 e v then e.k != 6 else false) then none else bif (bif ex59 e v then true else (bif e.k != 6 then false else false)) then boB false else exT2 F e
def exTail (F:FEx)(e:XR):Option PV:=bif e.k != 0 then exT1 F e (!eqV4 e.vk e.vn e.vc e.vs 0 0 0 []) else exT1 F e false
theorem ex_step (F:FEx)(fu:Nat)(e:XR)(d i:Int)(K:St→Option PV) :
  stepF (enEx F) hEx fu false fEx [1,1,0,1,0] (frEx e d i) (fun st=>pnorm (hEx.loop.lookup 0) st K) =
   bif decide (i<(e.kn:Int)) then xAt e.kn e.kc i fun x=>(F.fe x (IntKind.i64.wrap (d+1))).bind fun b=>bif !b then some (.bool false) else K (frEx e d (IntKind.i64.wrap (i+1))) else exTail F e:=by kernel_rfl
def unlikeB (e d:XR)(p:Bool):Bool :=
 bif (bif (bif (bif (bif (bif (bif e.k != d.k then true else e.op != d.op) then true else !eqV4 e.vk e.vn e.vc e.vs d.vk d.vn d.vc d.vs) then true else e.tb != d.tb) then true else e.nm != d.nm) then true else !(e.nt==d.nt)) then true else !eqT2 e.tk e.ts d.tk d.ts) then true else (bif p then e.a != d.a else false)
theorem rsame_raw (fs:Nat→List PV→Nat→List PV→Bool→Option Bool)(fu:Nat)(e d:XR)(p:Bool):prun (enH [(27,tKKp fs)] [] []) hh0 fu false Tryz.f11 [.agg e.cells,.agg d.cells,.bool p] =
  bif unlikeB e d p then some (.bool false) else (fs e.kn e.kc d.kn d.kc p).bind fun b=>some (.bool b):=by kernel_rfl
theorem same_raw (fa:XR→XR→Option Bool)(fs:Nat→List PV→Nat→List PV→Option Bool)(fu:Nat)(e d:XR):prun (enH [(28,tXX fa),(29,tKK fs)] [] []) hh0 fu false Tryz.f12 [.agg e.cells,.agg d.cells] =
  (fa e d).bind fun b=>bif b then (fs e.kn e.kc d.kn d.kc).bind fun r=>some (.bool r) else some (.bool false):=by kernel_rfl
theorem sames_raw (fs:Nat→List PV→Nat→List PV→Option Bool)(fu:Nat)(nl:Option Bool)(n:Nat)(c:List PV)(ml:Option Bool)(m:Nat)(d:List PV) :
  prun (enH [(63,tKKf fs)] [] []) hh0 fu false Tryz.f29 [.sl nl 13 n c,.sl ml 13 m d]=(fs n c m d).bind fun b=>some (.bool b):=by kernel_rfl
noncomputable def fSs:Func:=Tryz.f27
def hSs:Hints:=⟨[],[(0,⟨[(0,false),(1,false),(2,false),(14,false),(15,false)],[]⟩)]⟩
noncomputable def enSs (f:XR→XR→Bool→Option Bool):Env:=enH [(11,tXXp f)] [] []
def frSs (nl:Option Bool)(n:Nat)(c:List PV)(ml:Option Bool)(m:Nat)(d:List PV)(p:Bool)(i:Int):St:=frame 30 [(0,(.sl nl 13 n c,0)),(1,(.sl ml 13 m d,0)),(2,(.bool p,0)),(14,(.int .i64 n,0)),(15,(.int .i64 i,0))] []
noncomputable def ssL (f:XR→XR→Bool→Option Bool)(fu k:Nat)(st:St):Option PV:=loopF (enSs f) hSs fu false fSs [1,1,0,1,0] 0 k st
theorem ss_raw (f:XR→XR→Bool→Option Bool)(fu:Nat)(nl:Option Bool)(n:Nat)(c:List PV)(ml:Option Bool)(m:Nat)(d:List PV)(p:Bool):prun (enSs f) hSs fu false fSs [.sl nl 13 n c,.sl ml 13 m d,.bool p] =
  bif (n:Int) != (m:Int) then some (.bool false) else ssL f fu fu (frSs nl n c ml m d p 0):=prunN_eq.trans (by kernel_rfl)
theorem ss_step (f:XR→XR→Bool→Option Bool)(fu:Nat)(nl:Option Bool)(n:Nat)(c:List PV)(ml:Option Bool)(m:Nat)(d:List PV)(p:Bool)(i:Int)(K:St→Option PV) :
  stepF (enSs f) hSs fu false fSs [1,1,0,1,0] (frSs nl n c ml m d p i) (fun st=>pnorm (hSs.loop.lookup 0) st K) =
   bif decide (i<(n:Int)) then xAt n c i fun x=>xAt m d i fun y=>(f x y p).bind fun b=>bif !b then some (.bool false) else K (frSs nl n c ml m d p (IntKind.i64.wrap (i+1))) else some (.bool true):=by kernel_rfl
noncomputable def fEq:Func:=Tryz.f63
def hEq:Hints:=⟨[],[(0,⟨[(1,false),(2,false),(15,false),(16,false),(17,false)],[]⟩)]⟩
noncomputable def enEq (f:XR→XR→Option Bool):Env:=enH [(12,tXX f)] [] []
def frEq (nl:Option Bool)(n:Nat)(c:List PV)(ml:Option Bool)(m:Nat)(d:List PV)(i:Int):St:=frame 32 [(1,(.sl ml 13 m d,0)),(2,(.clo 12 [],0)),(15,(.sl nl 13 n c,0)),(16,(.int .i64 n,0)),(17,(.int .i64 i,0))] []
noncomputable def eqL (f:XR→XR→Option Bool)(fu k:Nat)(st:St):Option PV:=loopF (enEq f) hEq fu false fEq [1,1,0,1,0] 0 k st
theorem eq_raw (f:XR→XR→Option Bool)(fu:Nat)(nl:Option Bool)(n:Nat)(c:List PV)(ml:Option Bool)(m:Nat)(d:List PV):prun (enEq f) hEq fu false fEq [.sl nl 13 n c,.sl ml 13 m d,.clo 12 []] =
  bif (n:Int) != (m:Int) then some (.bool false) else eqL f fu fu (frEq nl n c ml m d 0):=prunN_eq.trans (by kernel_rfl)
theorem eq_step (f:XR→XR→Option Bool)(fu:Nat)(nl:Option Bool)(n:Nat)(c:List PV)(ml:Option Bool)(m:Nat)(d:List PV)(i:Int)(K:St→Option PV) :
  stepF (enEq f) hEq fu false fEq [1,1,0,1,0] (frEq nl n c ml m d i) (fun st=>pnorm (hEq.loop.lookup 0) st K) =
   bif decide (i<(n:Int)) then xAt n c i fun x=>xAt m d i fun y=>(f x y).bind fun b=>bif !b then some (.bool false) else K (frEq nl n c ml m d (IntKind.i64.wrap (i+1))) else some (.bool true):=by kernel_rfl
def litB (a n c:Int)(s:List UInt8):Bool:=bif (bif rightB a n c s then (bif !(bif a==2 then true else a==3) then true else decide (0≤n)) else false) then (bif a != 3 then true else decide (0<c)) else false
def pOwn (e:XR):Bool :=
 bif e.k==0 then litB e.vk e.vn e.vc e.vs&&(e.op==[]&&(e.tb==[]&&(e.nm==[]&&(e.nt==false&&eqT2 e.tk e.ts 0 0))))
 else bif e.k==1 then (nameV e.nm&&(e.tb==[]||nameV e.tb))&&(e.op==[]&&(eqV4 e.vk e.vn e.vc e.vs 0 0 0 []&&(e.nt==false&&eqT2 e.tk e.ts 0 0)))
 else bif e.k==2 then (e.op==wNOT||e.op==[45])&&(eqV4 e.vk e.vn e.vc e.vs 0 0 0 []&&(e.tb==[]&&(e.nm==[]&&(e.nt==false&&eqT2 e.tk e.ts 0 0))))
 else bif e.k==3 then conA wsBin e.op&&(eqV4 e.vk e.vn e.vc e.vs 0 0 0 []&&(e.tb==[]&&(e.nm==[]&&(e.nt==false&&eqT2 e.tk e.ts 0 0))))
 else bif e.k==4 then e.op==[]&&(eqV4 e.vk e.vn e.vc e.vs 0 0 0 []&&(e.tb==[]&&(e.nm==[]&&eqT2 e.tk e.ts 0 0)))
 else bif e.k==5 then conA wsCall e.op&&(eqV4 e.vk e.vn e.vc e.vs 0 0 0 []&&(e.tb==[]&&(e.nm==[]&&(e.nt==false&&eqT2 e.tk e.ts 0 0))))
 else bif e.k==6 then tyB e.tk e.ts&&(e.op==[]&&(eqV4 e.vk e.vn e.vc e.vs 0 0 0 []&&(e.tb==[]&&(e.nm==[]&&e.nt==false))))
 else false
def pKid (k:Int)(op:List UInt8)(n:Nat):Bool :=
 bif k==0 then (n:Int)==0 else bif k==1 then (n:Int)==0 else bif k==3 then (n:Int)==2 else bif k==5 then (n:Int)==1||((n:Int)==0&&op==wCOUNT) else (n:Int)==1
def okB (e:XR):Bool:=pOwn e&&pKid e.k e.op e.kn
theorem eqV4_self (a n c:Int)(s:List UInt8):eqV4 a n c s a n c s=true:=by simp[eqV4]
theorem eqT2_self (a s:Int):eqT2 a s a s=true:=by simp[eqT2]
def FOwD:FOw:=⟨fun a n c s=>bif decide (s.length≤1000000) then some (litB a n c s) else none,fun s=>some (nameV s),fun s=>some (conA wsBin s),fun s=>some (conA wsCall s),fun a b=>some (tyB a b),fun e d=>some (alikeB e d)⟩
theorem finO_eq (e b:XR)(ok:Bool):finO FOwD e ok b=some (.bool (ok&&alikeB e b)):=by cases ok<;>rfl
theorem own_eq {e:XR}(h:smX e=true):ownO FOwD e=some (.bool (pOwn e)):=by
 unfold smX at h
 simp only[Bool.and_eq_true,decide_eq_true_eq] at h
 unfold ownO pOwn
 simp only[finO_eq]
 have hl:FOwD.fl e.vk e.vn e.vc e.vs=some (litB e.vk e.vn e.vc e.vs):=by
  show (bif decide (e.vs.length≤1000000) then _ else _)=_
  rw[cond_t (decide_eq_true h.1)]
 have hn:∀ s,FOwD.fn s=some (nameV s):=fun _=>rfl
 have hb:∀ s,FOwD.fb s=some (conA wsBin s):=fun _=>rfl
 have hc:∀ s,FOwD.fc s=some (conA wsCall s):=fun _=>rfl
 have ht:∀ a b,FOwD.ft a b=some (tyB a b):=fun _ _=>rfl
 rw[hl,hn,hn,hb,hc,ht]
 simp only[Option.bind_some,alikeB,bareX,beq_self_eq_true,cond_true,eqV4_self,eqT2_self]
 cases e.k==0 with
 |true =>
  simp only[cond_true]
  cases litB e.vk e.vn e.vc e.vs<;>cases e.op==[]<;>cases e.tb==[]<;>cases e.nm==[]<;>cases e.nt==false<;>cases eqT2 e.tk e.ts 0 0<;>rfl
 |false =>
 simp only[cond_false]
 cases e.k==1 with
 |true =>
  simp only[cond_true]
  cases nameV e.nm<;>cases nameV e.tb<;>cases e.op==[]<;>cases eqV4 e.vk e.vn e.vc e.vs 0 0 0 []<;>cases e.tb==[]<;>cases e.nt==false<;>cases eqT2 e.tk e.ts 0 0<;>rfl
 |false =>
 simp only[cond_false]
 cases e.k==2 with
 |true =>
  simp only[cond_true]
  cases e.op==wNOT<;>cases e.op==[45]<;>cases eqV4 e.vk e.vn e.vc e.vs 0 0 0 []<;>cases e.tb==[]<;>cases e.nm==[]<;>cases e.nt==false<;>cases eqT2 e.tk e.ts 0 0<;>rfl
 |false =>
 simp only[cond_false]
 cases e.k==3 with
 |true =>
  simp only[cond_true]
  cases conA wsBin e.op<;>cases eqV4 e.vk e.vn e.vc e.vs 0 0 0 []<;>cases e.tb==[]<;>cases e.nm==[]<;>cases e.nt==false<;>cases eqT2 e.tk e.ts 0 0<;>rfl
 |false =>
 simp only[cond_false]
 cases e.k==4 with
 |true =>
  simp only[cond_true]
  cases e.op==[]<;>cases eqV4 e.vk e.vn e.vc e.vs 0 0 0 []<;>cases e.tb==[]<;>cases e.nm==[]<;>cases eqT2 e.tk e.ts 0 0<;>rfl
 |false =>
 simp only[cond_false]
 cases e.k==5 with
 |true =>
  simp only[cond_true]
  cases conA wsCall e.op<;>cases eqV4 e.vk e.vn e.vc e.vs 0 0 0 []<;>cases e.tb==[]<;>cases e.nm==[]<;>cases e.nt==false<;>cases eqT2 e.tk e.ts 0 0<;>rfl
 |false =>
 simp only[cond_false]
 cases e.k==6 with
 |true =>
  simp only[cond_true]
  cases tyB e.tk e.ts<;>cases e.op==[]<;>cases eqV4 e.vk e.vn e.vc e.vs 0 0 0 []<;>cases e.tb==[]<;>cases e.nm==[]<;>cases e.nt==false<;>rfl
 |false=>rfl
theorem lit_two (a n c:Int)(s:List UInt8):litB a n c s=(bif (bif rightB a n c s then !(bif (bif a==2 then true else a==3) then decide (n<0) else false) else false) then !(bif a==3 then c==0 else false) else false):=by
 unfold litB
 have h1:decide (n<0)=!decide (0≤n):=by
  by_cases h:0≤n
  ·rw[decide_eq_true h,decide_eq_false (by omega)];rfl
  ·rw[decide_eq_false h,decide_eq_true (by omega)];rfl
 rw[h1,bne]
 cases hr:rightB a n c s with
 |false=>rfl
 |true =>
  cases h3:a==3 with
  |false=>cases a==2<;>cases decide (0≤n)<;>rfl
  |true =>
   have h3':=eq_of_beq h3
   subst h3'
   have:scB c=true:=by
    unfold rightB at hr
    simp only[show ((3:Int)==0)=false from rfl,show ((3:Int)==1)=false from rfl,show ((3:Int)==2)=false from rfl,show ((3:Int)==3)=true from rfl,cond_true,cond_false,Bool.and_eq_true] at hr
    exact hr.2
   unfold scB at this
   simp only[Bool.and_eq_true,decide_eq_true_eq] at this
   have h0:decide (0<c)=!(c==0):=by
    by_cases h:c=0
    ·subst h;rfl
    ·rw[decide_eq_true (by omega),beq_eq_false_iff_ne.2 h];rfl
   rw[h0]
   cases (3:Int)==2<;>cases decide (0≤n)<;>cases c==0<;>rfl
def FExD (fe:XR→Int→Option Bool):FEx:=⟨fe,rtD,fun s=>some (nameV s),fun s n c=>bif decide (n≤1000000) then (decG 1 stG n c).map fun l=>conA l s else none,fun a b=>some (tyB a b)⟩
theorem exSw_eq {fe:XR→Int→Option Bool}{e:XR}(h:smX e=true):exSw (FExD fe) e=boB (
  bif e.k==0 then litB e.vk e.vn e.vc e.vs&&(e.kn:Int)==0 else bif e.k==1 then (nameV e.nm&&(e.tb==[]||nameV e.tb))&&(e.kn:Int)==0 else bif e.k==2 then (e.op==wNOT||e.op==[45])&&(e.kn:Int)==1
  else bif e.k==3 then conA wsBin e.op&&(e.kn:Int)==2 else bif e.k==4 then (e.kn:Int)==1 else bif e.k==5 then conA wsCall e.op&&((e.kn:Int)==1||((e.kn:Int)==0&&e.op==wCOUNT)) else bif e.k==6 then tyB e.tk e.ts&&(e.kn:Int)==1 else false):=by
 unfold smX at h
 simp only[Bool.and_eq_true,decide_eq_true_eq] at h
 unfold exSw
 have hl:(FExD fe).fr e.vk e.vn e.vc e.vs=some (rightB e.vk e.vn e.vc e.vs):=by
  show rtD _ _ _ _=_
  unfold rtD
  rw[cond_t (decide_eq_true h.1)]
 have hn:∀ s,(FExD fe).fn s=some (nameV s):=fun _=>rfl
 have hb:∀ s,(FExD fe).fw s 13 (wsBin.flatMap stC)=some (conA wsBin s):=fun _=>rfl
 have hc:∀ s,(FExD fe).fw s 4 (wsCall.flatMap stC)=some (conA wsCall s):=fun _=>rfl
 have ht:∀ a b,(FExD fe).ft a b=some (tyB a b):=fun _ _=>rfl
 rw[hl,hn,hn,hb,hc,ht,lit_two]
 simp only[Option.bind_some,boB]
 cases e.k==0 with
 |true =>
  simp only[cond_true]
  cases (e.kn:Int)==0<;>cases rightB e.vk e.vn e.vc e.vs<;>cases e.vk==3<;>cases e.vk==2<;>cases decide (e.vn<0)<;>cases e.vc==0<;>rfl
 |false =>
 simp only[cond_false]
 cases e.k==1 with
 |true =>
  simp only[cond_true]
  cases (e.kn:Int)==0<;>cases nameV e.nm<;>cases nameV e.tb<;>cases e.tb==[]<;>rfl
 |false =>
 simp only[cond_false]
 cases e.k==2 with
 |true =>
  simp only[cond_true]
  cases (e.kn:Int)==1<;>cases e.op==wNOT<;>cases e.op==[45]<;>rfl
 |false =>
 simp only[cond_false]
 cases e.k==3 with
 |true =>
  simp only[cond_true]
  cases (e.kn:Int)==2<;>cases conA wsBin e.op<;>rfl
 |false =>
 simp only[cond_false]
 cases e.k==4 with
 |true=>rfl
 |false =>
 simp only[cond_false]
 cases e.k==5 with
 |true =>
  simp only[cond_true]
  cases conA wsCall e.op<;>cases (e.kn:Int)==1<;>cases (e.kn:Int)==0<;>cases e.op==wCOUNT<;>rfl
 |false =>
 simp only[cond_false]
 cases e.k==6 with
 |true =>
  simp only[cond_true]
  cases (e.kn:Int)==1<;>cases tyB e.tk e.ts<;>rfl
 |false=>rfl
theorem bif_boB {b:Bool}{x y:Bool}:(bif b then boB x else boB y)=boB (bif b then x else y):=by cases b<;>rfl
theorem exTail_eq {fe:XR→Int→Option Bool}{e:XR}(h:smX e=true):exTail (FExD fe) e=boB (okB e):=by
 unfold exTail exT1 exT2
 rw[exSw_eq h]
 simp only[bif_boB,ex59,bne,okB,pOwn,pKid]
 have hk:∀ i j:Int,i≠j→e.k=i→(e.k==j)=false:=fun i j hij hi=>beq_eq_false_iff_ne.2 (by rw[hi];exact hij)
 by_cases h0:e.k=0
 ·rw[hk 0 1 (by decide) h0,hk 0 2 (by decide) h0,hk 0 3 (by decide) h0,hk 0 4 (by decide) h0,hk 0 5 (by decide) h0,hk 0 6 (by decide) h0,beq_iff_eq.2 h0]
  cases litB e.vk e.vn e.vc e.vs<;>cases (e.kn:Int)==0<;>cases e.op==[]<;>cases e.tb==[]<;>cases e.nm==[]<;>cases e.nt<;>cases eqT2 e.tk e.ts 0 0<;>rfl
 rw[beq_eq_false_iff_ne.2 h0]
 by_cases h1:e.k=1
 ·rw[hk 1 2 (by decide) h1,hk 1 3 (by decide) h1,hk 1 4 (by decide) h1,hk 1 5 (by decide) h1,hk 1 6 (by decide) h1,beq_iff_eq.2 h1]
  cases eqV4 e.vk e.vn e.vc e.vs 0 0 0 []<;>cases nameV e.nm<;>cases nameV e.tb<;>cases (e.kn:Int)==0<;>cases e.op==[]<;>cases e.tb==[]<;>cases e.nt<;>cases eqT2 e.tk e.ts 0 0<;>rfl
 rw[beq_eq_false_iff_ne.2 h1]
 by_cases h2:e.k=2
 ·rw[hk 2 3 (by decide) h2,hk 2 4 (by decide) h2,hk 2 5 (by decide) h2,hk 2 6 (by decide) h2,beq_iff_eq.2 h2]
  cases eqV4 e.vk e.vn e.vc e.vs 0 0 0 []<;>cases e.op==wNOT<;>cases e.op==[45]<;>cases (e.kn:Int)==1<;>cases e.tb==[]<;>cases e.nm==[]<;>cases e.nt<;>cases eqT2 e.tk e.ts 0 0<;>rfl
 rw[beq_eq_false_iff_ne.2 h2]
 by_cases h3:e.k=3
 ·rw[hk 3 4 (by decide) h3,hk 3 5 (by decide) h3,hk 3 6 (by decide) h3,beq_iff_eq.2 h3]
  cases eqV4 e.vk e.vn e.vc e.vs 0 0 0 []<;>cases conA wsBin e.op<;>cases (e.kn:Int)==2<;>cases e.tb==[]<;>cases e.nm==[]<;>cases e.nt<;>cases eqT2 e.tk e.ts 0 0<;>rfl
 rw[beq_eq_false_iff_ne.2 h3]
 by_cases h4:e.k=4
 ·rw[hk 4 5 (by decide) h4,hk 4 6 (by decide) h4,beq_iff_eq.2 h4]
  cases eqV4 e.vk e.vn e.vc e.vs 0 0 0 []<;>cases (e.kn:Int)==1<;>cases e.op==[]<;>cases e.tb==[]<;>cases e.nm==[]<;>cases e.nt<;>cases eqT2 e.tk e.ts 0 0<;>rfl
 rw[beq_eq_false_iff_ne.2 h4]
 by_cases h5:e.k=5
 ·rw[hk 5 6 (by decide) h5,beq_iff_eq.2 h5]
  cases eqV4 e.vk e.vn e.vc e.vs 0 0 0 []<;>cases conA wsCall e.op<;>cases (e.kn:Int)==1<;>cases (e.kn:Int)==0<;>cases e.op==wCOUNT<;>cases e.tb==[]<;>cases e.nm==[]<;>cases e.nt<;>cases eqT2 e.tk e.ts 0 0<;>rfl
 rw[beq_eq_false_iff_ne.2 h5]
 by_cases h6:e.k=6
 ·rw[beq_iff_eq.2 h6]
  cases eqV4 e.vk e.vn e.vc e.vs 0 0 0 []<;>cases tyB e.tk e.ts<;>cases (e.kn:Int)==1<;>cases e.op==[]<;>cases e.tb==[]<;>cases e.nm==[]<;>cases e.nt<;>rfl
 rw[beq_eq_false_iff_ne.2 h6]
 cases eqV4 e.vk e.vn e.vc e.vs 0 0 0 []<;>cases e.op==[]<;>cases e.tb==[]<;>cases e.nm==[]<;>cases e.nt<;>cases eqT2 e.tk e.ts 0 0<;>rfl
theorem kids_eq (e:XR):(let z:=some (PV.bool ((e.kn:Int)==0))
     let o:=some (PV.bool ((e.kn:Int)==1))
     let B:=bif e.k==3 then some (PV.bool ((e.kn:Int)==2)) else bif e.k==5 then some (PV.bool (bif (e.kn:Int)==1 then true else bif (e.kn:Int)==0 then e.op==wCOUNT else false)) else o
     bif e.k==0 then (bif e.k==0 then z else B) else bif e.k==1 then z else B)=some (.bool (pKid e.k e.op e.kn)):=by
  dsimp only
  unfold pKid
  cases e.k==0<;>cases e.k==1<;>cases e.k==3<;>cases e.k==5<;>cases (e.kn:Int)==1<;>cases (e.kn:Int)==0<;>cases e.op==wCOUNT<;>rfl
def rightG:Nat→TX→Bool
 |0,_=>false
 |n+1,.mk k op vk vn vc vs tb nm nt tk ts kids=>okB ⟨k,0,op,vk,vn,vc,vs,tb,nm,nt,tk,ts,some true,kids.length,[]⟩&&kids.all (rightG n)
theorem er_inv {d:Nat}{x:XR}{t:TX}(h:er (d+1) x=some t):∃ l ts,smX x=true∧x.kn=l.length∧x.kc=l.flatMap XR.cells∧mapO (er d) l=some ts∧t=.mk x.k x.op x.vk x.vn x.vc x.vs x.tb x.nm x.nt x.tk x.ts ts∧ts.length=l.length:=by
 rw[er] at h
 obtain⟨h0,h⟩:=bif_inv h
 obtain⟨l,h1,h⟩:=Option.bind_eq_some_iff.1 h
 obtain⟨ts,h2,h3⟩:=Option.map_eq_some_iff.1 h
 obtain⟨e1,e2⟩:=decG_inv xrG_inv h1
 exact⟨l,ts,h0,e1,e2,h2,h3.symm,mapO_len h2⟩
theorem rightG_node {n:Nat}{x:XR}{ts:List TX}(h:x.kn=ts.length):rightG (n+1) (.mk x.k x.op x.vk x.vn x.vc x.vs x.tb x.nm x.nt x.tk x.ts ts)=(okB x&&ts.all (rightG n)):=by
 rw[rightG,← h]
 rfl
def rgD (D:Nat)(x:XR)(d:Int):Option Bool:=(er D x).bind fun t=>bif decide (0≤d)&&decide (d≤60) then some (rightG (60-d).toNat t) else none
theorem rgD_kids {D:Nat}{l:List XR}{ts:List TX}(h:mapO (er D) l=some ts){d:Int}(h0:0≤d)(h1:d<60){n:Nat}(hn:(n:Int)=59-d):∀ (i:Nat) (x:XR),l[i]? = some x→∃ t,ts[i]? = some t∧rgD D x (d+1)=some (rightG n t):=fun i x hx=>by
 obtain⟨t,h2,h3⟩:=mapO_get h i x hx
 refine⟨t,h2,?_⟩
 unfold rgD
 rw[h3,Option.bind_some,cond_t (by simp only[Bool.and_eq_true,decide_eq_true_eq];omega),show (60-(d+1)).toNat=n by omega]
section
variable {NG:Nat} {W:World→Prop}
theorem none_tXdB {f:FuncId}{g:XR→Int→Option Bool}(hg:∀ x d,g x d=none):FOK NG W f (tXdB g) where
 nat:=tXdB_nat _
 call:=fun M xs vs r hW hng hgo hr h=>by
  exfalso
  simp only[tXdB] at h
  split at h
  ·obtain⟨e,-,h⟩:=onXR_inv h
   rw[hg] at h
   cases h
  ·cases h
end
theorem ok_typS:FOK NGs Ws 82 (tTb fun a b=>some (tyB a b)):=fok_wk (fok_s ok_typ) (tTb_nat _) rfl fun xs r h=>by
 simp only[tTb] at h
 split at h
 ·simp only[p_typ]
  exact h
 ·cases h
theorem ok_rtypS:FOK NGs Ws 50 (tTb fun a b=>some (tyB a b)):=fok_wk (fok_s ok_rtyp) (tTb_nat _) rfl fun xs r h=>by
 simp only[tTb] at h
 split at h
 ·simp only[p_typ]
  exact h
 ·cases h
theorem ok_sNm:FOK NGs Ws 136 (tWb fun s=>some (nameV s)):=fok_wk ok_sName (tWb_nat _) rfl fun xs r h=>by
 simp only[tWb] at h
 split at h
 ·simp only[tNm]
  exact h
 ·cases h
theorem ok_bin:FOK NGs Ws 186 (tWb fun s=>some (conA wsBin s)):=fok_tWb woks (allOK_cons (ok_con woks) allOK_nil) allH_nil (h:=hh0) Tryz.func186 rfl (by decide) fun s r h=>⟨0,(binary_raw conN 0 s).trans (by injection h with h;rw[← h];rfl)⟩
theorem ok_scall:FOK NGs Ws 187 (tWb fun s=>some (conA wsCall s)):=fok_tWb woks (allOK_cons (ok_con woks) allOK_nil) allH_nil (h:=hh0) Tryz.func187 rfl (by decide) fun s r h=>⟨0,(scall_raw conN 0 s).trans (by injection h with h;rw[← h];rfl)⟩
theorem ok_alike:FOK NGs Ws 28 (tXX fun e d=>some (alikeB e d)):=fok_tXX woks allOK_nil allH_nil (h:=hh0) Tryz.func28 rfl (by decide) fun e d r h=>⟨0,(alike_raw 0 e d).trans (by injection h with h;rw[← h])⟩
theorem ok_lit18:FOK NGs Ws 185 (tvB FOwD.fl):=fok_tvB woks (allOK_cons ok_rtD allOK_nil) allH_nil (h:=hh0) Tryz.func185 rfl (by decide) fun a n c s r h=>⟨0,(lit18_raw rtD 0 a n c s).trans (by
 have h:(bif decide (s.length≤1000000) then some (litB a n c s) else none)=some r:=h
 obtain⟨h1,h2⟩:=bif_inv h
 injection h2 with h2
 rw[← h2]
 unfold rtD litB
 rw[h1]
 rfl)⟩
theorem ok_own:FOK NGs Ws 103 (tXb fun e=>bif smX e then some (pOwn e) else none):=fok_tXb woks (allOK_cons ok_lit18 (allOK_cons ok_sNm (allOK_cons ok_bin (allOK_cons ok_scall (allOK_cons ok_typS (allOK_cons ok_alike allOK_nil)))))) allH_nil (h:=hh0) Tryz.func103 rfl (by decide) fun e r h=>⟨0,(own_raw FOwD 0 e).trans (by
 obtain⟨h1,h2⟩:=bif_inv h
 injection h2 with h2
 rw[own_eq h1,h2])⟩
theorem ok_kids18:FOK NGs Ws 104 (tXb fun e=>some (pKid e.k e.op e.kn)):=fok_tXb woks allOK_nil allH_nil (h:=hh0) Tryz.func104 rfl (by decide) fun e r h=>⟨0,(kids18_raw 0 e).trans ((kids_eq e).trans (by injection h with h;rw[h]))⟩
theorem tR1_nat (f:XR→Int→Option Bool):(tR1 f).nat:=by
 intro R bs xs k
 simp only[tR1]
 split
 ·simp only[onXR_bind,Option.bind_assoc,Option.bind_some]
 ·rfl
theorem tIx18_nat (f:Nat→List PV→Int→Option Int):(tIx18 f).nat:=by
 intro R bs xs k
 simp only[tIx18]
 split
 ·simp only[iteo_bind,Option.bind_assoc,Option.bind_some]
 ·rfl
theorem tRB'_nat (f:Nat→List PV→Int→Option Bool):(tRB' f).nat:=by
 intro R bs xs k
 simp only[tRB']
 split
 ·simp only[iteo_bind,Option.bind_assoc,Option.bind_some]
 ·rfl
def r1D (D:Nat)(x:XR)(d:Int):Option Bool:=bif decide (0≤d)&&decide (d<60) then (rgD D x (d+1)).map not else none
def fdB:List Bool→Int→Int
 |[],_=>-1
 |b::l,i=>bif b then i else fdB l (i+1)
theorem fdB_any:∀ (l:List Bool) (i:Int),0≤i→decide (0≤fdB l i)=l.any id
 |[],i,_=>rfl
 |b::l,i,h=>by
  rw[fdB,List.any_cons]
  cases b with
  |true=>exact decide_eq_true h
  |false=>exact fdB_any l (i+1) (by omega)
def ixD (D:Nat)(n:Nat)(c:List PV)(d:Int):Option Int:=(decG 13 xrG n c).bind fun l=>bif decide (l.length≤1000000) then (mapO (fun x=>r1D D x d) l).map fun bs=>fdB bs 0 else none
def cfD (D:Nat)(n:Nat)(c:List PV)(d:Int):Option Bool:=(decG 13 xrG n c).bind fun l=>bif decide (l.length≤1000000) then (mapO (fun x=>r1D D x d) l).map fun bs=>bs.any id else none
theorem ok_r1 {D:Nat}(hr:FOK NGs Ws 54 (tXdB (rgD D))):HOK NGs Ws 105 (tR1 (r1D D)) :=
 hok woks (allOK_cons hr allOK_nil) allH_nil allI_nil (h:=hh0) Tryz.func105 rfl (by decide) (tR1_nat _) fun bs xs r h=>by
  simp only[tR1] at h
  split at h
  ·obtain⟨e,he,h2⟩:=onXR_inv h
   subst he
   obtain⟨b,hb,h3⟩:=Option.bind_eq_some_iff.1 h2
   unfold r1D at hb
   obtain⟨h4,hb⟩:=bif_inv hb
   obtain⟨q,hq,rfl⟩:=Option.map_eq_some_iff.1 hb
   simp only[Bool.and_eq_true,decide_eq_true_eq] at h4
   refine⟨0,(right1_raw (rgD D) 0 e _ _).trans ?_⟩
   rw[wrapI_of (by omega) (by omega),hq]
   exact h3
  ·cases h
theorem ix_loop {R:Type}(f:XR→Int→Option Bool)(fu:Nat)(nl:Option Bool)(l:List XR)(hl:l.length≤1000000)(d:Int){bs:List Bool}(hb:mapO (fun x=>f x d) l=some bs)(K:List (List PV)→PV→Option R):∀ (k i m:Nat),i+k=l.length→k<m →
  ixL18 f fu K m (frIx18 nl l.length (l.flatMap XR.cells) d (i:Int))=K [[.int .i64 d]] (.int .i64 (fdB (bs.drop i) i))
 |k,i,0,_,h=>by omega
 |0,i,m+1,hi,_=>by
  unfold ixL18
  rw[loopK_succ,ix18_step,cond_f (decide_eq_false (by omega)),List.drop_of_length_le (by rw[mapO_len hb];omega)]
  rfl
 |k+1,i,m+1,hi,hm=>by
  have hc:=List.getElem?_eq_getElem (l:=l) (i:=i) (by omega)
  generalize l[i]=x at hc
  obtain⟨b,h2,h3⟩:=mapO_get hb i x hc
  have hd:bs.drop i=b::bs.drop (i+1):=by
   have:=(List.getElem?_eq_some_iff.1 h2)
   rw[List.drop_eq_getElem_cons this.1,this.2]
  have ih:=ix_loop f fu nl l hl d hb K k (i+1) m (by omega) (by omega)
  unfold ixL18 at ih ⊢
  rw[loopK_succ,ix18_step,cond_t (decide_eq_true (by omega)),xAt_eq hc,h3,Option.bind_some,hd,fdB]
  cases b with
  |true=>rfl
  |false =>
   rw[cond_false,cond_false,wrapI_of (by omega) (by omega),show (i:Int)+1=((i+1:Nat):Int) by omega]
   exact ih
theorem ok_ix18 {D:Nat}(hr:FOK NGs Ws 54 (tXdB (rgD D))):HOK NGs Ws 156 (tIx18 (ixD D)) :=
 hok woks allOK_nil (allH_cons (ok_r1 hr) allH_nil) allI_nil (h:=hIx18) Tryz.func156 rfl (by decide) (tIx18_nat _) fun bs xs r h=>by
  simp only[tIx18] at h
  split at h
  ·obtain⟨hz,h1⟩:=ite_inv h
   obtain⟨hq,h2⟩:=ite_inv h1
   subst hz hq
   obtain⟨q,hq,h3⟩:=Option.bind_eq_some_iff.1 h2
   unfold ixD at hq
   obtain⟨l,hl,hq⟩:=Option.bind_eq_some_iff.1 hq
   obtain⟨hle,hq⟩:=bif_inv hq
   obtain⟨b,hb,rfl⟩:=Option.map_eq_some_iff.1 hq
   obtain⟨e1,e2⟩:=decG_inv xrG_inv hl
   subst e1 e2
   refine⟨l.length+1,(ix18_raw (r1D D) _ _ _ _ _ _).trans (Eq.trans ?_ h3)⟩
   exact ix_loop (r1D D) _ _ l (of_decide_eq_true hle) _ hb _ l.length 0 _ (by omega) (by omega)
  ·cases h
theorem ok_cf18 {D:Nat}(hr:FOK NGs Ws 54 (tXdB (rgD D))):HOK NGs Ws 75 (tRB' (cfD D)) :=
 hok woks allOK_nil (allH_cons (ok_ix18 hr) allH_nil) allI_nil (h:=hh0) Tryz.func75 rfl (by decide) (tRB'_nat _) fun bs xs r h=>by
  simp only[tRB'] at h
  split at h
  ·obtain⟨hz,h1⟩:=ite_inv h
   obtain⟨hq,h2⟩:=ite_inv h1
   subst hz hq
   obtain⟨q,hq,h3⟩:=Option.bind_eq_some_iff.1 h2
   unfold cfD at hq
   obtain⟨l,hl,hq⟩:=Option.bind_eq_some_iff.1 hq
   obtain⟨hle,hq⟩:=bif_inv hq
   obtain⟨b,hb,rfl⟩:=Option.map_eq_some_iff.1 hq
   refine⟨0,(rcont_raw (ixD D) _ _ _ _ _ _).trans (Eq.trans ?_ h3)⟩
   unfold ixD
   rw[hl,Option.bind_some,hle,cond_true,hb,Option.map_some,Option.bind_some,fdB_any _ _ (Int.le_refl _)]
  ·cases h
theorem all_any (l:List TX)(p:TX→Bool):l.all p=!(l.map fun t=>!p t).any id:=by
 induction l with
 |nil=>rfl
 |cons a l ih=>rw[List.all_cons,List.map_cons,List.any_cons,ih];cases p a<;>rfl
theorem mapO_of {α β:Type}{f:α→Option β}{l:List α}{r:List β}(hl:r.length=l.length)(h:∀ (i:Nat) (x:α),l[i]? = some x→∃ y,r[i]? = some y∧f x=some y):mapO f l=some r:=by
 induction l generalizing r with
 |nil=>cases r with
  |nil=>rfl
  |cons a r=>simp at hl
 |cons a l ih=>cases r with
  |nil=>simp at hl
  |cons b r =>
   obtain⟨y,h1,h2⟩:=h 0 a rfl
   simp at h1
   subst h1
   rw[mapO_cons,h2,Option.bind_some,ih (by simpa using hl) (fun i x hx=>h (i+1) x (by simpa using hx))]
   rfl
theorem ok_right:∀ D,FOK NGs Ws 54 (tXdB (rgD D))
 |0=>none_tXdB fun _ _=>rfl
 |D+1 =>
  have ih:=ok_right D
  fok_tXdB woks (allOK_cons ok_own (allOK_cons ok_kids18 allOK_nil)) (allH_cons (ok_cf18 ih) allH_nil) (h:=hh0) Tryz.func54 rfl (by decide) fun e d r h=>⟨0,(right18_raw _ _ _ 0 e d).trans (by
   unfold rgD at h
   obtain⟨t,ht,h⟩:=Option.bind_eq_some_iff.1 h
   obtain⟨hd,h⟩:=bif_inv h
   injection h with h
   simp only[Bool.and_eq_true,decide_eq_true_eq] at hd
   obtain⟨l,ts,h0,h1,h2,h3,rfl,h4⟩:=er_inv ht
   subst h
   by_cases h60:d=60
   ·subst h60
    rfl
   ·obtain⟨n,hn⟩:∃ n:Nat,(n:Int)=59-d:=⟨(59-d).toNat,by omega⟩
    rw[show (60-d).toNat=n+1 by omega,rightG_node (by rw[h1,h4]),decide_eq_false (by omega),Bool.not_false,cond_true]
    rw[h0,cond_true,Option.bind_some,Option.bind_some,okB]
    cases pOwn e with
    |false=>rfl
    |true =>
     cases pKid e.k e.op e.kn with
     |false=>rfl
     |true =>
      simp only[Bool.not_true,Bool.not_false,cond_true,cond_false,Bool.true_and]
      have hb:mapO (fun x=>r1D D x d) l=some (ts.map fun t=>!rightG n t):=mapO_of (by simp[h4]) fun i x hx=>by
       obtain⟨t,g1,g2⟩:=rgD_kids h3 hd.1 (by omega) hn i x hx
       refine⟨!rightG n t,by rw[List.getElem?_map,g1];rfl,?_⟩
       unfold r1D
       rw[cond_t (by simp only[Bool.and_eq_true,decide_eq_true_eq];omega),g2]
       rfl
      have hl:decG 13 xrG e.kn e.kc=some l:=by rw[h1,h2];exact decG_of xr_len xrG_of l
      unfold cfD
      have hk:e.kn≤1000000:=by
       unfold smX at h0
       simp only[Bool.and_eq_true,decide_eq_true_eq] at h0
       exact h0.2.2.2
      rw[hl,Option.bind_some,cond_t (decide_eq_true (by omega)),hb,Option.map_some,Option.bind_some,all_any])⟩
theorem wo_loop (fu:Nat)(s:List UInt8)(nl:Option Bool)(l:List (List UInt8))(hl:l.length≤1000000):∀ (k i m:Nat),i+k=l.length→k<m→woL fu m (frWo s nl l.length (l.flatMap stC) (i:Int))=some (.bool (conA (l.drop i) s))
 |k,i,0,_,h=>by omega
 |0,i,m+1,hi,_=>by
  unfold woL
  rw[loopF_succ,wo_step,cond_f (decide_eq_false (by omega)),List.drop_of_length_le (by omega)]
  rfl
 |k+1,i,m+1,hi,hm=>by
  have hc:=List.getElem?_eq_getElem (l:=l) (i:=i) (by omega)
  rw[List.drop_eq_getElem_cons (show i<l.length by omega)]
  generalize l[i]=a at hc
  have ih:=wo_loop fu s nl l hl k (i+1) m (by omega) (by omega)
  unfold woL at ih ⊢
  rw[loopF_succ,wo_step,cond_t (decide_eq_true (by omega)),chk,cond_t (by rw[decide_eq_true (by omega),decide_eq_true (by omega)];rfl),Int.toNat_natCast,flat_at stC_len hc,wrapI_of (by omega) (by omega),show (i:Int)+1=((i+1:Nat):Int) by omega]
  simp only[stC,List.head?_cons,Option.bind_some,PV.asStr]
  have e:conA (a::l.drop (i+1)) s=(s==a||conA (l.drop (i+1)) s):=rfl
  have e2:(a==s)=(s==a):=by rw[Bool.eq_iff_iff,beq_iff_eq,beq_iff_eq,eq_comm]
  rw[e,e2]
  cases s==a with
  |true=>rfl
  |false=>exact ih
def woD (s:List UInt8)(n:Nat)(c:List PV):Option Bool:=bif decide (n≤1000000) then (decG 1 stG n c).map fun l=>conA l s else none
theorem ok_wo:FOK NGs Ws 49 (tSl woD):=fok_tSl woks allOK_nil allH_nil (h:=hWo) Tryz.func49 rfl (by decide) fun s nl n c r h=>by
 unfold woD at h
 obtain⟨hg,h⟩:=bif_inv h
 obtain⟨l,hl,rfl⟩:=Option.map_eq_some_iff.1 h
 obtain⟨rfl,rfl⟩:=decG_inv stG_inv hl
 exact⟨l.length+1,(wo_raw _ s nl _ _).trans (wo_loop _ s nl l (of_decide_eq_true hg) l.length 0 _ (by omega) (by omega))⟩
def naI18:List UInt8→Nat→Bool
 |[],_=>false
 |c::l,i=>naC18 (i:Int) c||naI18 l (i+1)
theorem naC_nm (i:Nat)(c:UInt8):naC18 (i:Int) c=!nmC i c:=by
 unfold naC18 nmC
 have h1:decide ((c.toNat:Int)<97)=!decide (97≤c.toNat):=by
  by_cases h:97≤c.toNat
  ·rw[decide_eq_true h,decide_eq_false (by omega)];rfl
  ·rw[decide_eq_false h,decide_eq_true (by omega)];rfl
 have h2:decide ((122:Int)<(c.toNat:Int))=!decide (c.toNat≤122):=by
  by_cases h:c.toNat≤122
  ·rw[decide_eq_true h,decide_eq_false (by omega)];rfl
  ·rw[decide_eq_false h,decide_eq_true (by omega)];rfl
 have h3:decide ((c.toNat:Int)<48)=!decide (48≤c.toNat):=by
  by_cases h:48≤c.toNat
  ·rw[decide_eq_true h,decide_eq_false (by omega)];rfl
  ·rw[decide_eq_false h,decide_eq_true (by omega)];rfl
 have h4:decide ((57:Int)<(c.toNat:Int))=!decide (c.toNat≤57):=by
  by_cases h:c.toNat≤57
  ·rw[decide_eq_true h,decide_eq_false (by omega)];rfl
  ·rw[decide_eq_false h,decide_eq_true (by omega)];rfl
 have h5:((c.toNat:Int) != 95)=!(c.toNat==95):=by
  by_cases h:c.toNat=95
  ·rw[h];rfl
  ·rw[beq_eq_false_iff_ne.2 h];exact bne_iff_ne.2 (by omega)
 have h6:((i:Int)==0)=!(i != 0):=by
  by_cases h:i=0
  ·subst h;rfl
  ·rw[bne_iff_ne.2 h];exact beq_eq_false_iff_ne.2 (by omega)
 rw[h1,h2,h3,h4,h5,h6]
 by_cases h9:c.toNat=95
 ·rw[h9];cases i != 0<;>rfl
 ·rw[beq_eq_false_iff_ne.2 h9]
  cases decide (97≤c.toNat)<;>cases decide (c.toNat≤122)<;>cases decide (48≤c.toNat)<;>cases decide (c.toNat≤57)<;>cases i != 0<;>rfl
theorem naI_nm:∀ (l:List UInt8) (i:Nat),naI18 l i=!nmL i l
 |[],i=>rfl
 |c::l,i=>by rw[naI18,nmL,naC_nm,naI_nm l (i+1),Bool.not_and]
theorem na18_loop (fu:Nat)(s:List UInt8)(hl:s.length≤1000000):∀ (k i n:Nat),i+k=s.length→k<n→naL18 fu n (frNa18 s (i:Int))=some (.bool (!naI18 (s.drop i) i&&(bif s != [] then decide ((s.length:Int)≤24) else false)))
 |k,i,0,_,h=>by omega
 |0,i,n+1,hi,hn=>by
  unfold naL18
  rw[loopF_succ,na18_step,cond_f (decide_eq_false (by omega)),List.drop_of_length_le (by omega)]
  rfl
 |k+1,i,n+1,hi,hn=>by
  have hc:=List.getElem?_eq_getElem (l:=s) (i:=i) (by omega)
  rw[List.drop_eq_getElem_cons (show i<s.length by omega),naI18]
  generalize s[i]=c at hc
  have ih:=na18_loop fu s hl k (i+1) n (by omega) (by omega)
  unfold naL18 at ih ⊢
  rw[loopF_succ,na18_step,cond_t (decide_eq_true (by omega)),ixB_eq hc,wrapI_of (x:=(i:Int)+1) (by omega) (by omega)]
  cases naC18 (i:Int) c
  ·rw[cond_false,Bool.false_or]
   exact ih
  ·rfl
def naD (s:List UInt8):Option Bool:=bif decide (s.length≤1000000) then some (nameV s) else none
theorem ok_na18:FOK NGs Ws 48 (tWb naD):=fok_tWb woks allOK_nil allH_nil (h:=hNa18) Tryz.func48 rfl (by decide) fun s r h=>by
 unfold naD at h
 obtain⟨hg,h⟩:=bif_inv h
 injection h with h
 subst h
 refine⟨s.length+1,(na18_raw _ s).trans ((na18_loop _ s (of_decide_eq_true hg) s.length 0 _ (by omega) (by omega)).trans ?_)⟩
 rw[List.drop_zero,naI_nm,Bool.not_not,nameV]
 congr 2
 congr 1
 cases s with
 |nil=>rfl
 |cons c t =>
  rw[show (c::t != [])=true from rfl,cond_true,decide_eq_true (show 1≤(c::t).length by simp),Bool.true_and]
  by_cases h:(c::t).length≤24
  ·rw[decide_eq_true h,decide_eq_true (by omega)]
  ·rw[decide_eq_false h,decide_eq_false (by omega)]
def FExS (D:Nat):FEx:=⟨rgD D,rtD,naD,woD,fun a b=>some (tyB a b)⟩
theorem exTail_S {D:Nat}{e:XR}(h:smX e=true):exTail (FExS D) e=boB (okB e):=by
 have h':=h
 unfold smX at h'
 simp only[Bool.and_eq_true,decide_eq_true_eq] at h'
 rw[← exTail_eq (fe:=rgD D) h]
 have hn1:(FExS D).fn e.nm=(FExD (rgD D)).fn e.nm:=by show naD _=_;unfold naD;rw[cond_t (decide_eq_true h'.2.2.1)];rfl
 have hn2:(FExS D).fn e.tb=(FExD (rgD D)).fn e.tb:=by show naD _=_;unfold naD;rw[cond_t (decide_eq_true h'.2.1)];rfl
 unfold exTail exT1 exT2 exSw
 rw[hn1,hn2]
 rfl
theorem ex_loop (D fu:Nat)(e:XR)(l:List XR)(hl:l.length≤1000000)(h1:e.kn=l.length)(h2:e.kc=l.flatMap XR.cells)(hs:smX e=true){d:Int}(h0:0≤d)(hd:d≤1000){bs:List Bool}(hb:mapO (fun x=>rgD D x (d+1)) l=some bs):∀ (k i m:Nat),i+k=l.length→k<m →
  exL (FExS D) fu m (frEx e d (i:Int))=boB ((bs.drop i).all id&&okB e)
 |k,i,0,_,h=>by omega
 |0,i,m+1,hi,_=>by
  unfold exL
  rw[loopF_succ,ex_step,cond_f (decide_eq_false (by omega)),List.drop_of_length_le (by rw[mapO_len hb];omega),exTail_S hs]
  rfl
 |k+1,i,m+1,hi,hm=>by
  have hc:=List.getElem?_eq_getElem (l:=l) (i:=i) (by omega)
  generalize l[i]=x at hc
  obtain⟨b,h3,h4⟩:=mapO_get hb i x hc
  have hdr:bs.drop i=b::bs.drop (i+1):=by
   have:=(List.getElem?_eq_some_iff.1 h3)
   rw[List.drop_eq_getElem_cons this.1,this.2]
  have ih:=ex_loop D fu e l hl h1 h2 hs h0 hd hb k (i+1) m (by omega) (by omega)
  unfold exL at ih ⊢
  rw[loopF_succ,ex_step,cond_t (decide_eq_true (by omega)),h1,h2,xAt_eq hc,wrapI_of (x:=d+1) (by omega) (by omega)]
  show ((rgD D x (d+1)).bind _)=_
  rw[h4,Option.bind_some,hdr,List.all_cons]
  cases b with
  |false=>rfl
  |true =>
   rw[Bool.not_true,cond_false,wrapI_of (by omega) (by omega),show (i:Int)+1=((i+1:Nat):Int) by omega]
   exact ih
theorem all_map (l:List TX)(p:TX→Bool):(l.map p).all id=l.all p:=by
 induction l with
 |nil=>rfl
 |cons a l ih=>rw[List.map_cons,List.all_cons,List.all_cons,ih];rfl
theorem ok_rEx:∀ D,FOK NGs Ws 20 (tXdB (rgD D))
 |0=>none_tXdB fun _ _=>rfl
 |D+1 =>
  have ih:=ok_rEx D
  fok_tXdB woks (allOK_cons ih (allOK_cons ok_rrtD (allOK_cons ok_na18 (allOK_cons ok_wo (allOK_cons ok_rtypS allOK_nil))))) allH_nil (h:=hEx) Tryz.func20 rfl (by decide) fun e d r h=>by
   unfold rgD at h
   obtain⟨t,ht,h⟩:=Option.bind_eq_some_iff.1 h
   obtain⟨hd,h⟩:=bif_inv h
   injection h with h
   simp only[Bool.and_eq_true,decide_eq_true_eq] at hd
   obtain⟨l,ts,h0,h1,h2,h3,rfl,h4⟩:=er_inv ht
   subst h
   refine⟨l.length+1,(ex_raw (FExS D) _ e d).trans ?_⟩
   by_cases h60:d=60
   ·subst h60
    rfl
   ·obtain⟨n,hn⟩:∃ n:Nat,(n:Int)=59-d:=⟨(59-d).toNat,by omega⟩
    have hk:e.kn≤1000000:=by
     unfold smX at h0
     simp only[Bool.and_eq_true,decide_eq_true_eq] at h0
     exact h0.2.2.2
    rw[show (60-d).toNat=n+1 by omega,rightG_node (by rw[h1,h4]),beq_eq_false_iff_ne.2 h60,cond_false]
    have hb:mapO (fun x=>rgD D x (d+1)) l=some (ts.map fun t=>rightG n t):=mapO_of (by simp[h4]) fun i x hx=>by
     obtain⟨t,g1,g2⟩:=rgD_kids h3 hd.1 (by omega) hn i x hx
     exact⟨rightG n t,by rw[List.getElem?_map,g1];rfl,g2⟩
    refine (ex_loop D _ e l (by omega) h1 h2 h0 hd.1 (by omega) hb l.length 0 _ (by omega) (by omega)).trans ?_
    rw[List.drop_zero,all_map,Bool.and_comm]
    rfl
mutual
def sameT:TX→TX→Bool
 | .mk k op vk vn vc vs tb nm nt tk ts ks,.mk k' op' vk' vn' vc' vs' tb' nm' nt' tk' ts' ks' =>
  alikeB ⟨k,0,op,vk,vn,vc,vs,tb,nm,nt,tk,ts,none,0,[]⟩ ⟨k',0,op',vk',vn',vc',vs',tb',nm',nt',tk',ts',none,0,[]⟩&&sameTs ks ks'
def sameTs:List TX→List TX→Bool
 |[],[]=>true
 |t::ts,u::us=>sameT t u&&sameTs ts us
 |_,_=>false
end
theorem sameTs_len:∀ {ts us:List TX},ts.length≠us.length→sameTs ts us=false
 |[],[],h=>absurd rfl h
 |[],_::_,_=>by rw[sameTs];all_goals simp
 |_::_,[],_=>by rw[sameTs];all_goals simp
 |t::ts,u::us,h=>by rw[sameTs,sameTs_len (by simpa using h),Bool.and_false]
def smD (D:Nat)(x y:XR):Option Bool:=(er D x).bind fun t=>(er D y).bind fun u=>some (sameT t u)
open Classical in
noncomputable def smpD (D:Nat) (x y:XR) (p:Bool):Option Bool:=bif p then (er D x).bind fun _=>if x=y then some true else none else smD D x y
def smsD (D:Nat)(n:Nat)(c:List PV)(m:Nat)(d:List PV):Option Bool :=
 (decG 13 xrG n c).bind fun l=>(decG 13 xrG m d).bind fun l'=>bif decide (l.length≤1000000)&&decide (l'.length≤1000000) then (mapO (er D) l).bind fun ts=>(mapO (er D) l').bind fun us=>some (sameTs ts us) else none
open Classical in
noncomputable def smspD (D:Nat) (n:Nat) (c:List PV) (m:Nat) (d:List PV) (p:Bool):Option Bool :=
 bif p then (decG 13 xrG n c).bind fun l=>bif decide (l.length≤1000000) then (mapO (er D) l).bind fun _=>if n=m∧c=d then some true else none else none else smsD D n c m d
section
variable {NG:Nat} {W:World→Prop}
theorem none_tXX {f:FuncId}{g:XR→XR→Option Bool}(hg:∀ x d,g x d=none):FOK NG W f (tXX g) where
 nat:=tXX_nat _
 call:=fun M xs vs r hW hng hgo hr h=>by
  exfalso
  simp only[tXX] at h
  split at h
  ·obtain⟨e,-,h⟩:=onXR_inv h
   obtain⟨d,-,h⟩:=onXR_inv h
   rw[hg] at h
   cases h
  ·cases h
theorem none_tXXp {f:FuncId}{g:XR→XR→Bool→Option Bool}(hg:∀ x d p,g x d p=none):FOK NG W f (tXXp g) where
 nat:=tXXp_nat _
 call:=fun M xs vs r hW hng hgo hr h=>by
  exfalso
  simp only[tXXp] at h
  split at h
  ·obtain⟨e,-,h⟩:=onXR_inv h
   obtain⟨d,-,h⟩:=onXR_inv h
   rw[hg] at h
   cases h
  ·cases h
end
theorem drop_cons_of {α:Type}{l:List α}{i:Nat}{x:α}(h:l[i]? = some x):l.drop i=x::l.drop (i+1):=by
 have:=(List.getElem?_eq_some_iff.1 h)
 rw[List.drop_eq_getElem_cons this.1,this.2]
theorem eq_loop (D fu:Nat)(nl ml:Option Bool)(l l':List XR)(hl:l.length≤1000000)(hll:l.length=l'.length){ts us:List TX}(h1:mapO (er D) l=some ts)(h2:mapO (er D) l'=some us):∀ (k i m:Nat),i+k=l.length→k<m →
  eqL (smD D) fu m (frEq nl l.length (l.flatMap XR.cells) ml l'.length (l'.flatMap XR.cells) (i:Int))=some (.bool (sameTs (ts.drop i) (us.drop i)))
 |k,i,0,_,h=>by omega
 |0,i,m+1,hi,_=>by
  unfold eqL
  rw[loopF_succ,eq_step,cond_f (decide_eq_false (by omega)),List.drop_of_length_le (by rw[mapO_len h1];omega),List.drop_of_length_le (by rw[mapO_len h2];omega),sameTs]
 |k+1,i,m+1,hi,hm=>by
  have hc:=List.getElem?_eq_getElem (l:=l) (i:=i) (by omega)
  have hc':=List.getElem?_eq_getElem (l:=l') (i:=i) (by omega)
  generalize l[i]=x at hc
  generalize l'[i]=y at hc'
  obtain⟨t,h3,h4⟩:=mapO_get h1 i x hc
  obtain⟨u,h5,h6⟩:=mapO_get h2 i y hc'
  have ih:=eq_loop D fu nl ml l l' hl hll h1 h2 k (i+1) m (by omega) (by omega)
  unfold eqL at ih ⊢
  rw[loopF_succ,eq_step,cond_t (decide_eq_true (by omega)),xAt_eq hc,xAt_eq hc',smD,h4,Option.bind_some,h6,Option.bind_some,Option.bind_some,drop_cons_of h3,drop_cons_of h5,sameTs]
  cases sameT t u with
  |false=>rfl
  |true =>
   rw[Bool.not_true,cond_false,wrapI_of (by omega) (by omega),show (i:Int)+1=((i+1:Nat):Int) by omega,Bool.true_and]
   exact ih
theorem neI {a b:Nat}(h:a≠b):((a:Int) != (b:Int))=true:=bne_iff_ne.2 (by omega)
theorem eqI {a b:Nat}(h:a=b):((a:Int) != (b:Int))=false:=by subst h;simp
theorem ok_eqf {D:Nat}(hr:FOK NGs Ws 12 (tXX (smD D))):FOK NGs Ws 63 (tKKf (smsD D)) :=
 fok_tKKf woks (allOK_cons hr allOK_nil) allH_nil (h:=hEq) Tryz.func63 rfl (by decide) fun nl n c ml m d r h=>by
  unfold smsD at h
  obtain⟨l,hl,h⟩:=Option.bind_eq_some_iff.1 h
  obtain⟨l',hl',h⟩:=Option.bind_eq_some_iff.1 h
  obtain⟨hg,h⟩:=bif_inv h
  obtain⟨ts,h1,h⟩:=Option.bind_eq_some_iff.1 h
  obtain⟨us,h2,h⟩:=Option.bind_eq_some_iff.1 h
  injection h with h
  subst h
  simp only[Bool.and_eq_true,decide_eq_true_eq] at hg
  obtain⟨rfl,rfl⟩:=decG_inv xrG_inv hl
  obtain⟨rfl,rfl⟩:=decG_inv xrG_inv hl'
  refine⟨l.length+1,(eq_raw (smD D) _ _ _ _ _ _ _).trans ?_⟩
  by_cases hne:l.length=l'.length
  ·rw[eqI hne,cond_false]
   exact eq_loop D _ _ _ l l' hg.1 hne h1 h2 l.length 0 _ (by omega) (by omega)
  ·rw[neI hne,cond_true,sameTs_len (by rw[mapO_len h1,mapO_len h2];exact hne)]
theorem ok_sames {D:Nat}(hr:FOK NGs Ws 12 (tXX (smD D))):FOK NGs Ws 29 (tKK (smsD D)) :=
 fok_tKK woks (allOK_cons (ok_eqf hr) allOK_nil) allH_nil (h:=hh0) Tryz.func29 rfl (by decide) fun nl n c ml m d r h=>⟨0,(sames_raw (smsD D) 0 nl n c ml m d).trans (by rw[h];rfl)⟩
theorem smX_kn {x:XR}(h:smX x=true):x.kn≤1000000:=by
 unfold smX at h
 simp only[Bool.and_eq_true,decide_eq_true_eq] at h
 exact h.2.2.2
theorem kn_dec {x:XR}{l:List XR}(h1:x.kn=l.length)(h2:x.kc=l.flatMap XR.cells):decG 13 xrG x.kn x.kc=some l:=by rw[h1,h2];exact decG_of xr_len xrG_of l
theorem ok_same:∀ D,FOK NGs Ws 12 (tXX (smD D))
 |0=>none_tXX fun _ _=>rfl
 |D+1 =>
  fok_tXX woks (allOK_cons ok_alike (allOK_cons (ok_sames (ok_same D)) allOK_nil)) allH_nil (h:=hh0) Tryz.func12 rfl (by decide) fun e d r h=>⟨0,(same_raw _ (smsD D) 0 e d).trans (by
   unfold smD at h
   obtain⟨t,ht,h⟩:=Option.bind_eq_some_iff.1 h
   obtain⟨u,hu,h⟩:=Option.bind_eq_some_iff.1 h
   injection h with h
   obtain⟨l,ts,h0,h1,h2,h3,rfl,h4⟩:=er_inv ht
   obtain⟨l',us,g0,g1,g2,g3,rfl,g4⟩:=er_inv hu
   subst h
   have hk:=smX_kn h0
   have hk':=smX_kn g0
   have e1:smsD D e.kn e.kc d.kn d.kc=some (sameTs ts us):=by
    unfold smsD
    rw[kn_dec h1 h2,Option.bind_some,kn_dec g1 g2,Option.bind_some,cond_t (by simp only[Bool.and_eq_true,decide_eq_true_eq];omega),h3,Option.bind_some,g3]
    rfl
   rw[sameT,Option.bind_some,e1]
   show (bif alikeB e d then _ else _)=some (PV.bool (alikeB e d&&sameTs ts us))
   cases alikeB e d<;>rfl)⟩
theorem unlike_eq (e d:XR):unlikeB e d false=!alikeB e d:=by
 unfold unlikeB alikeB
 simp only[bne]
 cases e.k==d.k<;>cases e.op==d.op<;>cases eqV4 e.vk e.vn e.vc e.vs d.vk d.vn d.vc d.vs<;>cases e.tb==d.tb<;>cases e.nm==d.nm<;>cases e.nt==d.nt<;>cases eqT2 e.tk e.ts d.tk d.ts<;>rfl
theorem unlike_self (e:XR)(p:Bool):unlikeB e e p=false:=by
 unfold unlikeB
 simp[eqV4_self,eqT2_self]
theorem ss_loop (D fu:Nat)(nl ml:Option Bool)(l l':List XR)(hl:l.length≤1000000)(hll:l.length=l'.length){ts us:List TX}(h1:mapO (er D) l=some ts)(h2:mapO (er D) l'=some us):∀ (k i m:Nat),i+k=l.length→k<m →
  ssL (smpD D) fu m (frSs nl l.length (l.flatMap XR.cells) ml l'.length (l'.flatMap XR.cells) false (i:Int))=some (.bool (sameTs (ts.drop i) (us.drop i)))
 |k,i,0,_,h=>by omega
 |0,i,m+1,hi,_=>by
  unfold ssL
  rw[loopF_succ,ss_step,cond_f (decide_eq_false (by omega)),List.drop_of_length_le (by rw[mapO_len h1];omega),List.drop_of_length_le (by rw[mapO_len h2];omega),sameTs]
 |k+1,i,m+1,hi,hm=>by
  have hc:=List.getElem?_eq_getElem (l:=l) (i:=i) (by omega)
  have hc':=List.getElem?_eq_getElem (l:=l') (i:=i) (by omega)
  generalize l[i]=x at hc
  generalize l'[i]=y at hc'
  obtain⟨t,h3,h4⟩:=mapO_get h1 i x hc
  obtain⟨u,h5,h6⟩:=mapO_get h2 i y hc'
  have ih:=ss_loop D fu nl ml l l' hl hll h1 h2 k (i+1) m (by omega) (by omega)
  have hs:smpD D x y false=some (sameT t u):=by
   show smD D x y=_
   rw[smD,h4,Option.bind_some,h6,Option.bind_some]
  unfold ssL at ih ⊢
  rw[loopF_succ,ss_step,cond_t (decide_eq_true (by omega)),xAt_eq hc,xAt_eq hc',hs,Option.bind_some,drop_cons_of h3,drop_cons_of h5,sameTs]
  cases sameT t u with
  |false=>rfl
  |true =>
   rw[Bool.not_true,cond_false,wrapI_of (by omega) (by omega),show (i:Int)+1=((i+1:Nat):Int) by omega,Bool.true_and]
   exact ih
theorem ss_loopT (D fu:Nat)(nl ml:Option Bool)(l:List XR)(hl:l.length≤1000000){ts:List TX}(h1:mapO (er D) l=some ts):∀ (k i m:Nat),i+k=l.length→k<m →
  ssL (smpD D) fu m (frSs nl l.length (l.flatMap XR.cells) ml l.length (l.flatMap XR.cells) true (i:Int))=some (.bool true)
 |k,i,0,_,h=>by omega
 |0,i,m+1,hi,_=>by
  unfold ssL
  rw[loopF_succ,ss_step,cond_f (decide_eq_false (by omega))]
 |k+1,i,m+1,hi,hm=>by
  have hc:=List.getElem?_eq_getElem (l:=l) (i:=i) (by omega)
  generalize l[i]=x at hc
  obtain⟨t,h3,h4⟩:=mapO_get h1 i x hc
  have ih:=ss_loopT D fu nl ml l hl h1 k (i+1) m (by omega) (by omega)
  have hs:smpD D x x true=some true:=by
   unfold smpD
   rw[cond_true,h4,Option.bind_some,if_pos rfl]
  unfold ssL at ih ⊢
  rw[loopF_succ,ss_step,cond_t (decide_eq_true (by omega)),xAt_eq hc,xAt_eq hc,hs,Option.bind_some,Bool.not_true,cond_false,wrapI_of (by omega) (by omega),show (i:Int)+1=((i+1:Nat):Int) by omega]
  exact ih
theorem ok_rsames {D:Nat}(hr:FOK NGs Ws 11 (tXXp (smpD D))):FOK NGs Ws 27 (tKKp (smspD D)) :=
 fok_tKKp woks (allOK_cons hr allOK_nil) allH_nil (h:=hSs) Tryz.func27 rfl (by decide) fun nl n c ml m d p r h=>by
  unfold smspD at h
  cases p with
  |false =>
   rw[cond_false] at h
   unfold smsD at h
   obtain⟨l,hl,h⟩:=Option.bind_eq_some_iff.1 h
   obtain⟨l',hl',h⟩:=Option.bind_eq_some_iff.1 h
   obtain⟨hg,h⟩:=bif_inv h
   obtain⟨ts,h1,h⟩:=Option.bind_eq_some_iff.1 h
   obtain⟨us,h2,h⟩:=Option.bind_eq_some_iff.1 h
   injection h with h
   subst h
   simp only[Bool.and_eq_true,decide_eq_true_eq] at hg
   obtain⟨rfl,rfl⟩:=decG_inv xrG_inv hl
   obtain⟨rfl,rfl⟩:=decG_inv xrG_inv hl'
   refine⟨l.length+1,(ss_raw (smpD D) _ _ _ _ _ _ _ _).trans ?_⟩
   by_cases hne:l.length=l'.length
   ·rw[eqI hne,cond_false]
    exact ss_loop D _ _ _ l l' hg.1 hne h1 h2 l.length 0 _ (by omega) (by omega)
   ·rw[neI hne,cond_true,sameTs_len (by rw[mapO_len h1,mapO_len h2];exact hne)]
  |true =>
   rw[cond_true] at h
   obtain⟨l,hl,h⟩:=Option.bind_eq_some_iff.1 h
   obtain⟨hg,h⟩:=bif_inv h
   obtain⟨ts,h1,h⟩:=Option.bind_eq_some_iff.1 h
   split at h
   ·rename_i hnm
    injection h with h
    subst h
    obtain⟨rfl,rfl⟩:=hnm
    obtain⟨rfl,rfl⟩:=decG_inv xrG_inv hl
    refine⟨l.length+1,(ss_raw (smpD D) _ _ _ _ _ _ _ _).trans ?_⟩
    rw[eqI rfl,cond_false]
    exact ss_loopT D _ _ _ l (of_decide_eq_true hg) h1 l.length 0 _ (by omega) (by omega)
   ·cases h
theorem ok_rsame:∀ D,FOK NGs Ws 11 (tXXp (smpD D))
 |0=>none_tXXp fun x y p=>by cases p<;>rfl
 |D+1 =>
  fok_tXXp woks (allOK_cons (ok_rsames (ok_rsame D)) allOK_nil) allH_nil (h:=hh0) Tryz.func11 rfl (by decide) fun e d p r h=>⟨0,(rsame_raw (smspD D) 0 e d p).trans (by
   unfold smpD at h
   cases p with
   |false =>
    rw[cond_false] at h
    unfold smD at h
    obtain⟨t,ht,h⟩:=Option.bind_eq_some_iff.1 h
    obtain⟨u,hu,h⟩:=Option.bind_eq_some_iff.1 h
    injection h with h
    obtain⟨l,ts,h0,h1,h2,h3,rfl,h4⟩:=er_inv ht
    obtain⟨l',us,g0,g1,g2,g3,rfl,g4⟩:=er_inv hu
    subst h
    have hk:=smX_kn h0
    have hk':=smX_kn g0
    have e1:smspD D e.kn e.kc d.kn d.kc false=some (sameTs ts us):=by
     show smsD D e.kn e.kc d.kn d.kc=_
     unfold smsD
     rw[kn_dec h1 h2,Option.bind_some,kn_dec g1 g2,Option.bind_some,cond_t (by simp only[Bool.and_eq_true,decide_eq_true_eq];omega),h3,Option.bind_some,g3]
     rfl
    rw[e1,sameT,unlike_eq]
    show _=some (PV.bool (alikeB e d&&sameTs ts us))
    cases alikeB e d<;>rfl
   |true =>
    rw[cond_true] at h
    obtain⟨t,ht,h⟩:=Option.bind_eq_some_iff.1 h
    split at h
    ·rename_i hed
     injection h with h
     subst h
     subst hed
     obtain⟨l,ts,h0,h1,h2,h3,rfl,h4⟩:=er_inv ht
     have hk:=smX_kn h0
     have e1:smspD D e.kn e.kc e.kn e.kc true=some true:=by
      unfold smspD
      rw[cond_true,kn_dec h1 h2,Option.bind_some,cond_t (decide_eq_true (by omega)),h3,Option.bind_some,if_pos ⟨rfl,rfl⟩]
     rw[unlike_self,e1]
     rfl
    ·cases h)⟩
theorem tkI_bind {α β:Type}{cs:List PV}{i:Int}{j:Nat}{kk:Int→Option α}{k:α→Option β}:(tkI cs i j kk).bind k=tkI cs i j fun a=>(kk a).bind k:=by simp only[tkI,Option.bind_assoc]
theorem tkS_bind {α β:Type}{cs:List PV}{i:Int}{j:Nat}{kk:List UInt8→Option α}{k:α→Option β}:(tkS cs i j kk).bind k=tkS cs i j fun a=>(kk a).bind k:=by simp only[tkS,Option.bind_assoc]
theorem tkJ_bind {α β:Type}{cs:List PV}{i:Int}{j:Nat}{kk:Int→Option α}{k:α→Option β}:(tkJ cs i j kk).bind k=tkJ cs i j fun a=>(kk a).bind k:=by simp only[tkJ,Option.bind_assoc]
theorem tkV_bind {α β:Type}{cs:List PV}{i:Int}{kk:Int→Int→Int→List UInt8→Option α}{k:α→Option β}:(tkV cs i kk).bind k=tkV cs i fun a b c d=>(kk a b c d).bind k:=by simp only[tkV,Option.bind_assoc]
theorem liveK_bind {α β:Type}{s:RS}{x a:Option α}{k:α→Option β}:(liveK s x a).bind k=liveK s (x.bind k) (a.bind k):=by simp only[liveK,cond_bindo]
def ratP (s:RS):Option (Int×RS):=bif decide (s.i<(s.n:Int)) then chk s.inB (tkI s.cs s.i 1 fun a=>some (a,s)) else some (s.e,s)
def rfaultP (s:RS)(a:Int):Option RS:=bif decide (s.b<0) then some ⟨s.nl,s.n,s.cs,s.i,s.e,s.o,a⟩ else some s
def rseesP (s:RS)(w:List UInt8):Option (Bool×RS) :=
 liveK s (chk s.inB (tkI s.cs s.i 0 fun k=>bif !(k==1) then chk s.inB (tkI s.cs s.i 0 fun k=>bif k==3 then chk s.inB (tkS s.cs s.i 2 fun t=>some (t==w,s)) else some (false,s)) else chk s.inB (tkS s.cs s.i 2 fun t=>some (t==w,s)))) (some (false,s))
def reatsP (s:RS)(w:List UInt8):Option (Bool×RS):=(rseesP s w).bind fun r=>bif r.1 then some (true,r.2.next) else some (false,r.2)
def RS.back (s:RS):Int:=IntKind.i64.wrap (IntKind.i64.wrap (s.i+1)-1)
def RS.backB (s:RS):Bool:=decide (0≤s.back)&&decide (s.back<(s.n:Int))
def rnameP (s:RS):Option (List UInt8×RS) :=
 liveK s (chk s.inB (tkI s.cs s.i 0 fun k=>bif k==0 then chk s.backB (tkS s.cs s.back 2 fun t=>some (t,s.next)) else (ratP s).bind fun a=>(rfaultP a.2 a.1).bind fun s=>some ([],s))) ((ratP s).bind fun a=>(rfaultP a.2 a.1).bind fun s=>some ([],s))
def rnumP (s:RS)(m:Int):Option (Int×RS) :=
 let A:Option (Int×RS):=(ratP s).bind fun a=>(rfaultP a.2 a.1).bind fun s=>some (0,s)
 liveK s (chk s.inB (tkI s.cs s.i 0 fun k=>bif k==2 then chk s.inB (tkI s.cs s.i 3 fun vk=>bif vk==2 then chk s.inB (tkJ s.cs s.i 1 fun vn=>bif decide (vn≤m) then chk s.backB (tkJ s.cs s.back 1 fun t=>some (t,s.next)) else A) else A) else A)) A
def rdeepP (s:RS):Option (Bool×RS):=bif s.o==20 then (ratP s).bind fun a=>(rfaultP a.2 a.1).bind fun s=>some (false,s) else some (decide (s.b<0),s.open)
def powerP (w:List UInt8):Option Int:=bif w==[79,82] then some 0 else bif w==[65,78,68] then some 1 else orK w (some 3) (orK w (some 4) (orK w (some 5) (some (-1)) [[42],[47],[37]]) [[43],[45]]) [[61],[60,62],[60],[60,61],[62],[62,61]]
def rmustL:List (List UInt8)→RS→Option RS
 |[],s=>some s
 |w::ws,s=>(reatsP s w).bind fun r=>bif !r.1 then (ratP r.2).bind fun a=>(rfaultP a.2 a.1).bind fun s=>rmustL ws s else rmustL ws r.2
def rmustP (s:RS)(n:Nat)(ws:List PV):Option RS:=(decG 1 stG n ws).bind fun l=>bif decide (l.length≤1000000) then rmustL l s else none
def rlitP (s:RS):Option (VR×RS) :=
 let A:Option (VR×RS):=(reatsP s [78,85,76,76]).bind fun r=>bif r.1 then some (⟨0,0,0,[],true⟩,r.2) else (reatsP r.2 [84,82,85,69]).bind fun r=>bif r.1 then some (⟨1,1,0,[],true⟩,r.2) else (reatsP r.2 [70,65,76,83,69]).bind fun r=>bif r.1 then some (⟨1,0,0,[],true⟩,r.2) else some (⟨0,0,0,[],false⟩,r.2)
 liveK s (chk s.inB (tkI s.cs s.i 0 fun k=>bif k==2 then chk s.backB (tkV s.cs s.back fun vk vn vc vs=>some (⟨vk,vn,vc,vs,true⟩,s.next)) else A)) A
def ropenP (s:RS):Option (Bool×RS):=(rseesP s [40]).bind fun r=>bif !r.1 then (ratP r.2).bind fun a=>(rfaultP a.2 a.1).bind fun s=>some (false,s) else (rdeepP r.2).bind fun d=>bif !d.1 then some (false,d.2) else some (true,d.2.next)
def rshutP (s:RS):Option RS:=(rmustP s 1 [.str [41]]).bind fun s=>some s.shut
def rtypedP (s:RS):Option ((Int×Int)×RS) :=
 (reatsP s [66,79,79,76]).bind fun r=>bif !r.1 then (reatsP r.2 [73,78,84]).bind fun r=>bif !r.1 then (reatsP r.2 [68,69,67,73,77,65,76]).bind fun r=>bif !r.1 then (reatsP r.2 [84,69,88,84]).bind fun r=>bif !r.1 then (reatsP r.2 [66,89,84,69,83]).bind fun r=>bif !r.1 then (ratP r.2).bind fun a=>(rfaultP a.2 a.1).bind fun s=>some ((0,0),s)
   else tyK rmustP rnumP 4 r.2 fun s a b=>some ((a,b),s) else tyK rmustP rnumP 3 r.2 fun s a b=>some ((a,b),s) else tyK rmustP rnumP 2 r.2 fun s a b=>some ((a,b),s) else tyK rmustP rnumP 1 r.2 fun s a b=>some ((a,b),s) else tyK rmustP rnumP 0 r.2 fun s a b=>some ((a,b),s)
section
variable {NG:Nat} {W:World→Prop} (hW:WOK NG W)
include hW
theorem ok_rat:HOK NG W 26 (tRI ratP):=hok_tRI hW allOK_nil allH_nil Tryz.func26 rfl (by decide) fun s=>⟨0,fun K=>(rat_raw 0 s K).trans (by simp only[ratP,cond_bindo,chk_bind,tkI_bind,Option.bind_some])⟩
theorem ok_rfault:HOK NG W 109 (tRUi rfaultP):=hok_tRUi hW allOK_nil allH_nil Tryz.func109 rfl (by decide) fun s a=>⟨0,fun K=>(rfault_raw 0 s a K).trans (by simp only[rfaultP,cond_bindo,Option.bind_some])⟩
theorem ok_rsees:HOK NG W 59 (tRBw rseesP):=hok_tRBw hW allOK_nil allH_nil Tryz.func59 rfl (by decide) fun s w=>⟨0,fun K=>(rsees_raw 0 s w K).trans (by simp only[rseesP,liveK_bind,cond_bindo,chk_bind,tkI_bind,tkS_bind,Option.bind_some])⟩
theorem ok_reats:HOK NG W 110 (tRBw reatsP):=hok_tRBw hW allOK_nil (allH_cons (ok_rsees hW) allH_nil) Tryz.func110 rfl (by decide) fun s w=>⟨0,fun K=>(reats_raw _ 0 s w K).trans (by simp only[reatsP,cond_bindo,Option.bind_assoc,Option.bind_some])⟩
theorem ok_lRf:AllH NG W [(26,tRI ratP),(109,tRUi rfaultP)]:=allH_cons (ok_rat hW) (allH_cons (ok_rfault hW) allH_nil)
theorem ok_rname:HOK NG W 195 (tRS rnameP):=hok_tRS hW allOK_nil (ok_lRf hW) Tryz.func195 rfl (by decide) fun s=>⟨0,fun K=>(rname_raw _ _ 0 s K).trans (by simp only[rnameP,RS.back,RS.backB,liveK_bind,cond_bindo,chk_bind,tkI_bind,tkS_bind,Option.bind_assoc,Option.bind_some];rfl)⟩
theorem ok_rnum:HOK NG W 232 (tRIi rnumP):=hok_tRIi hW allOK_nil (ok_lRf hW) Tryz.func232 rfl (by decide) fun s a=>⟨0,fun K=>(rnum_raw _ _ 0 s a K).trans (by simp only[rnumP,RS.back,RS.backB,liveK_bind,cond_bindo,chk_bind,tkI_bind,tkJ_bind,Option.bind_assoc,Option.bind_some];rfl)⟩
theorem ok_rdeep:HOK NG W 60 (tRB rdeepP):=hok_tRB hW allOK_nil (ok_lRf hW) Tryz.func60 rfl (by decide) fun s=>⟨0,fun K=>(rdeep_raw _ _ 0 s K).trans (by simp only[rdeepP,cond_bindo,Option.bind_assoc,Option.bind_some])⟩
theorem ok_rpower:FOK NG W 112 (tWi powerP):=fok_tWi hW allOK_nil allH_nil Tryz.func112 rfl (by decide) fun s=>⟨0,(power_raw 0 s).trans (by simp only[powerP,orK,cond_bindo,Option.bind_some])⟩
theorem mu_loop (fu:Nat)(nl:Option Bool)(l:List (List UInt8))(hl:l.length≤1000000)(K:KR):∀ (k i n:Nat) (s:RS),i+k=l.length→k<n →
  muL reatsP ratP rfaultP fu K n (frMu nl l.length (l.flatMap stC) (l.length:Int) (i:Int) s)=(rmustL (l.drop i) s).bind fun s=>K [s.box] (.tuple [])
 |k,i,0,s,_,h=>by have _:=hW;omega
 |0,i,n+1,s,hi,hn=>by
  unfold muL
  rw[loopK_succ,mu_step,cond_f (decide_eq_false (by omega)),List.drop_of_length_le (by omega)]
  rfl
 |k+1,i,n+1,s,hi,hn=>by
  have hc:=List.getElem?_eq_getElem (l:=l) (i:=i) (by omega)
  rw[List.drop_eq_getElem_cons (show i<l.length by omega)]
  generalize l[i]=a at hc
  have ih:=fun s=>mu_loop fu nl l hl K k (i+1) n s (by omega) (by omega)
  unfold muL at ih ⊢
  rw[loopK_succ,mu_step,cond_t (decide_eq_true (by omega)),chk,cond_t (by rw[decide_eq_true (by omega),decide_eq_true (by omega)];rfl),Int.toNat_natCast,flat_at stC_len hc,wrapI_of (by omega) (by omega)]
  simp only[stC,List.head?_cons,Option.bind_some,PV.asStr,rmustL,atFault]
  rw[Option.bind_assoc]
  congr 1
  funext r
  rw[cond_bindo,Option.bind_assoc]
  have e:((i:Int)+1)=((i+1:Nat):Int):=by omega
  rw[e]
  congr 1
  ·congr 1
   funext a
   rw[Option.bind_assoc]
   congr 1
   funext s
   exact ih s
  ·exact ih r.2
theorem ok_rmust:HOK NG W 111 (tRUl rmustP) :=
 hok hW allOK_nil (allH_cons (ok_reats hW) (ok_lRf hW)) allI_nil (h:=hMu) Tryz.func111 rfl (by decide) (tRUl_nat _) fun bs xs r h=>by
  simp only[tRUl] at h
  split at h
  ·rename_i nl z n ws
   obtain⟨hz,h1⟩:=ite_inv h
   subst hz
   obtain⟨s,hbs,h2⟩:=onRS_inv h1
   subst hbs
   obtain⟨q,hq,h3⟩:=Option.bind_eq_some_iff.1 h2
   unfold rmustP at hq
   obtain⟨l,hl,hq⟩:=Option.bind_eq_some_iff.1 hq
   obtain⟨hle,hq⟩:=bif_inv hq
   obtain⟨e1,e2⟩:=decG_inv stG_inv hl
   refine⟨l.length+1,Eq.trans ?_ h3⟩
   refine (mu_raw reatsP ratP rfaultP _ s nl n ws _).trans ?_
   rw[e1,e2]
   refine (mu_loop hW _ nl l (of_decide_eq_true hle) _ l.length 0 _ s (by omega) (by omega)).trans ?_
   rw[List.drop_zero,hq]
   rfl
  ·cases h
theorem ok_rlit:HOK NG W 194 (tRL rlitP):=hok_tRL hW allOK_nil (allH_cons (ok_reats hW) allH_nil) Tryz.func194 rfl (by decide) fun s=>⟨0,fun K=>(rlit_raw ratP _ 0 s K).trans (by simp only[rlitP,RS.back,RS.backB,liveK_bind,cond_bindo,chk_bind,tkI_bind,tkV_bind,Option.bind_assoc,Option.bind_some];rfl)⟩
theorem ok_ropen:HOK NG W 191 (tRB ropenP):=hok_tRB hW allOK_nil (allH_cons (ok_rsees hW) (allH_cons (ok_rat hW) (allH_cons (ok_rfault hW) (allH_cons (ok_rdeep hW) allH_nil)))) Tryz.func191 rfl (by decide) fun s=>⟨0,fun K=>(ropen_raw _ _ _ _ 0 s K).trans (by simp only[ropenP,atFault,cond_bindo,Option.bind_assoc,Option.bind_some])⟩
theorem ok_rshut:HOK NG W 192 (tRU rshutP):=hok_tRU hW allOK_nil (allH_cons (ok_rmust hW) allH_nil) Tryz.func192 rfl (by decide) fun s=>⟨0,fun K=>(rshut_raw _ 0 s K).trans (by simp only[rshutP,Option.bind_assoc,Option.bind_some])⟩
theorem ok_rtyped:HOK NG W 193 (tRY rtypedP):=hok_tRY hW allOK_nil (allH_cons (ok_reats hW) (allH_cons (ok_rat hW) (allH_cons (ok_rfault hW) (allH_cons (ok_rmust hW) (allH_cons (ok_rnum hW) allH_nil))))) Tryz.func193 rfl (by decide) fun s=>⟨7,fun K=>(rtyped_raw _ _ _ _ _ 0 s K).trans (by simp only[rtypedP,tyK,atFault,cond_bindo,Option.bind_assoc,Option.bind_some])⟩
end
structure RF where
 expr:RS→Int→Option (XR×RS)
 rest:RS→XR→Int→Int→Option (XR×RS)
 fact:RS→Option (XR×RS)
 atom:RS→Option (XR×RS)
structure ROK (NG:Nat)(W:World→Prop)(P:RF):Prop where
 expr:HOK NG W 25 (tRXi P.expr)
 rest:HOK NG W 61 (tRXr P.rest)
 fact:HOK NG W 62 (tRX P.fact)
 atom:HOK NG W 113 (tRX P.atom)
def stopB (t:TR)(p l h:Int):Bool:=bif (bif (bif (bif t.k != 1 then t.k != 3 else false) then true else decide (p<l)) then true else decide (h<p)) then true else (bif p==3 then h==3 else false)
def reLP (X:RS→Int→Option (XR×RS)):Nat→RS→XR→Int→Int→Option (XR×RS)
 |0,_,_,_,_=>none
 |m+1,s,e,l,h=>liveK s ((ratP s).bind fun a=>(let N:RS→Option (XR×RS):=fun s=>chk s.inB (tkT s.cs s.i fun t=>(powerP t.t).bind fun p =>
    bif stopB t p l h then some (e,s) else (X s.next (IntKind.i64.wrap (p+1))).bind fun y=>reLP X m y.2 (binX a.1 t.t e y.1) l p)
    bif (bif decide (l≤3) then decide (3<h) else false) then (rseesP a.2 [73,83]).bind fun r=>bif r.1 then (reatsP r.2.next [78,79,84]).bind fun n=>(rmustP n.2 1 [.str [78,85,76,76]]).bind fun s=>reLP X m s (nullX a.1 n.1 e) l 3 else N r.2 else N a.2))
   (some (e,s))
def fAtOf (P:RF):FAt:=⟨ratP,rseesP,reatsP,ropenP,P.expr,rshutP,rmustP,rtypedP,rlitP,rnameP⟩
def fReOf (P:RF):FRe:=⟨ratP,rseesP,reatsP,rmustP,powerP,P.expr⟩
def rfStep (P:RF):RF where
 rest:=fun s e l h=>reLP P.expr (s.n+2) s e l h
 fact:=fun s=>(ratP s).bind fun a=>(rseesP a.2 [45]).bind fun r=>bif !r.1 then (P.atom r.2).bind fun e=>some (e.1,e.2) else (rdeepP r.2).bind fun d=>bif !d.1 then some (XR.zero,d.2) else (P.fact d.2.next).bind fun e=>some (unX a.1 [45] e.1,e.2.shut)
 expr:=fun s l=>(ratP s).bind fun a=>(let B:RS→Option (XR×RS):=fun s=>(P.fact s).bind fun e=>(P.rest e.2 e.1 l 6).bind fun e=>some (e.1,e.2)
   bif decide (l≤2) then (rseesP a.2 [78,79,84]).bind fun r=>bif r.1 then (rdeepP r.2).bind fun d=>bif !d.1 then some (XR.zero,d.2) else (P.expr d.2.next 2).bind fun e=>(P.rest e.2.shut (unX a.1 [78,79,84] e.1) l 2).bind fun e=>some (e.1,e.2) else B r.2 else B a.2)
 atom:=fun s=>(let F:=fAtOf P
  let KX:XR→RS→Option (XR×RS):=fun e s=>some (e,s)
  (F.fa s).bind fun a=>(F.fs a.2 [40]).bind fun r=>bif r.1 then (F.fo r.2).bind fun o=>bif !o.1 then KX XR.zero o.2 else (F.fx o.2 0).bind fun e=>(F.fh e.2).bind fun s=>KX e.1 s else
  (F.fe r.2 [67,65,83,84]).bind fun r=>bif r.1 then (F.fo r.2).bind fun o=>bif !o.1 then KX XR.zero o.2 else (F.fx o.2 0).bind fun e=>(F.fm e.2 1 [.str [65,83]]).bind fun s=>(F.fy s).bind fun y=>(F.fh y.2).bind fun s=>KX (castX a.1 y.1.1 y.1.2 e.1) s else
  (F.fe r.2 [67,79,85,78,84]).bind fun r=>bif !r.1 then (F.fe r.2 [83,85,77]).bind fun r=>bif !r.1 then (F.fe r.2 [77,73,78]).bind fun r=>bif !r.1 then (F.fe r.2 [77,65,88]).bind fun r=>bif !r.1 then
   (F.fl r.2).bind fun v=>bif v.1.ok then KX (litX a.1 v.1.vk v.1.vn v.1.vc v.1.vs) v.2 else (F.fn v.2).bind fun n=>(F.fe n.2 [46]).bind fun r=>bif r.1 then (F.fn r.2).bind fun m=>KX (colX a.1 n.1 m.1) m.2 else KX (colX a.1 [] n.1) r.2
   else raCall F a.1 [77,65,88] false r.2 KX else raCall F a.1 [77,73,78] false r.2 KX else raCall F a.1 [83,85,77] false r.2 KX else raCall F a.1 [67,79,85,78,84] true r.2 KX)
def rf0:RF:=⟨fun _ _=>none,fun _ _ _ _=>none,fun _=>none,fun _=>none⟩
def rfs:Nat→RF
 |0=>rf0
 |d+1=>rfStep (rfs d)
theorem re_eq (P:RF)(fu:Nat)(K:KR):∀ (m:Nat) (s:RS) (e:XR) (l h:Int) (q:XR×RS),reLP P.expr m s e l h=some q→reL (fReOf P) fu K m (frRe e l h s)=K [q.2.box] (.agg q.1.cells)
 |0,s,e,l,h,q,hq=>by cases hq
 |m+1,s,e,l,h,q,hq=>by
  unfold reL
  rw[loopK_succ,re_step]
  have ih:=re_eq P fu K m
  unfold reL at ih
  rw[reLP] at hq
  unfold liveK at hq ⊢
  cases hb:decide (s.b<0) with
  |false =>
   rw[hb,cond_false] at hq
   injection hq with hq
   subst hq
   rfl
  |true =>
   rw[hb,cond_true] at hq
   rw[cond_true]
   cases hi:decide (s.i<(s.n:Int)) with
   |false =>
    rw[hi,cond_false] at hq
    injection hq with hq
    subst hq
    rfl
   |true =>
    rw[hi,cond_true] at hq
    rw[cond_true]
    obtain⟨a,ha,hq⟩:=Option.bind_eq_some_iff.1 hq
    rw[show (fReOf P).fa s=some a from ha,Option.bind_some]
    have hN:∀ s:RS,(chk s.inB (tkT s.cs s.i fun t=>(powerP t.t).bind fun p=>bif stopB t p l h then some (e,s) else (P.expr s.next (IntKind.i64.wrap (p+1))).bind fun y=>reLP P.expr m y.2 (binX a.1 t.t e y.1) l p))=some q →
      (chk s.inB (tkT s.cs s.i fun t=>((fReOf P).fp t.t).bind fun p=>bif stopB t p l h then K [s.box] (.agg e.cells) else ((fReOf P).fx s.next (IntKind.i64.wrap (p+1))).bind fun y=>ploop (hRe.loop.lookup 0) (stepK (enRe (fReOf P)) hRe fu (reKr (fReOf P) K) fRe [1,0,0] fun _=>none) m (frRe (binX a.1 t.t e y.1) l p y.2)))=K [q.2.box] (.agg q.1.cells):=by
     intro s hs
     unfold chk at hs ⊢
     obtain⟨hin,hs⟩:=bif_inv hs
     rw[hin,cond_true]
     unfold tkT at hs ⊢
     obtain⟨x1,e1,hs⟩:=Option.bind_eq_some_iff.1 hs
     obtain⟨y1,f1,hs⟩:=Option.bind_eq_some_iff.1 hs
     obtain⟨x2,e2,hs⟩:=Option.bind_eq_some_iff.1 hs
     obtain⟨y2,f2,hs⟩:=Option.bind_eq_some_iff.1 hs
     obtain⟨x3,e3,hs⟩:=Option.bind_eq_some_iff.1 hs
     obtain⟨y3,f3,hs⟩:=Option.bind_eq_some_iff.1 hs
     obtain⟨x4,e4,hs⟩:=Option.bind_eq_some_iff.1 hs
     obtain⟨y4,f4,hs⟩:=Option.bind_eq_some_iff.1 hs
     obtain⟨x5,e5,hs⟩:=Option.bind_eq_some_iff.1 hs
     obtain⟨y5,f5,hs⟩:=Option.bind_eq_some_iff.1 hs
     obtain⟨x6,e6,hs⟩:=Option.bind_eq_some_iff.1 hs
     obtain⟨y6,f6,hs⟩:=Option.bind_eq_some_iff.1 hs
     obtain⟨x7,e7,hs⟩:=Option.bind_eq_some_iff.1 hs
     obtain⟨y7,f7,hs⟩:=Option.bind_eq_some_iff.1 hs
     obtain⟨p,hp,hs⟩:=Option.bind_eq_some_iff.1 hs
     rw[e1,Option.bind_some,f1,Option.bind_some,e2,Option.bind_some,f2,Option.bind_some,e3,Option.bind_some,f3,Option.bind_some,e4,Option.bind_some,f4,Option.bind_some,e5,Option.bind_some,f5,Option.bind_some,e6,Option.bind_some,f6,Option.bind_some,e7,Option.bind_some,f7,Option.bind_some]
     dsimp only at hp hs ⊢
     rw[show (fReOf P).fp y3=some p from hp,Option.bind_some]
     cases hst:stopB ⟨y1,y2,y3,y4,y5,y6,y7⟩ p l h with
     |true =>
      rw[hst,cond_true] at hs
      injection hs with hs
      subst hs
      rfl
     |false =>
      rw[hst,cond_false] at hs
      obtain⟨y,hy,hs⟩:=Option.bind_eq_some_iff.1 hs
      rw[cond_false,show (fReOf P).fx s.next (IntKind.i64.wrap (p+1))=some y from hy,Option.bind_some]
      exact ih _ _ _ _ q hs
    simp only at hq ⊢
    cases hc:(bif decide (l≤3) then decide (3<h) else false) with
    |false =>
     rw[hc,cond_false] at hq
     rw[cond_false]
     exact hN a.2 hq
    |true =>
     rw[hc,cond_true] at hq
     rw[cond_true]
     obtain⟨r,hr,hq⟩:=Option.bind_eq_some_iff.1 hq
     rw[show (fReOf P).fs a.2 [73,83]=some r from hr,Option.bind_some]
     cases hr1:r.1 with
     |false =>
      rw[hr1,cond_false] at hq
      rw[cond_false]
      exact hN r.2 hq
     |true =>
      rw[hr1,cond_true] at hq
      obtain⟨n,hn,hq⟩:=Option.bind_eq_some_iff.1 hq
      obtain⟨s2,hs2,hq⟩:=Option.bind_eq_some_iff.1 hq
      rw[cond_true,show (fReOf P).fe r.2.next [78,79,84]=some n from hn,Option.bind_some,show (fReOf P).fm n.2 1 [.str [78,85,76,76]]=some s2 from hs2,Option.bind_some]
      exact ih _ _ _ _ q hq
section
variable {NG:Nat} {W:World→Prop} (hW:WOK NG W)
include hW
theorem rok0:ROK NG W rf0:=have _:=hW;⟨none_tRXi,none_tRXr,none_tRX,none_tRX⟩
theorem rokS {P:RF}(h:ROK NG W P):ROK NG W (rfStep P) where
 rest:=hok hW (allOK_cons (ok_rpower hW) allOK_nil) (allH_cons (ok_rat hW) (allH_cons (ok_rsees hW) (allH_cons (ok_reats hW) (allH_cons (ok_rmust hW) (allH_cons h.expr allH_nil))))) allI_nil (h:=hRe) Tryz.func61 rfl (by decide) (tRXr_nat _) fun bs xs r h=>by
  simp only[tRXr] at h
  split at h
  ·obtain⟨s,hbs,h2⟩:=onRS_inv h
   subst hbs
   obtain⟨e,he,h3⟩:=onXR_inv h2
   subst he
   obtain⟨q,hq,h4⟩:=Option.bind_eq_some_iff.1 h3
   exact⟨s.n+2,Eq.trans ((re_raw (fReOf P) _ s e _ _ _).trans (re_eq P _ _ _ s e _ _ q hq)) h4⟩
  ·cases h
 fact:=hok_tRX hW allOK_nil (allH_cons (ok_rat hW) (allH_cons (ok_rsees hW) (allH_cons h.atom (allH_cons (ok_rdeep hW) (allH_cons h.fact allH_nil))))) Tryz.func62 rfl (by decide)
  fun s=>⟨0,fun K=>(rfact_raw _ _ _ _ _ 0 s K).trans (by simp only[rfStep,cond_bindo,Option.bind_assoc,Option.bind_some])⟩
 expr:=hok_tRXi hW allOK_nil (allH_cons (ok_rat hW) (allH_cons (ok_rsees hW) (allH_cons (ok_rdeep hW) (allH_cons h.expr (allH_cons h.rest (allH_cons h.fact allH_nil)))))) Tryz.func25 rfl (by decide)
  fun s a=>⟨0,fun K=>(rexpr_raw _ _ _ _ _ _ 0 s a K).trans (by simp only[rfStep,cond_bindo,Option.bind_assoc,Option.bind_some])⟩
 atom:=hok_tRX hW allOK_nil (allH_cons (ok_rat hW) (allH_cons (ok_rsees hW) (allH_cons (ok_reats hW) (allH_cons (ok_ropen hW) (allH_cons h.expr (allH_cons (ok_rshut hW) (allH_cons (ok_rmust hW) (allH_cons (ok_rtyped hW) (allH_cons (ok_rlit hW) (allH_cons (ok_rname hW) allH_nil)))))))))) Tryz.func113 rfl (by decide)
  fun s=>⟨6,fun K=>(ratom_raw (fAtOf P) 0 s K).trans (by simp only[rfStep,raCall,cond_bindo,Option.bind_assoc,Option.bind_some])⟩
theorem rok:∀ d,ROK NG W (rfs d)
 |0=>rok0 hW
 |d+1=>rokS hW (rok d)
end
section
variable (L:List TR) (nl:Option Bool) (e:Int)
def RX (i:Nat)(o b:Int):RS:=⟨nl,L.length,L.flatMap TR.cells,(i:Int),e,o,b⟩
def BadR {α:Type}(a:Int)(r:Option (α×RS)):Prop:=∃ x j o,j≤L.length∧r=some (x,RX L nl e j o a)
def SpecR {α:Type}(o:Int)(i:Nat)(g:Res α)(r:Option (α×RS)):Prop:=match g with
 | .bad a=>0≤a∧BadR L nl e a r
 | .ok x R=>∃ j,i≤j∧j≤L.length∧R=L.drop j∧r=some (x,RX L nl e j o (-1))
structure FSpecR {α:Type}(o:Int)(f:RS→Option (α×RS))(g:List TR→Res α):Prop where
 good:∀ i,i≤L.length→SpecR L nl e o i (g (L.drop i)) (f (RX L nl e i o (-1)))
 badd:∀ i o' a,i≤L.length→0≤a→BadR L nl e a (f (RX L nl e i o' a))
variable {L:List TR} {nl:Option Bool} {e:Int}
theorem BadR.ret {α:Type}{a o:Int}{i:Nat}(hi:i≤L.length)(x:α):BadR L nl e a (some (x,RX L nl e i o a)):=⟨x,i,o,hi,rfl⟩
theorem BadR.bind {α β:Type}{a:Int}{r:Option (α×RS)}{k:α×RS→Option (β×RS)}(h:BadR L nl e a r)(hk:∀ x j o,j≤L.length→BadR L nl e a (k (x,RX L nl e j o a))):BadR L nl e a (r.bind k):=by
 obtain⟨x,j,o,hj,rfl⟩:=h
 exact hk x j o hj
theorem SpecR.bind {α β:Type}{o o':Int}{i:Nat}{g:Res α}{r:Option (α×RS)}{kg:α→List TR→Res β}{k:α×RS→Option (β×RS)}
  (h:SpecR L nl e o i g r) (hk:∀ x j,i≤j→j≤L.length→SpecR L nl e o' j (kg x (L.drop j)) (k (x,RX L nl e j o (-1)))) (hb:∀ x j o'' a,j≤L.length→0≤a→BadR L nl e a (k (x,RX L nl e j o'' a))):SpecR L nl e o' i (g.bind kg) (r.bind k):=by
 cases g with
 |bad a =>
  obtain⟨ha,x,j,o'',hj,rfl⟩:=h
  exact⟨ha,hb x j o'' a hj ha⟩
 |ok x R =>
  obtain⟨j,hij,hj,rfl,rfl⟩:=h
  have:=hk x j hij hj
  simp only[Res.bind,Option.bind_some]
  unfold SpecR at this ⊢
  split at this
  ·exact this
  ·obtain⟨j',h1,h2,h3,h4⟩:=this
   exact⟨j',Nat.le_trans hij h1,h2,h3,h4⟩
theorem SpecR.ret {α:Type}{o:Int}{i:Nat}(hi:i≤L.length)(x:α):SpecR L nl e o i (.ok x (L.drop i)) (some (x,RX L nl e i o (-1))):=⟨i,Nat.le_refl _,hi,rfl,rfl⟩
theorem SpecR.suf {α:Type}{o:Int}{i j:Nat}{g:Res α}{r:Option (α×RS)}(h:SpecR L nl e o j g r)(hs:i≤j):SpecR L nl e o i g r:=by
 unfold SpecR at h ⊢
 split at h
 ·exact h
 ·obtain⟨j',h1,h2,h3,h4⟩:=h
  exact⟨j',Nat.le_trans hs h1,h2,h3,h4⟩
theorem map_bindR {β:Type}{r:Option RS}{k:RS→Option β}:r.bind k=(r.map fun s=>((),s)).bind fun q=>k q.2:=by cases r<;>rfl
theorem drop_nil {i:Nat}(h:L.drop i=[]):¬ ((i:Int)<(L.length:Int)):=by
 have:=List.drop_eq_nil_iff.1 h
 omega
theorem drop_cons {i:Nat}{t:TR}{R:List TR}(h:L.drop i=t::R):i<L.length∧L.drop (i+1)=R∧L[i]? = some t:=by
 have h1:i<L.length:=by
  by_cases h1:i<L.length
  ·exact h1
  ·rw[List.drop_of_length_le (by omega)] at h
   cases h
 rw[List.drop_eq_getElem_cons h1] at h
 injection h with h2 h3
 exact⟨h1,h3,by rw[List.getElem?_eq_getElem h1,h2]⟩
theorem tk_at {i:Nat}{t:TR}{R:List TR}(h:L.drop i=t::R):((L.flatMap TR.cells).drop (((i:Nat):Int).toNat * 7)).take 7=t.cells:=by
 rw[Int.toNat_natCast]
 exact flat_at cells_len (drop_cons h).2.2
theorem inB_cons {i:Nat}{o b:Int}{t:TR}{R:List TR}(h:L.drop i=t::R):(RX L nl e i o b).inB=true:=by
 have:=(drop_cons h).1
 unfold RS.inB RX
 simp only[Bool.and_eq_true,decide_eq_true_eq]
 omega
theorem lt_n {i:Nat}{o b:Int}{t:TR}{R:List TR}(h:L.drop i=t::R):decide ((RX L nl e i o b).i<((RX L nl e i o b).n:Int))=true:=decide_eq_true (by have:=(drop_cons h).1;show ((i:Nat):Int)<(L.length:Int);omega)
theorem nlt_n {i:Nat}{o b:Int}(h:L.drop i=[]):decide ((RX L nl e i o b).i<((RX L nl e i o b).n:Int))=false:=decide_eq_false (drop_nil h)
theorem live_cons {S:Type}{i:Nat}{o:Int}{t:TR}{R:List TR}{x a:Option S}(h:L.drop i=t::R):liveK (RX L nl e i o (-1)) x a=x:=by
 unfold liveK
 rw[cond_t (by rfl),lt_n h,cond_true]
theorem live_nil {S:Type}{i:Nat}{o b:Int}{x a:Option S}(h:L.drop i=[]):liveK (RX L nl e i o b) x a=a:=by
 unfold liveK
 rw[nlt_n h,cond_false]
 cases decide ((RX L nl e i o b).b<0)<;>rfl
theorem live_bad {S:Type}{i:Nat}{o b:Int}{x a:Option S}(hb:0≤b):liveK (RX L nl e i o b) x a=a:=by
 unfold liveK
 rw[cond_f (decide_eq_false (show ¬ (RX L nl e i o b).b<0 from by show ¬ b<0;omega))]
theorem rat_x (i:Nat)(o b:Int):ratP (RX L nl e i o b)=some (nxt e (L.drop i),RX L nl e i o b):=by
 unfold ratP
 rcases h:L.drop i with _|⟨t,R⟩
 ·rw[nlt_n h]
  rfl
 ·rw[lt_n h,cond_true,inB_cons h,chk,cond_true]
  unfold tkI
  rw[show (RX L nl e i o b).cs=L.flatMap TR.cells from rfl,show (RX L nl e i o b).i=((i:Nat):Int) from rfl,tk_at h]
  rfl
theorem rfault_g (i:Nat)(o a:Int):rfaultP (RX L nl e i o (-1)) a=some (RX L nl e i o a):=rfl
theorem rfault_b (i:Nat)(o:Int){b:Int}(hb:0≤b)(a:Int):rfaultP (RX L nl e i o b) a=some (RX L nl e i o b):=by
 unfold rfaultP
 rw[cond_f (decide_eq_false (show ¬ (RX L nl e i o b).b<0 from by show ¬ b<0;omega))]
theorem rsees_b {i:Nat}{o b:Int}(hb:0≤b)(w:List UInt8):rseesP (RX L nl e i o b) w=some (false,RX L nl e i o b):=by
 unfold rseesP
 rw[live_bad hb]
theorem rsees_g (i:Nat)(o:Int)(w:List UInt8):rseesP (RX L nl e i o (-1)) w=some (tokIs 1 [w] (L.drop i)||tokIs 3 [w] (L.drop i),RX L nl e i o (-1)):=by
 unfold rseesP
 rcases h:L.drop i with _|⟨t,R⟩
 ·rw[live_nil h]
  rfl
 ·rw[live_cons h,inB_cons h]
  unfold tkI tkS
  rw[show (RX L nl e i o (-1)).cs=L.flatMap TR.cells from rfl,show (RX L nl e i o (-1)).i=((i:Nat):Int) from rfl,tk_at h]
  show (bif !(t.k==1) then (bif t.k==3 then some (t.t==w,RX L nl e i o (-1)) else some (false,RX L nl e i o (-1))) else some (t.t==w,RX L nl e i o (-1)))=_
  rw[tokIs,tokIs]
  have e1:conA [w] t.t=(t.t==w):=by unfold conA;simp
  rw[e1]
  by_cases h1:t.k=1
  ·rw[h1];cases t.t==w<;>rfl
  ·rw[beq_eq_false_iff_ne.2 h1]
   cases t.k==3<;>rfl
theorem key_of {T:List TR}(hT:TOKs T){w:List UInt8}(hw:greatB w=true):tokIs 3 [w] T=false:=by
 cases T with
 |nil=>rfl
 |cons t R =>
  rw[tokIs]
  cases h:t.k==3 with
  |false=>rfl
  |true =>
   have h1:=hT.sign t (List.mem_cons_self ..) (by simpa using h)
   simp only[Bool.true_and,conA,List.any_cons,List.any_nil,Bool.or_false,beq_eq_false_iff_ne,ne_eq]
   rintro rfl
   rw[hw] at h1
   cases h1
theorem sign_of {T:List TR}(hT:TOKs T){w:List UInt8}(hw:greatB w=false):tokIs 1 [w] T=false:=by
 cases T with
 |nil=>rfl
 |cons t R =>
  rw[tokIs]
  cases h:t.k==1 with
  |false=>rfl
  |true =>
   have h1:=hT.key t (List.mem_cons_self ..) (by simpa using h)
   simp only[Bool.true_and,conA,List.any_cons,List.any_nil,Bool.or_false,beq_eq_false_iff_ne,ne_eq]
   rintro rfl
   rw[hw] at h1
   cases h1
theorem next_x {i:Nat}(hL:TOKs L)(hi:i≤L.length)(o b:Int):(RX L nl e i o b).next=RX L nl e (i+1) o b:=by
 have:=hL.len
 unfold RS.next RX
 rw[wrapI_of (by simp only;omega) (by simp only;omega)]
 rfl
def wK (w:List UInt8):Int:=bif greatB w then 1 else 3
variable (he:0≤e) (hL:TOKs L)
include hL
theorem drop_tok (i:Nat):TOKs (L.drop i):=hL.suf (List.drop_suffix i L)
theorem rsees_w (i:Nat)(o:Int)(w:List UInt8):rseesP (RX L nl e i o (-1)) w=some (tokIs (wK w) [w] (L.drop i),RX L nl e i o (-1)):=by
 rw[rsees_g]
 unfold wK
 cases hw:greatB w with
 |true=>rw[key_of (drop_tok hL i) hw,Bool.or_false];rfl
 |false=>rw[sign_of (drop_tok hL i) hw,Bool.false_or];rfl
theorem tok_lt {i:Nat}{a:Int}{ws:List (List UInt8)}(h:tokIs a ws (L.drop i)=true):i+1≤L.length:=by
 have _:=hL
 obtain⟨t,R,h⟩:=tok_cons h
 exact (drop_cons h).1
theorem reats_w {i:Nat}(hi:i≤L.length)(o:Int)(w:List UInt8):reatsP (RX L nl e i o (-1)) w=some (tokIs (wK w) [w] (L.drop i),RX L nl e (bif tokIs (wK w) [w] (L.drop i) then i+1 else i) o (-1)):=by
 unfold reatsP
 rw[rsees_w hL,Option.bind_some]
 cases tokIs (wK w) [w] (L.drop i) with
 |true=>simp only[cond_true,next_x hL hi]
 |false=>rfl
theorem reats_b {i:Nat}{o b:Int}(hb:0≤b)(w:List UInt8):reatsP (RX L nl e i o b) w=some (false,RX L nl e i o b):=by
 have _:=hL
 unfold reatsP
 rw[rsees_b hb]
 rfl
include he
theorem rmust_w {i:Nat}(hi:i≤L.length)(o:Int)(w:List UInt8):SpecR L nl e o i (wantG e (wK w) w (L.drop i)) ((rmustP (RX L nl e i o (-1)) 1 [.str w]).map fun s=>((),s)):=by
 show SpecR L nl e o i _ ((rmustL [w] (RX L nl e i o (-1))).map _)
 rw[rmustL,reats_w hL hi,Option.bind_some]
 unfold wantG
 cases h:tokIs (wK w) [w] (L.drop i) with
 |true =>
  simp only[Bool.not_true,cond_false,cond_true,rmustL]
  exact⟨i+1,Nat.le_succ _,tok_lt hL h,List.tail_drop,rfl⟩
 |false =>
  simp only[Bool.not_false,cond_false,cond_true,rmustL,rat_x,Option.bind_some,rfault_g]
  exact⟨(drop_tok hL i).nxt0 he,(),i,o,hi,rfl⟩
theorem rmust_b {i:Nat}{o b:Int}(hb:0≤b)(w:List UInt8):rmustP (RX L nl e i o b) 1 [.str w]=some (RX L nl e i o b):=by
 have _:=he
 show rmustL [w] (RX L nl e i o b)=_
 rw[rmustL,reats_b hL hb,Option.bind_some]
 simp only[Bool.not_false,cond_true,rmustL,rat_x,Option.bind_some,rfault_b _ _ hb]
theorem back_x {i:Nat}(hi:i≤L.length)(o b:Int):(RX L nl e i o b).back=(i:Int):=by
 have _:=he
 have:=hL.len
 unfold RS.back RX
 rw[wrapI_of (x:=(i:Int)+1) (by omega) (by omega),wrapI_of (by omega) (by omega)]
 omega
theorem backB_x {i:Nat}{t:TR}{R:List TR}(h:L.drop i=t::R)(o b:Int):(RX L nl e i o b).backB=true:=by
 have h1:=(drop_cons h).1
 unfold RS.backB
 rw[back_x he hL (by omega)]
 show (decide (0≤(i:Int))&&decide ((i:Int)<(L.length:Int)))=true
 simp only[Bool.and_eq_true,decide_eq_true_eq]
 omega
theorem rname_spec (o:Int):FSpecR L nl e o rnameP (nameG e) where
 good:=fun i hi=>by
  unfold rnameP
  rcases h:L.drop i with _|⟨t,R⟩
  ·rw[live_nil h,rat_x,Option.bind_some,rfault_g,h]
   exact⟨he,[],i,o,hi,rfl⟩
  ·rw[live_cons h,inB_cons h,backB_x he hL h,back_x he hL hi,next_x hL hi,rat_x,Option.bind_some,rfault_g,h]
   unfold tkI tkS
   rw[show (RX L nl e i o (-1)).cs=L.flatMap TR.cells from rfl,show (RX L nl e i o (-1)).i=((i:Nat):Int) from rfl,tk_at h]
   show SpecR L nl e o i _ (bif t.k==0 then some (t.t,RX L nl e (i+1) o (-1)) else some ([],RX L nl e i o t.a))
   rw[nameG]
   cases t.k==0 with
   |true=>exact⟨i+1,Nat.le_succ _,(drop_cons h).1,(drop_cons h).2.1.symm,rfl⟩
   |false=>exact⟨(drop_tok hL i).at0 t (by rw[h];exact List.mem_cons_self ..),[],i,o,hi,rfl⟩
 badd:=fun i o' a hi ha=>by
  unfold rnameP
  rw[live_bad ha,rat_x,Option.bind_some,rfault_b _ _ ha]
  exact BadR.ret hi _
theorem rnum_spec (o m:Int):FSpecR L nl e o (fun s=>rnumP s m) (numG e m) where
 good := fun i hi=>by
  show SpecR L nl e o i _ (rnumP _ m)
  unfold rnumP
  rcases h:L.drop i with _|⟨t,R⟩
  ·simp only
   rw[live_nil h,rat_x,Option.bind_some,rfault_g,h]
   exact⟨he,0,i,o,hi,rfl⟩
  ·simp only
   rw[live_cons h,inB_cons h,backB_x he hL h,back_x he hL hi,next_x hL hi,rat_x,Option.bind_some,rfault_g,h]
   unfold tkI tkJ
   rw[show (RX L nl e i o (-1)).cs=L.flatMap TR.cells from rfl,show (RX L nl e i o (-1)).i=((i:Nat):Int) from rfl,tk_at h]
   show SpecR L nl e o i _ (bif t.k==2 then (bif t.vk==2 then (bif decide (t.vn≤m) then some (t.vn,RX L nl e (i+1) o (-1)) else some (0,RX L nl e i o t.a)) else some (0,RX L nl e i o t.a)) else some (0,RX L nl e i o t.a))
   rw[numG]
   have hb:SpecR L nl e o i (.bad t.a) (some ((0:Int),RX L nl e i o t.a)):=⟨(drop_tok hL i).at0 t (by rw[h];exact List.mem_cons_self ..),0,i,o,hi,rfl⟩
   cases t.k==2 with
   |false=>exact hb
   |true =>
    cases t.vk==2 with
    |false=>exact hb
    |true =>
     cases decide (t.vn≤m) with
     |false=>exact hb
     |true=>exact⟨i+1,Nat.le_succ _,(drop_cons h).1,(drop_cons h).2.1.symm,rfl⟩
 badd:=fun i o' a hi ha=>by
  show BadR L nl e a (rnumP _ m)
  unfold rnumP
  simp only
  rw[live_bad ha,rat_x,Option.bind_some,rfault_b _ _ ha]
  exact BadR.ret hi _
end
theorem Res.bind_assoc {α β γ:Type}(g:Res α)(f:α→List TR→Res β)(k:β→List TR→Res γ):(g.bind f).bind k=g.bind fun x R=>(f x R).bind k:=by cases g<;>rfl
theorem Res.bind_okk {α:Type}(g:Res α):g.bind Res.ok=g:=by cases g<;>rfl
def gt (b:Bool)(f:XR→List TR→Res XR)(x:XR)(T:List TR):Res XR:=bif b then f x T else .ok x T
theorem gt_no {b:Bool}{f:XR→List TR→Res XR}{x:XR}{T:List TR}(h:b=true→f x T=.ok x T):gt b f x T=.ok x T:=by
 cases b with
 |false=>rfl
 |true=>exact h rfl
section
variable (e:Int) (low:Option GF)
def restG (l h:Int)(n5 n4 n1 n0:Nat)(x:XR)(T:List TR):Res XR :=
 (gt (decide (l≤5)&&decide (5≤h)) (loopG e 3 (factG e low) n5) x T).bind fun x T =>
 (gt (decide (l≤4)&&decide (4≤h)) (loopG e 2 (mulG e low) n4) x T).bind fun x T =>
 (gt (decide (l≤3)&&decide (4≤h)) (cmpG e low) x T).bind fun x T =>
 (gt (decide (l≤1)&&decide (1≤h)) (loopG e 1 (negG e low) n1) x T).bind fun x T =>
 gt (decide (l≤0)&&decide (0≤h)) (loopG e 0 (andG e low) n0) x T
end
section
variable {e:Int} {low:Option GF} {l h:Int} {n5 n4 n1 n0:Nat} {x:XR} {T:List TR}
theorem loopG_no {n:Nat}{p:List TR→Res XR}{m:Nat}(h:tokIs (opK n) (opW n) T=false):loopG e n p m x T=.ok x T:=by
 cases m with
 |zero=>rfl
 |succ m=>rw[loopG,h];rfl
theorem loopG_yes {n:Nat}{p:List TR→Res XR}{m:Nat}(h:tokIs (opK n) (opW n) T=true):loopG e n p (m+1) x T=(p T.tail).bind fun y R=>loopG e n p m (binX (nxt e T) (hdW T) x y) R:=by
 rw[loopG,h];rfl
theorem cmpG_no (h3:tokIs 3 wsCmp T=false)(hI:tokIs 1 [wIS] T=false):cmpG e low x T=.ok x T:=by
 unfold cmpG
 rw[h3,hI]
 rfl
abbrev tMul (T:List TR):Bool:=tokIs (opK 3) (opW 3) T
abbrev tAdd (T:List TR):Bool:=tokIs (opK 2) (opW 2) T
abbrev tAnd (T:List TR):Bool:=tokIs (opK 1) (opW 1) T
abbrev tOr (T:List TR):Bool:=tokIs (opK 0) (opW 0) T
theorem restG_no (h5:l≤5→5≤h→tMul T=false)(h4:l≤4→4≤h→tAdd T=false)(h3:l≤3→4≤h→tokIs 3 wsCmp T=false∧tokIs 1 [wIS] T=false)(h1:l≤1→1≤h→tAnd T=false)(h0:l≤0→0≤h→tOr T=false) :
  restG e low l h n5 n4 n1 n0 x T=.ok x T:=by
 unfold restG
 have hb:∀ {a b:Prop} [Decidable a] [Decidable b],(decide a&&decide b)=true→a∧b:=fun h=>by simpa using h
 rw[gt_no (f:=loopG e 3 _ n5) fun g=>loopG_no (h5 (hb g).1 (hb g).2),Res.bind,gt_no (f:=loopG e 2 _ n4) fun g=>loopG_no (h4 (hb g).1 (hb g).2),Res.bind,gt_no (f:=cmpG e low) fun g=>cmpG_no (h3 (hb g).1 (hb g).2).1 (h3 (hb g).1 (hb g).2).2,Res.bind,
  gt_no (f:=loopG e 1 _ n1) fun g=>loopG_no (h1 (hb g).1 (hb g).2),Res.bind,gt_no (f:=loopG e 0 _ n0) fun g=>loopG_no (h0 (hb g).1 (hb g).2)]
theorem dec_and {a b:Prop}[Decidable a][Decidable b](ha:a)(hb:b):(decide a&&decide b)=true:=by simp[ha,hb]
theorem dec_nand {a b:Prop}[Decidable a][Decidable b](hb:¬ b):(decide a&&decide b)=false:=by simp[hb]
theorem dec_swap {a b c:Prop}[Decidable a][Decidable b][Decidable c](hb:b)(hc:c):(decide a&&decide b)=(decide a&&decide c):=by simp[hb,hc]
theorem restG_mul (hl:l≤5)(hh:5≤h)(h5:tMul T=true):restG e low l h (n5+1) n4 n1 n0 x T=(factG e low T.tail).bind fun y R=>restG e low l 5 n5 n4 n1 n0 (binX (nxt e T) (hdW T) x y) R:=by
 unfold restG
 rw[dec_and hl hh,dec_swap (a:=l≤4) (b:=4≤h) (c:=(4:Int)≤5) (by omega) (by omega),dec_swap (a:=l≤3) (b:=4≤h) (c:=(4:Int)≤5) (by omega) (by omega),dec_swap (a:=l≤1) (b:=1≤h) (c:=(1:Int)≤5) (by omega) (by omega),dec_swap (a:=l≤0) (b:=0≤h) (c:=(0:Int)≤5) (by omega) (by omega),dec_and hl (show (5:Int)≤5 by omega)]
 rw[show gt true (loopG e 3 (factG e low) (n5+1)) x T=loopG e 3 (factG e low) (n5+1) x T from rfl,loopG_yes h5,Res.bind_assoc]
 rfl
theorem restG_add (hl:l≤4)(hh:4≤h)(h5:tMul T=false)(h4:tAdd T=true):restG e low l h n5 (n4+1) n1 n0 x T=(mulG e low T.tail).bind fun y R=>restG e low l 4 n5 n4 n1 n0 (binX (nxt e T) (hdW T) x y) R:=by
 unfold restG
 rw[gt_no (f:=loopG e 3 _ n5) fun g=>loopG_no h5,Res.bind,dec_and hl hh,dec_swap (a:=l≤3) (b:=4≤h) (c:=(4:Int)≤4) (by omega) (by omega),dec_swap (a:=l≤1) (b:=1≤h) (c:=(1:Int)≤4) (by omega) (by omega),dec_swap (a:=l≤0) (b:=0≤h) (c:=(0:Int)≤4) (by omega) (by omega),dec_and hl (show (4:Int)≤4 by omega),dec_nand (a:=l≤5) (show ¬ (5:Int)≤4 by omega)]
 rw[show gt true (loopG e 2 (mulG e low) (n4+1)) x T=loopG e 2 (mulG e low) (n4+1) x T from rfl,loopG_yes h4,Res.bind_assoc]
 rfl
theorem restG_cmp (hl:l≤3)(hh:4≤h)(h5:tMul T=false)(h4:tAdd T=false)(h3:tokIs 3 wsCmp T=true):restG e low l h n5 n4 n1 n0 x T=(sumG e low T.tail).bind fun y R=>restG e low l 3 n5 n4 n1 n0 (binX (nxt e T) (hdW T) x y) R:=by
 unfold restG
 rw[gt_no (f:=loopG e 3 _ n5) fun g=>loopG_no h5,Res.bind,gt_no (f:=loopG e 2 _ n4) fun g=>loopG_no h4,Res.bind,dec_and hl hh,dec_swap (a:=l≤1) (b:=1≤h) (c:=(1:Int)≤3) (by omega) (by omega),dec_swap (a:=l≤0) (b:=0≤h) (c:=(0:Int)≤3) (by omega) (by omega),dec_nand (a:=l≤5) (show ¬ (5:Int)≤3 by omega),dec_nand (a:=l≤4) (show ¬ (4:Int)≤3 by omega),dec_nand (a:=l≤3) (show ¬ (4:Int)≤3 by omega)]
 rw[show gt true (cmpG e low) x T=cmpG e low x T from rfl,show cmpG e low x T=(sumG e low T.tail).bind fun y R=>.ok (binX (nxt e T) (hdW T) x y) R from by unfold cmpG;rw[h3];rfl,Res.bind_assoc]
 rfl
theorem restG_is (hl:l≤3)(hh:4≤h)(h5:tMul T=false)(h4:tAdd T=false)(h3:tokIs 3 wsCmp T=false)(hI:tokIs 1 [wIS] T=true) :
  restG e low l h n5 n4 n1 n0 x T=(wantG e 1 wNULL (bif tokIs 1 [wNOT] T.tail then T.tail.tail else T.tail)).bind fun _ R=>restG e low l 3 n5 n4 n1 n0 (nullX (nxt e T) (tokIs 1 [wNOT] T.tail) x) R:=by
 unfold restG
 rw[gt_no (f:=loopG e 3 _ n5) fun g=>loopG_no h5,Res.bind,gt_no (f:=loopG e 2 _ n4) fun g=>loopG_no h4,Res.bind,dec_and hl hh,dec_swap (a:=l≤1) (b:=1≤h) (c:=(1:Int)≤3) (by omega) (by omega),dec_swap (a:=l≤0) (b:=0≤h) (c:=(0:Int)≤3) (by omega) (by omega),dec_nand (a:=l≤5) (show ¬ (5:Int)≤3 by omega),dec_nand (a:=l≤4) (show ¬ (4:Int)≤3 by omega),dec_nand (a:=l≤3) (show ¬ (4:Int)≤3 by omega)]
 rw[show gt true (cmpG e low) x T=cmpG e low x T from rfl,show cmpG e low x T=(wantG e 1 wNULL (bif tokIs 1 [wNOT] T.tail then T.tail.tail else T.tail)).bind fun _ R=>.ok (nullX (nxt e T) (tokIs 1 [wNOT] T.tail) x) R from by unfold cmpG;rw[h3,hI];rfl,Res.bind_assoc]
 rfl
theorem restG_and (hl:l≤1)(hh:1≤h)(h5:tMul T=false)(h4:tAdd T=false)(h3:tokIs 3 wsCmp T=false)(hI:tokIs 1 [wIS] T=false)(h1:tAnd T=true):restG e low l h n5 n4 (n1+1) n0 x T=(negG e low T.tail).bind fun y R=>restG e low l 1 n5 n4 n1 n0 (binX (nxt e T) (hdW T) x y) R:=by
 unfold restG
 rw[gt_no (f:=loopG e 3 _ n5) fun g=>loopG_no h5,Res.bind,gt_no (f:=loopG e 2 _ n4) fun g=>loopG_no h4,Res.bind,gt_no (f:=cmpG e low) fun g=>cmpG_no h3 hI,Res.bind,dec_and hl hh,dec_swap (a:=l≤0) (b:=0≤h) (c:=(0:Int)≤1) (by omega) (by omega),dec_and hl (show (1:Int)≤1 by omega),dec_nand (a:=l≤5) (show ¬ (5:Int)≤1 by omega),dec_nand (a:=l≤4) (show ¬ (4:Int)≤1 by omega),dec_nand (a:=l≤3) (show ¬ (4:Int)≤1 by omega)]
 rw[show gt true (loopG e 1 (negG e low) (n1+1)) x T=loopG e 1 (negG e low) (n1+1) x T from rfl,loopG_yes h1,Res.bind_assoc]
 rfl
theorem restG_or (hl:l≤0)(hh:0≤h)(h5:tMul T=false)(h4:tAdd T=false)(h3:tokIs 3 wsCmp T=false)(hI:tokIs 1 [wIS] T=false)(h1:tAnd T=false)(h0:tOr T=true):restG e low l h n5 n4 n1 (n0+1) x T=(andG e low T.tail).bind fun y R=>restG e low l 0 n5 n4 n1 n0 (binX (nxt e T) (hdW T) x y) R:=by
 unfold restG
 rw[gt_no (f:=loopG e 3 _ n5) fun g=>loopG_no h5,Res.bind,gt_no (f:=loopG e 2 _ n4) fun g=>loopG_no h4,Res.bind,gt_no (f:=cmpG e low) fun g=>cmpG_no h3 hI,Res.bind,gt_no (f:=loopG e 1 _ n1) fun g=>loopG_no h1,Res.bind,dec_and hl hh,dec_and hl (show (0:Int)≤0 by omega),dec_nand (a:=l≤5) (show ¬ (5:Int)≤0 by omega),dec_nand (a:=l≤4) (show ¬ (4:Int)≤0 by omega),dec_nand (a:=l≤3) (show ¬ (4:Int)≤0 by omega),dec_nand (a:=l≤1) (show ¬ (1:Int)≤0 by omega)]
 rw[show gt true (loopG e 0 (andG e low) (n0+1)) x T=loopG e 0 (andG e low) (n0+1) x T from rfl,loopG_yes h0]
 rfl
end
structure Cls (T:List TR)(b5 b4 b3 bI b1 b0:Bool):Prop where
 h5:tMul T=b5
 h4:tAdd T=b4
 h3:tokIs 3 wsCmp T=b3
 hI:tokIs 1 [wIS] T=bI
 h1:tAnd T=b1
 h0:tOr T=b0
theorem orK_eq {S:Type}(w:List UInt8)(a b:S):∀ l,orK w a b l=bif conA l w then a else b
 |[]=>rfl
 |[x]=>by
  rw[orK]
  unfold conA
  simp
 |x::y::l=>by
  rw[show orK w a b (x::y::l)=(bif w==x then (bif w==x then a else b) else orK w a b (y::l)) from rfl,orK_eq w a b (y::l)]
  show (bif w==x then (bif w==x then a else b) else bif conA (y::l) w then a else b)=bif (w==x||conA (y::l) w) then a else b
  cases w==x<;>rfl
theorem conA_great {l:List (List UInt8)}(hl:∀ x∈l,greatB x=false){w:List UInt8}(h:greatB w=true):conA l w=false:=by
 unfold conA
 rw[List.any_eq_false]
 intro x hx
 simp only[beq_iff_eq]
 rintro rfl
 rw[hl w hx] at h
 cases h
theorem conA_mem {l:List (List UInt8)}{w:List UInt8}(h:conA l w=true):w∈l:=by
 unfold conA at h
 obtain⟨x,hx,h⟩:=List.any_eq_true.1 h
 rw[beq_iff_eq] at h
 exact h ▸ hx
theorem cls_none {t:TR}{R:List TR}(h1:(t.k==1)=false)(h3:(t.k==3)=false):Cls (t::R) false false false false false false:=by
 refine⟨?_,?_,?_,?_,?_,?_⟩<;>simp only[tokIs,opK,h1,h3,Bool.false_and]
theorem powerP_some (w:List UInt8):powerP w=some (bif w==[79,82] then 0 else bif w==[65,78,68] then 1 else bif conA wsCmp w then 3 else bif conA [[43],[45]] w then 4 else bif conA [[42],[47],[37]] w then 5 else -1):=by
 unfold powerP
 rw[orK_eq,orK_eq,orK_eq]
 cases w==[79,82] with
 |true=>rfl
 |false =>
  cases w==[65,78,68] with
  |true=>rfl
  |false =>
   cases conA wsCmp w with
   |true=>rfl
   |false =>
    cases conA [[43],[45]] w with
    |true=>rfl
    |false=>cases conA [[42],[47],[37]] w<;>rfl
theorem tok_cls {t:TR}{R:List TR}(hT:TOKs (t::R)):∃ p,powerP t.t=some p ∧
    (((t.k==1)=false∧(t.k==3)=false∧Cls (t::R) false false false false false false) ∨
     ((bif t.k != 1 then t.k != 3 else false)=false∧(
      (p=5∧Cls (t::R) true false false false false false)∨(p=4∧Cls (t::R) false true false false false false)∨(p=3∧Cls (t::R) false false true false false false) ∨
      (p=1∧Cls (t::R) false false false false true false)∨(p=0∧Cls (t::R) false false false false false true)∨(p=-1∧Cls (t::R) false false false true false false)∨(p=-1∧Cls (t::R) false false false false false false)))):=by
  refine⟨_,powerP_some t.t,?_⟩
  have hk:=hT.key t (List.mem_cons_self ..)
  have hs:=hT.sign t (List.mem_cons_self ..)
  obtain⟨k,a,w,vk,vn,vc,vs⟩:=t
  dsimp only at hk hs ⊢
  by_cases h1:k=1
  · subst h1
    have hg:=hk rfl
    right
    refine⟨rfl,?_⟩
    have c3:conA wsCmp w=false:=conA_great (by decide) hg
    have c4:conA [[43],[45]] w=false:=conA_great (by decide) hg
    have c5:conA [[42],[47],[37]] w=false:=conA_great (by decide) hg
    rw[c3,c4,c5]
    by_cases a0:w=[79,82]
    · subst a0
      exact Or.inr (Or.inr (Or.inr (Or.inr (Or.inl ⟨rfl,rfl,rfl,rfl,rfl,rfl,rfl⟩))))
    by_cases a1:w=[65,78,68]
    · subst a1
      exact Or.inr (Or.inr (Or.inr (Or.inl ⟨rfl,rfl,rfl,rfl,rfl,rfl,rfl⟩)))
    have b0:(w==[79,82])=false:=beq_eq_false_iff_ne.2 a0
    have b1:(w==[65,78,68])=false:=beq_eq_false_iff_ne.2 a1
    rw[b0,b1]
    by_cases aI:w=wIS
    · subst aI
      exact Or.inr (Or.inr (Or.inr (Or.inr (Or.inr (Or.inl ⟨rfl,rfl,rfl,rfl,rfl,rfl,rfl⟩)))))
    have bI:(w==wIS)=false:=beq_eq_false_iff_ne.2 aI
    refine Or.inr (Or.inr (Or.inr (Or.inr (Or.inr (Or.inr ⟨rfl,rfl,rfl,rfl,?_,?_,?_⟩)))))
    · simp only[tokIs,conA,List.any_cons,List.any_nil,bI,Bool.or_false,Bool.and_false]
    · simp only[tAnd,tokIs,opW,conA,List.any_cons,List.any_nil,b1,Bool.or_false,Bool.and_false]
    · simp only[tOr,tokIs,opW,conA,List.any_cons,List.any_nil,b0,Bool.or_false,Bool.and_false]
  by_cases h3:k=3
  · subst h3
    have hg:=hs rfl
    right
    refine⟨rfl,?_⟩
    have b0:(w==[79,82])=false:=by rw[beq_eq_false_iff_ne];rintro rfl;cases hg
    have b1:(w==[65,78,68])=false:=by rw[beq_eq_false_iff_ne];rintro rfl;cases hg
    rw[b0,b1]
    cases c3:conA wsCmp w with
    |true =>
      refine Or.inr (Or.inr (Or.inl ⟨rfl,?_⟩))
      have:=conA_mem c3
      simp only[List.mem_cons,List.not_mem_nil,or_false] at this
      rcases this with rfl|rfl|rfl|rfl|rfl|rfl<;>exact⟨rfl,rfl,rfl,rfl,rfl,rfl⟩
    |false =>
      cases c4:conA [[43],[45]] w with
      |true =>
        refine Or.inr (Or.inl ⟨rfl,?_⟩)
        have:=conA_mem c4
        simp only[List.mem_cons,List.not_mem_nil,or_false] at this
        rcases this with rfl|rfl<;>exact⟨rfl,rfl,rfl,rfl,rfl,rfl⟩
      |false =>
        cases c5:conA [[42],[47],[37]] w with
        |true =>
          refine Or.inl ⟨rfl,?_⟩
          have:=conA_mem c5
          simp only[List.mem_cons,List.not_mem_nil,or_false] at this
          rcases this with rfl|rfl|rfl<;>exact⟨rfl,rfl,rfl,rfl,rfl,rfl⟩
        |false =>
          refine Or.inr (Or.inr (Or.inr (Or.inr (Or.inr (Or.inr ⟨rfl,?_,?_,?_,rfl,rfl,rfl⟩)))))
          · rw[tMul,tokIs,show opW 3=[[42],[47],[37]] from rfl,c5,Bool.and_false]
          · rw[tAdd,tokIs,show opW 2=[[43],[45]] from rfl,c4,Bool.and_false]
          · rw[tokIs,c3,Bool.and_false]
  · left
    exact⟨beq_eq_false_iff_ne.2 h1,beq_eq_false_iff_ne.2 h3,cls_none (t:=⟨k,a,w,vk,vn,vc,vs⟩) (beq_eq_false_iff_ne.2 h1) (beq_eq_false_iff_ne.2 h3)⟩
section
variable {L:List TR} {nl:Option Bool} {e:Int} (he:0≤e) (hL:TOKs L)
include he hL
theorem ty_k {o:Int}{i:Nat}{k:Int}{T R:List TR}{x:Int}(hk:k=2∨¬ k=2)(hx:IntKind.i64.wrap (k+1)=x)(hi:i≤L.length) :
  SpecR L nl e o i (bif k==2 then (wantG e 3 [40] (L.drop i)).bind fun _ R=>(numG e 6 R).bind fun n R=>(wantG e 3 [41] R).bind fun _ R=>.ok (x,n) R else .ok (x,0) (L.drop i)) (tyK rmustP rnumP k (RX L nl e i o (-1)) fun s a b=>some ((a,b),s)):=by
 unfold tyK
 rw[hx]
 cases k==2 with
 |false=>exact SpecR.ret hi _
 |true =>
  simp only[cond_true]
  rw[map_bindR]
  refine SpecR.bind (rmust_w he hL hi o [40]) (fun _ j _ hj=>?_) (fun _ j o'' a hj ha=>?_)
  ·refine SpecR.bind ((rnum_spec he hL o 6).good j hj) (fun m j1 _ hj1=>?_) (fun m j1 o'' a hj1 ha=>?_)
   ·rw[map_bindR]
    exact SpecR.bind (rmust_w he hL hj1 o [41]) (fun _ j2 _ hj2=>SpecR.ret hj2 _) (fun _ j2 o'' a hj2 ha=>BadR.ret hj2 _)
   ·rw[map_bindR,rmust_b he hL ha]
    exact BadR.ret hj1 _
  ·refine BadR.bind ((rnum_spec he hL o 6).badd j o'' a hj ha) fun m j1 o1 hj1=>?_
   rw[map_bindR,rmust_b he hL ha]
   exact BadR.ret hj1 _
theorem rtyped_spec (o:Int):FSpecR L nl e o rtypedP (typedG e) where
  good := fun i hi=>by
    unfold rtypedP
    have hb:∀ a:Int,0≤a→SpecR L nl e o i (.bad a) (some (((0:Int),(0:Int)),RX L nl e i o a)):=fun a ha=>⟨ha,_,i,o,hi,rfl⟩
    rw [reats_w hL hi,Option.bind_some]
    rcases h:L.drop i with _ | ⟨t,R⟩
    · simp only [tokIs,Bool.not_false,cond_true,cond_false]
      rw [reats_w hL hi,Option.bind_some,h]
      simp only [tokIs,Bool.not_false,cond_true,cond_false]
      rw [reats_w hL hi,Option.bind_some,h]
      simp only [tokIs,Bool.not_false,cond_true,cond_false]
      rw [reats_w hL hi,Option.bind_some,h]
      simp only [tokIs,Bool.not_false,cond_true,cond_false]
      rw [reats_w hL hi,Option.bind_some,h]
      simp only [tokIs,Bool.not_false,cond_true,cond_false]
      rw [rat_x,Option.bind_some,rfault_g,h]
      exact hb e he
    · have h1 := drop_cons h
      have hk:∀ w:List UInt8,greatB w=true→tokIs (wK w) [w] (t :: R)=(t.k == 1 && (t.t == w)):=fun w hw=>by
        rw [tokIs,wK,hw,cond_true,conA,List.any_cons,List.any_nil,Bool.or_false]
      rw [hk _ rfl]
      have step:∀ {w:List UInt8},greatB w=true→reatsP (RX L nl e i o (-1)) w=some ((t.k == 1 && (t.t == w)),RX L nl e (bif (t.k == 1 && (t.t == w)) then i + 1 else i) o (-1)):=fun hw=>by rw [reats_w hL hi,h,hk _ hw]
      rw [typedG]
      have hT:=drop_tok hL i
      rw [h] at hT
      have ha:=hT.at0 t (List.mem_cons_self ..)
      cases h0:t.k == 1 with
      | false =>
        simp only [Bool.false_and,Bool.not_false,cond_true,cond_false]
        rw [step rfl,h0,Option.bind_some]
        simp only [Bool.false_and,Bool.not_false,cond_true,cond_false]
        rw [step rfl,h0,Option.bind_some]
        simp only [Bool.false_and,Bool.not_false,cond_true,cond_false]
        rw [step rfl,h0,Option.bind_some]
        simp only [Bool.false_and,Bool.not_false,cond_true,cond_false]
        rw [step rfl,h0,Option.bind_some]
        simp only [Bool.false_and,Bool.not_false,cond_true,cond_false]
        rw [rat_x,Option.bind_some,rfault_g,h]
        exact hb _ ha
      | true =>
        simp only [Bool.true_and,cond_true]
        cases hB:t.t == [66,79,79,76] with
        | true =>
          rw [eq_of_beq hB]
          simp only [Bool.not_true,cond_true,cond_false]
          have:=ty_k (nl:=nl) (o:=o) (k:=0) (T:=[]) (R:=[]) (x:=1) he hL (Or.inr (by decide)) rfl h1.1
          rw [h1.2.1] at this
          exact SpecR.suf this (Nat.le_succ i)
        | false =>
          simp only [Bool.not_false,cond_true,cond_false]
          rw [step rfl,h0,Bool.true_and,Option.bind_some]
          cases hI:t.t == [73,78,84] with
          | true =>
            rw [eq_of_beq hI]
            simp only [Bool.not_true,cond_true,cond_false]
            have:=ty_k (nl:=nl) (o:=o) (k:=1) (T:=[]) (R:=[]) (x:=2) he hL (Or.inr (by decide)) rfl h1.1
            rw [h1.2.1] at this
            exact SpecR.suf this (Nat.le_succ i)
          | false =>
            simp only [Bool.not_false,cond_true,cond_false]
            rw [step rfl,h0,Bool.true_and,Option.bind_some]
            cases hD:t.t == [68,69,67,73,77,65,76] with
            | true =>
              rw [eq_of_beq hD]
              simp only [Bool.not_true,cond_true,cond_false]
              have:=ty_k (nl:=nl) (o:=o) (k:=2) (T:=[]) (R:=[]) (x:=3) he hL (Or.inl rfl) rfl h1.1
              rw [h1.2.1] at this
              exact SpecR.suf this (Nat.le_succ i)
            | false =>
              simp only [Bool.not_false,cond_true,cond_false]
              rw [step rfl,h0,Bool.true_and,Option.bind_some]
              cases hX:t.t == [84,69,88,84] with
              | true =>
                rw [eq_of_beq hX]
                simp only [Bool.not_true,cond_true,cond_false]
                have:=ty_k (nl:=nl) (o:=o) (k:=3) (T:=[]) (R:=[]) (x:=4) he hL (Or.inr (by decide)) rfl h1.1
                rw [h1.2.1] at this
                exact SpecR.suf this (Nat.le_succ i)
              | false =>
                simp only [Bool.not_false,cond_true,cond_false]
                rw [step rfl,h0,Bool.true_and,Option.bind_some]
                cases hY:t.t == [66,89,84,69,83] with
                | true =>
                  rw [eq_of_beq hY]
                  simp only [Bool.not_true,cond_true,cond_false]
                  have:=ty_k (nl:=nl) (o:=o) (k:=4) (T:=[]) (R:=[]) (x:=5) he hL (Or.inr (by decide)) rfl h1.1
                  rw [h1.2.1] at this
                  exact SpecR.suf this (Nat.le_succ i)
                | false =>
                  simp only [Bool.not_false,cond_true,cond_false]
                  rw [rat_x,Option.bind_some,rfault_g,h]
                  have:tyIx t.t=0:=by
                    unfold tyIx
                    simp only [isI,hB,hI,hD,hX,hY,cond_false]
                    cases t.t == []<;>rfl
                  rw [this]
                  exact hb _ ha
  badd:=fun i o' a hi ha=>by
    unfold rtypedP
    rw [reats_b hL ha,Option.bind_some,Bool.not_false,cond_true,reats_b hL ha,Option.bind_some,Bool.not_false,cond_true,reats_b hL ha,Option.bind_some,Bool.not_false,cond_true,reats_b hL ha,Option.bind_some,Bool.not_false,cond_true,reats_b hL ha,Option.bind_some,Bool.not_false,cond_true,rat_x,Option.bind_some,rfault_b _ _ ha]
    exact BadR.ret hi _
theorem rlit_g {i:Nat}(hi:i≤L.length)(o:Int):rlitP (RX L nl e i o (-1))=some (match litG (L.drop i) with|some v=>(v,RX L nl e (i+1) o (-1))|none=>(⟨0,0,0,[],false⟩,RX L nl e i o (-1))):=by
 unfold rlitP
 simp only
 have step:∀ w:List UInt8,greatB w=true→reatsP (RX L nl e i o (-1)) w=some (tokIs 1 [w] (L.drop i),RX L nl e (bif tokIs 1 [w] (L.drop i) then i+1 else i) o (-1)):=fun w hw=>by rw[reats_w hL hi,wK,hw];rfl
 rcases h:L.drop i with _|⟨t,R⟩
 ·rw[live_nil h,step _ rfl,h,Option.bind_some]
  simp only[tokIs,cond_false]
  rw[step _ rfl,h,Option.bind_some]
  simp only[tokIs,cond_false]
  rw[step _ rfl,h,Option.bind_some]
  rfl
 ·have h1 := drop_cons h
  rw[live_cons h,inB_cons h,backB_x he hL h,back_x he hL hi,next_x hL hi,step _ rfl,h,Option.bind_some]
  unfold tkI tkV
  rw[show (RX L nl e i o (-1)).cs=L.flatMap TR.cells from rfl,show (RX L nl e i o (-1)).i=((i:Nat):Int) from rfl,tk_at h]
  have e1:∀ w:List UInt8,tokIs 1 [w] (t::R)=(t.k==1&&(t.t==w)):=fun w=>by rw[tokIs,conA,List.any_cons,List.any_nil,Bool.or_false]
  rw[e1,litG]
  show (bif t.k==2 then some ((⟨t.vk,t.vn,t.vc,t.vs,true⟩:VR),RX L nl e (i+1) o (-1)) else _)=_
  cases h2:t.k==2 with
  |true=>rfl
  |false =>
   simp only[cond_false]
   cases h3:t.k==1 with
   |false =>
    simp only[Bool.false_and,cond_false]
    rw[step _ rfl,h,e1,h3,Option.bind_some]
    simp only[Bool.false_and,cond_false]
    rw[step _ rfl,h,e1,h3,Option.bind_some]
    rfl
   |true =>
    simp only[Bool.true_and,cond_true]
    cases hN:t.t==wNULL with
    |true =>
     rw[eq_of_beq hN]
     rfl
    |false =>
     simp only[cond_false]
     rw[step _ rfl,h,e1,h3,Option.bind_some,Bool.true_and]
     cases hT:t.t==wTRUE with
     |true=>rfl
     |false =>
      simp only[cond_false]
      rw[step _ rfl,h,e1,h3,Option.bind_some,Bool.true_and]
      cases hF:t.t==wFALSE<;>rfl
theorem rlit_b {i:Nat}{o a:Int}(ha:0≤a):rlitP (RX L nl e i o a)=some (⟨0,0,0,[],false⟩,RX L nl e i o a):=by
 have _:=he
 unfold rlitP
 simp only
 rw[live_bad ha,reats_b hL ha,Option.bind_some,cond_false,reats_b hL ha,Option.bind_some,cond_false,reats_b hL ha]
 rfl
def LowR (L:List TR)(nl:Option Bool)(e o:Int)(low:Option GF)(D:Nat):Prop:=match low with
 |none=>o=20
 |some G=>0≤o∧o<20∧∀ d,D≤d→FSpecR L nl e (o+1) (fun s=>(rfs d).expr s 0) G.expr∧FSpecR L nl e (o+1) (fun s=>(rfs d).expr s 2) G.neg∧FSpecR L nl e (o+1) (rfs d).fact G.fact
theorem shut_x {o:Int}(h0:0≤o)(h1:o<20)(i:Nat)(b:Int):(RX L nl e i (o+1) b).shut=RX L nl e i o b:=by
 have _:=hL
 have _:=he
 unfold RS.shut RX
 rw[show o+1-1=o by omega,wrapI_of (by omega) (by omega)]
theorem rdeep_ok {o:Int}(h0:0≤o)(h1:o<20)(i:Nat):rdeepP (RX L nl e i o (-1))=some (true,RX L nl e i (o+1) (-1)):=by
 have _:=hL
 have _:=he
 unfold rdeepP
 rw[cond_f (show ((RX L nl e i o (-1)).o==20)=false from beq_eq_false_iff_ne.2 (by show ¬ o=20;omega))]
 unfold RS.open RX
 rw[wrapI_of (by simp only;omega) (by simp only;omega)]
 rfl
theorem rdeep_no (i:Nat):rdeepP (RX L nl e i 20 (-1))=some (false,RX L nl e i 20 (nxt e (L.drop i))):=by
 have _:=hL
 have _:=he
 unfold rdeepP
 rw[cond_t (by rfl),rat_x]
 rfl
theorem rdeep_spec {low:Option GF}{o:Int}{D:Nat}(hl:LowR L nl e o low D){i:Nat}(hi:i≤L.length){z:XR}{pb:RS→Option (XR×RS)}{gb:GF→Res XR}
  (hb:∀ G,low=some G→0≤o→o<20→SpecR L nl e o i (gb G) (pb (RX L nl e i (o+1) (-1)))) :
  SpecR L nl e o i (deepG e low (L.drop i) gb) ((rdeepP (RX L nl e i o (-1))).bind fun d=>bif !d.1 then some (z,d.2) else pb d.2):=by
 cases low with
 |none =>
  obtain rfl:o=20:=hl
  rw[rdeep_no he hL]
  exact⟨(drop_tok hL i).nxt0 he,z,i,20,hi,rfl⟩
 |some G =>
  obtain⟨h0,h1,-⟩:=hl
  rw[rdeep_ok he hL h0 h1]
  exact hb G rfl h0 h1
theorem rshut_b {i:Nat}{o b:Int}(hb:0≤b):∃ o',rshutP (RX L nl e i o b)=some (RX L nl e i o' b):=by
 unfold rshutP
 rw[rmust_b he hL hb,Option.bind_some]
 exact⟨_,rfl⟩
theorem rshut_bad {α:Type}{i:Nat}(hi:i≤L.length){o b:Int}(hb:0≤b)(x:α):BadR L nl e b ((rshutP (RX L nl e i o b)).bind fun s=>some (x,s)):=by
 obtain⟨o',h⟩:=rshut_b (nl:=nl) (i:=i) (o:=o) he hL hb
 rw[h]
 exact BadR.ret hi x
theorem rwithin {low:Option GF}{o:Int}{D:Nat}(hl:LowR L nl e o low D){i:Nat}(hi:i≤L.length){z:XR}{pb:RS→Option (XR×RS)}{gb:GF→List TR→Res XR}
  (hb:∀ G,low=some G→0≤o→o<20→i+1≤L.length→SpecR L nl e (o+1) (i+1) (gb G (L.drop (i+1))) (pb (RX L nl e (i+1) (o+1) (-1)))) :
  SpecR L nl e o i (withinG e low (L.drop i) gb) ((ropenP (RX L nl e i o (-1))).bind fun q=>bif !q.1 then some (z,q.2) else (pb q.2).bind fun x=>(rshutP x.2).bind fun s=>some (x.1,s)):=by
 unfold ropenP withinG
 rw[rsees_w hL,Option.bind_some]
 cases h:tokIs (wK [40]) [[40]] (L.drop i) with
 |false =>
  rw[show tokIs 3 [[40]] (L.drop i)=false from h]
  simp only[Bool.not_false,cond_true,cond_false,rat_x,Option.bind_some,rfault_g,Bool.not_true]
  exact⟨(drop_tok hL i).nxt0 he,z,i,o,hi,rfl⟩
 |true =>
  rw[show tokIs 3 [[40]] (L.drop i)=true from h]
  have hi1:=tok_lt hL h
  simp only[Bool.not_true,cond_true,cond_false,Option.bind_assoc]
  have:∀ d:Bool×RS,((bif !d.1 then some (false,d.2) else some (true,d.2.next)).bind fun q=>bif !q.1 then some (z,q.2) else (pb q.2).bind fun x=>(rshutP x.2).bind fun s=>some (x.1,s)) =
    bif !d.1 then some (z,d.2) else (pb d.2.next).bind fun x=>(rshutP x.2).bind fun s=>some (x.1,s):=fun d=>by
   cases h:d.1<;>simp[h]
  simp only[this]
  refine rdeep_spec (pb:=fun s=>(pb s.next).bind fun x=>(rshutP x.2).bind fun s=>some (x.1,s)) he hL hl hi fun G hG h0 h1=>?_
  rw[next_x hL hi,List.tail_drop]
  refine SpecR.suf (SpecR.bind (hb G hG h0 h1 hi1) (fun x j _ hj=>?_) (fun x j o'' a hj ha=>rshut_bad he hL hj ha x)) (Nat.le_succ i)
  unfold rshutP
  rw[Option.bind_assoc,map_bindR]
  refine SpecR.bind (rmust_w he hL hj (o+1) [41]) (fun _ j1 _ hj1=>?_) (fun _ j1 o'' a hj1 ha=>?_)
  ·simp only[Option.bind_some]
   rw[shut_x he hL h0 h1]
   exact SpecR.ret hj1 x
  ·exact BadR.ret hj1 x
theorem rest_g {X : RS→Int→Option (XR × RS)} {o l:Int} {low:Option GF} (h6:l≤5→FSpecR L nl e o (fun s=>X s 6) (factG e low)) (h5:l≤4→FSpecR L nl e o (fun s=>X s 5) (mulG e low)) (h4:l≤3→FSpecR L nl e o (fun s=>X s 4) (sumG e low))
    (h2:l≤1→FSpecR L nl e o (fun s=>X s 2) (negG e low)) (h1:l≤0→FSpecR L nl e o (fun s=>X s 1) (andG e low)) (hl0:0≤l) :
    ∀ (m i n5 n4 n1 n0:Nat) (x:XR) (h:Int),i≤L.length→L.length < i + m→L.length≤i + n5→L.length≤i + n4→L.length≤i + n1→L.length≤i + n0→0≤h →
      SpecR L nl e o i (restG e low l h n5 n4 n1 n0 x (L.drop i)) (reLP X m (RX L nl e i o (-1)) x l h)
  | 0,i,n5,n4,n1,n0,x,h,hi,hm,_,_,_,_,_=>by omega
  | m + 1, i, n5, n4,n1,n0,x,h,hi,hm,k5,k4,k1,k0,hh=>by
    have bad:∀ x l h j o'' a,j≤L.length→0≤a→L.length < i + (m + 1)→BadR L nl e a (reLP X m (RX L nl e j o'' a) x l h)∨m=0:=fun x l h j o'' a hj ha _=>by
      cases m with
      | zero=>exact Or.inr rfl
      | succ m =>
        left
        rw [reLP,live_bad ha]
        exact BadR.ret hj x
    rw [reLP]
    rcases hd:L.drop i with _ | ⟨t,R⟩
    · rw [live_nil hd,restG_no (fun _ _=>rfl) (fun _ _=>rfl) (fun _ _=>⟨rfl,rfl⟩) (fun _ _=>rfl) (fun _ _=>rfl),← hd]
      exact SpecR.ret hi x
    · obtain ⟨hlt,hR,-⟩:=drop_cons hd
      have hT:=drop_tok hL i
      rw [live_cons hd,rat_x,Option.bind_some,hd]
      rw [hd] at hT
      obtain ⟨p,hp,hcls⟩:=tok_cls hT
      have N:(∀ (_:¬ (stopB t p l h=true)),SpecR L nl e o i (restG e low l h n5 n4 n1 n0 x (t :: R)) ((X (RX L nl e (i + 1) o (-1)) (IntKind.i64.wrap (p + 1))).bind fun y=>reLP X m y.2 (binX t.a t.t x y.1) l p)) →
          (stopB t p l h=true→restG e low l h n5 n4 n1 n0 x (t :: R)=.ok x (t :: R)) →
          SpecR L nl e o i (restG e low l h n5 n4 n1 n0 x (t :: R)) (chk (RX L nl e i o (-1)).inB (tkT (RX L nl e i o (-1)).cs (RX L nl e i o (-1)).i fun t'=>(powerP t'.t).bind fun p=>bif stopB t' p l h then some (x,RX L nl e i o (-1)) else (X (RX L nl e i o (-1)).next (IntKind.i64.wrap (p + 1))).bind fun y=>reLP X m y.2 (binX (nxt e (t :: R)) t'.t x y.1) l p)):=by
        intro ht hs
        rw [inB_cons hd,chk,cond_true]
        unfold tkT
        rw [show (RX L nl e i o (-1)).cs=L.flatMap TR.cells from rfl,show (RX L nl e i o (-1)).i=((i:Nat):Int) from rfl,tk_at hd]
        show SpecR L nl e o i _ ((powerP t.t).bind fun p=>bif stopB t p l h then some (x,RX L nl e i o (-1)) else (X (RX L nl e i o (-1)).next (IntKind.i64.wrap (p + 1))).bind fun y=>reLP X m y.2 (binX t.a t.t x y.1) l p)
        rw [hp,Option.bind_some,next_x hL hi]
        cases hst:stopB t p l h with
        | true =>
          rw [hs hst,← hd]
          exact SpecR.ret hi x
        | false=>exact ht (by rw [hst];decide)
      have ih:=rest_g h6 h5 h4 h2 h1 hl0 m
      have T:∀ {gp:List TR→Res XR} {q h':Int} {a5 a4 a1 a0:Nat},FSpecR L nl e o (fun s=>X s q) gp→L.length≤i + 1 + a5→L.length≤i + 1 + a4→L.length≤i + 1 + a1→L.length≤i + 1 + a0→0≤h' →
          SpecR L nl e o i ((gp (t :: R).tail).bind fun y R'=>restG e low l h' a5 a4 a1 a0 (binX (nxt e (t :: R)) (hdW (t :: R)) x y) R') ((X (RX L nl e (i + 1) o (-1)) q).bind fun y=>reLP X m y.2 (binX t.a t.t x y.1) l h'):=by
        intro gp q h' a5 a4 a1 a0 hX b5 b4 b1 b0 hh'
        rw [List.tail_cons,← hR]
        refine SpecR.suf (SpecR.bind (hX.good (i + 1) hlt) (fun y j hij hj=>?_) (fun y j o'' a hj ha=>?_)) (Nat.le_succ i)
        · exact ih j a5 a4 a1 a0 _ h' hj (by omega) (by omega) (by omega) (by omega) (by omega) hh'
        · rcases bad (binX t.a t.t x y) l h' j o'' a hj ha hm with hb | hb
          · exact hb
          · omega
      have sIs:rseesP (RX L nl e i o (-1)) [73,83]=some (tokIs 1 [wIS] (t :: R),RX L nl e i o (-1)):=by
        rw [rsees_w hL,hd]
        rfl
      simp only
      have stop:stopB t p l h=(bif (bif (bif (bif t.k != 1 then t.k != 3 else false) then true else decide (p < l)) then true else decide (h < p)) then true else (bif p == 3 then h == 3 else false)):=rfl
      have pass:∀ {α:Type} {A B:α} {bI:Bool},bI=false→(bif (bif decide (l≤3) then decide (3 < h) else false) then (bif bI then A else B) else B)=B:=fun hb=>by
        subst hb
        cases (bif decide (l≤3) then decide (3 < h) else false)<;>rfl
      rw [sIs,Option.bind_some]
      simp only
      rcases hcls with ⟨q1,q3,c⟩ | ⟨hk,hcls⟩
      · rw [c.hI,pass rfl]
        have st:stopB t p l h=true:=by
          rw [stop]
          simp only [bne,q1,q3,Bool.not_false,cond_true]
        exact N (fun hn=>absurd st hn) fun _=>restG_no (fun _ _=>c.h5) (fun _ _=>c.h4) (fun _ _=>⟨c.h3,c.hI⟩) (fun _ _=>c.h1) (fun _ _=>c.h0)
      · rw [hk, cond_false] at stop
        rcases hcls with ⟨rfl,c⟩ | ⟨rfl,c⟩ | ⟨rfl,c⟩ | ⟨rfl,c⟩ | ⟨rfl,c⟩ | ⟨rfl,c⟩ | ⟨rfl,c⟩
        · rw [c.hI,pass rfl]
          refine N (fun hn=>?_) (fun hs=>?_)
          · have hg:l≤5∧5≤h:=by
              rw [stop] at hn
              by_cases g1:(5:Int) < l
              · exact absurd (by simp [g1]) hn
              · by_cases g2:h < 5
                · exact absurd (by simp [g2]) hn
                · omega
            obtain ⟨n5,rfl⟩:∃ n,n5=n + 1:=⟨n5 - 1,by omega⟩
            rw [restG_mul hg.1 hg.2 c.h5]
            exact T (h6 hg.1) (by omega) (by omega) (by omega) (by omega) (by omega)
          · refine restG_no (fun g1 g2=>?_) (fun _ _=>c.h4) (fun _ _=>⟨c.h3,c.hI⟩) (fun _ _=>c.h1) (fun _ _=>c.h0)
            rw [stop,decide_eq_false (show ¬ (5:Int) < l by omega),decide_eq_false (show ¬ h < 5 by omega)] at hs
            cases hs
        · rw [c.hI,pass rfl]
          refine N (fun hn=>?_) (fun hs=>?_)
          · have hg:l≤4∧4≤h:=by
              rw [stop] at hn
              by_cases g1:(4:Int) < l
              · exact absurd (by simp [g1]) hn
              · by_cases g2:h < 4
                · exact absurd (by simp [g2]) hn
                · omega
            obtain ⟨n4,rfl⟩:∃ n,n4=n + 1:=⟨n4 - 1,by omega⟩
            rw [restG_add hg.1 hg.2 c.h5 c.h4]
            exact T (h5 hg.1) (by omega) (by omega) (by omega) (by omega) (by omega)
          · refine restG_no (fun _ _=>c.h5) (fun g1 g2=>?_) (fun _ _=>⟨c.h3,c.hI⟩) (fun _ _=>c.h1) (fun _ _=>c.h0)
            rw [stop,decide_eq_false (show ¬ (4:Int) < l by omega),decide_eq_false (show ¬ h < 4 by omega)] at hs
            cases hs
        · rw [c.hI,pass rfl]
          refine N (fun hn=>?_) (fun hs=>?_)
          · have hg:l≤3∧4≤h:=by
              rw [stop] at hn
              by_cases g1:(3:Int) < l
              · exact absurd (by simp [g1]) hn
              · by_cases g2:h < 3
                · exact absurd (by simp [g2]) hn
                · by_cases g3:h=3
                  · exact absurd (by simp [g3]) hn
                  · omega
            rw [restG_cmp hg.1 hg.2 c.h5 c.h4 c.h3]
            exact T (h4 hg.1) (by omega) (by omega) (by omega) (by omega) (by omega)
          · refine restG_no (fun _ _=>c.h5) (fun _ _=>c.h4) (fun g1 g2=>?_) (fun _ _=>c.h1) (fun _ _=>c.h0)
            rw [stop,decide_eq_false (show ¬ (3:Int) < l by omega),decide_eq_false (show ¬ h < 3 by omega),show (h == 3)=false from beq_eq_false_iff_ne.2 (by omega)] at hs
            cases hs
        · rw [c.hI,pass rfl]
          refine N (fun hn=>?_) (fun hs=>?_)
          · have hg:l≤1∧1≤h:=by
              rw [stop] at hn
              by_cases g1:(1:Int) < l
              · exact absurd (by simp [g1]) hn
              · by_cases g2:h < 1
                · exact absurd (by simp [g2]) hn
                · omega
            obtain ⟨n1,rfl⟩:∃ n,n1=n + 1:=⟨n1 - 1,by omega⟩
            rw [restG_and hg.1 hg.2 c.h5 c.h4 c.h3 c.hI c.h1]
            exact T (h2 hg.1) (by omega) (by omega) (by omega) (by omega) (by omega)
          · refine restG_no (fun _ _=>c.h5) (fun _ _=>c.h4) (fun _ _=>⟨c.h3,c.hI⟩) (fun g1 g2=>?_) (fun _ _=>c.h0)
            rw [stop,decide_eq_false (show ¬ (1:Int) < l by omega),decide_eq_false (show ¬ h < 1 by omega)] at hs
            cases hs
        · rw [c.hI,pass rfl]
          refine N (fun hn=>?_) (fun hs=>?_)
          · have hg:l≤0∧0≤h:=by
              rw [stop] at hn
              by_cases g1:(0:Int) < l
              · exact absurd (by simp [g1]) hn
              · omega
            obtain ⟨n0,rfl⟩:∃ n,n0=n + 1:=⟨n0 - 1,by omega⟩
            rw [restG_or hg.1 hg.2 c.h5 c.h4 c.h3 c.hI c.h1 c.h0]
            exact T (h1 hg.1) (by omega) (by omega) (by omega) (by omega) (by omega)
          · refine restG_no (fun _ _=>c.h5) (fun _ _=>c.h4) (fun _ _=>⟨c.h3,c.hI⟩) (fun _ _=>c.h1) (fun g1 g2=>?_)
            rw [stop,decide_eq_false (show ¬ (0:Int) < l by omega),decide_eq_false (show ¬ h < 0 by omega)] at hs
            cases hs
        · by_cases hg:l≤3∧3 < h
          · rw [show (bif decide (l≤3) then decide (3 < h) else false)=true by simp [hg.1,hg.2],cond_true,c.hI,cond_true,next_x hL hi,reats_w hL hlt,Option.bind_some,hR,restG_is hg.1 (by omega) c.h5 c.h4 c.h3 c.hI,List.tail_cons]
            have hN:(tokIs (wK wNOT) [wNOT] R)=tokIs 1 [wNOT] R:=rfl
            rw [show tokIs (wK [78,79,84]) [[78,79,84]] R=tokIs 1 [wNOT] R from rfl]
            rw [map_bindR]
            have hj:∃ j,i + 1≤j∧j≤L.length∧(bif tokIs 1 [wNOT] R then i + 1 + 1 else i + 1)=j∧(bif tokIs 1 [wNOT] R then R.tail else R)=L.drop j:=by
              cases hn:tokIs 1 [wNOT] R with
              | false=>exact ⟨i + 1,Nat.le_refl _,hlt,rfl,hR.symm⟩
              | true =>
                rw [← hR] at hn
                exact ⟨i + 1 + 1,Nat.le_succ _,tok_lt hL hn,rfl,by rw [← hR];exact List.tail_drop⟩
            obtain ⟨j,hj1,hj2,hj3,hj4⟩:=hj
            simp only [hj3,hj4]
            refine SpecR.suf (SpecR.bind (rmust_w he hL hj2 o wNULL) (fun _ j' hij hj'=>?_) (fun _ j' o'' a hj' ha=>?_)) (show i≤j by omega)
            · exact ih j' n5 n4 n1 n0 _ 3 hj' (by omega) (by omega) (by omega) (by omega) (by omega) (by omega)
            · rcases bad (nullX (nxt e (t :: R)) (tokIs 1 [wNOT] R) x) l 3 j' o'' a hj' ha hm with hb | hb
              · exact hb
              · omega
          · rw [show (bif decide (l≤3) then decide (3 < h) else false)=false by
              by_cases g1:l≤3
              · have:¬ 3 < h:=fun g2=>hg ⟨g1,g2⟩
                simp [g1,this]
              · simp [g1],cond_false]
            have st:stopB t (-1) l h=true:=by rw [stop,decide_eq_true (show (-1:Int) < l by omega)];rfl
            exact N (fun hn=>absurd st hn) fun _=>restG_no (fun _ _=>c.h5) (fun _ _=>c.h4) (fun g1 g2=>absurd ⟨g1,by omega⟩ hg) (fun _ _=>c.h1) (fun _ _=>c.h0)
        · rw [c.hI,pass rfl]
          have st:stopB t (-1) l h=true:=by rw [stop,decide_eq_true (show (-1:Int) < l by omega)];rfl
          exact N (fun hn=>absurd st hn) fun _=>restG_no (fun _ _=>c.h5) (fun _ _=>c.h4) (fun _ _=>⟨c.h3,c.hI⟩) (fun _ _=>c.h1) (fun _ _=>c.h0)
end
section
variable {L:List TR} {nl:Option Bool} {e:Int} (he:0≤e) (hL:TOKs L)
include he hL
theorem ratom_lit {o:Int}{i:Nat}(hi:i≤L.length):SpecR L nl e o i (match litG (L.drop i) with
   |some v=>.ok (litX (nxt e (L.drop i)) v.vk v.vn v.vc v.vs) (L.drop i).tail
   |none=>(nameG e (L.drop i)).bind fun n R=>bif tokIs 3 [[46]] R then (nameG e R.tail).bind fun m R=>.ok (colX (nxt e (L.drop i)) n m) R else .ok (colX (nxt e (L.drop i)) [] n) R)
  ((rlitP (RX L nl e i o (-1))).bind fun v=>bif v.1.ok then some (litX (nxt e (L.drop i)) v.1.vk v.1.vn v.1.vc v.1.vs,v.2) else (rnameP v.2).bind fun n=>(reatsP n.2 [46]).bind fun r=>bif r.1 then (rnameP r.2).bind fun m=>some (colX (nxt e (L.drop i)) n.1 m.1,m.2) else some (colX (nxt e (L.drop i)) [] n.1,r.2)):=by
 rw[rlit_g he hL hi,Option.bind_some]
 cases h4:litG (L.drop i) with
 |some v =>
  obtain⟨hv,t,R,hd⟩:=litG_ok h4
  simp only[hv,cond_true]
  exact⟨i+1,Nat.le_succ _,(drop_cons hd).1,List.tail_drop,rfl⟩
 |none =>
  simp only[cond_false]
  refine SpecR.bind ((rname_spec he hL o).good i hi) (fun n j _ hj=>?_) (fun n j o'' a hj ha=>?_)
  ·rw[reats_w hL hj,Option.bind_some,show wK [46]=3 from rfl]
   cases h5:tokIs 3 [[46]] (L.drop j) with
   |false=>exact SpecR.ret hj _
   |true =>
    simp only[cond_true,List.tail_drop]
    exact SpecR.suf (SpecR.bind ((rname_spec he hL o).good (j+1) (tok_lt hL h5)) (fun m j1 _ hj1=>SpecR.ret hj1 _) (fun m j1 o'' a hj1 ha=>BadR.ret hj1 _)) (Nat.le_succ j)
  ·rw[reats_b hL ha]
   exact BadR.ret hj _
theorem ratom_lit_b {o:Int}{i:Nat}(hi:i≤L.length){b a:Int}(hb:0≤b):BadR L nl e b
  ((rlitP (RX L nl e i o b)).bind fun v=>bif v.1.ok then some (litX a v.1.vk v.1.vn v.1.vc v.1.vs,v.2) else (rnameP v.2).bind fun n=>(reatsP n.2 [46]).bind fun r=>bif r.1 then (rnameP r.2).bind fun m=>some (colX a n.1 m.1,m.2) else some (colX a [] n.1,r.2)):=by
 rw[rlit_b he hL hb,Option.bind_some,cond_false]
 refine BadR.bind ((rname_spec he hL o).badd i o b hi hb) fun n j o1 hj=>?_
 rw[reats_b hL hb]
 exact BadR.ret hj _
section
variable {o:Int} {low:Option GF} {D:Nat} (hl:LowR L nl e o low D)
include hl
theorem rcall_g {d:Nat}(hd:D≤d){i:Nat}(hi:i≤L.length)(a:Int)(w:List UInt8)(star:Bool) :
  SpecR L nl e o i (withinG e low (L.drop i) fun G R=>bif star then bif tokIs 3 [[42]] R then .ok (call0 a w) R.tail else (G.expr R).bind fun x R=>.ok (callX a w x) R else (G.expr R).bind fun x R=>.ok (callX a w x) R)
   (raCall (fAtOf (rfs d)) a w star (RX L nl e i o (-1)) fun e s=>some (e,s)):=by
 have:=rwithin (z:=call0 a w) (pb:=fun s=>bif star then (reatsP s [42]).bind fun q=>bif !q.1 then ((rfs d).expr q.2 0).bind fun x=>some (callX a w x.1,x.2) else some (call0 a w,q.2) else ((rfs d).expr s 0).bind fun x=>some (callX a w x.1,x.2)) (gb:=fun G R=>bif star then bif tokIs 3 [[42]] R then .ok (call0 a w) R.tail else (G.expr R).bind fun x R=>.ok (callX a w x) R else (G.expr R).bind fun x R=>.ok (callX a w x) R) he hL hl hi (fun G hG h0 h1 hi1=>?_)
 ·unfold raCall
  simp only[cond_bindo,Option.bind_assoc,Option.bind_some] at this
  exact this
 ·subst hG
  have hE:∀ {j:Nat},j≤L.length→SpecR L nl e (o+1) j ((G.expr (L.drop j)).bind fun x R=>.ok (callX a w x) R) (((rfs d).expr (RX L nl e j (o+1) (-1)) 0).bind fun x=>some (callX a w x.1,x.2)):=fun hj =>
   SpecR.bind ((hl.2.2 d hd).1.good _ hj) (fun x j1 _ hj1=>SpecR.ret hj1 _) (fun x j1 o'' a hj1 ha=>BadR.ret hj1 _)
  cases star with
  |false=>exact hE hi1
  |true =>
   simp only[cond_true]
   rw[reats_w hL hi1,Option.bind_some,show wK [42]=3 from rfl]
   cases h5:tokIs 3 [[42]] (L.drop (i+1)) with
   |false=>exact hE hi1
   |true =>
    simp only[Bool.not_true,cond_false,cond_true,List.tail_drop]
    exact SpecR.suf (SpecR.ret (tok_lt hL h5) _) (Nat.le_succ _)
theorem ratom_spec {d : Nat} (hd:D + 1≤d):FSpecR L nl e o (rfs d).atom (atomG e low) where
  good := fun i hi => by
    obtain ⟨d,rfl⟩:∃ d',d=d' + 1:=⟨d - 1,by omega⟩
    have hd':D≤d:=by omega
    rw [rfs]
    unfold rfStep
    dsimp only
    have hT:=drop_tok hL i
    rw [show (fAtOf (rfs d)).fa (RX L nl e i o (-1))=_ from rat_x i o (-1),Option.bind_some,show (fAtOf (rfs d)).fs (RX L nl e i o (-1)) [40]=_ from rsees_w hL i o [40],Option.bind_some]
    unfold atomG
    cases h1:tokIs 3 [[40]] (L.drop i) with
    | true =>
      rw [show tokIs (wK [40]) [[40]] (L.drop i)=true from h1]
      simp only [cond_true]
      refine rwithin (pb:=fun s=>(rfs d).expr s 0) (z:=XR.zero) he hL hl hi fun G hG h0 h1 hi1=>?_
      subst hG
      exact (hl.2.2 d hd').1.good (i + 1) hi1
    | false =>
      rw [show tokIs (wK [40]) [[40]] (L.drop i)=false from h1]
      simp only [cond_false]
      rw [show (fAtOf (rfs d)).fe (RX L nl e i o (-1)) [67,65,83,84]=_ from reats_w hL hi o wCAST,Option.bind_some,show wK wCAST=1 from rfl]
      cases h2:tokIs 1 [wCAST] (L.drop i) with
      | true =>
        simp only [cond_true]
        unfold castG
        rw [List.tail_drop]
        have hi1:=tok_lt hL h2
        have:=rwithin (z:=XR.zero) (pb:=fun s=>((rfs d).expr s 0).bind fun x=>(rmustP x.2 1 [.str wAS]).bind fun s=>(rtypedP s).bind fun y=>some (castX (nxt e (L.drop i)) y.1.1 y.1.2 x.1,y.2)) (gb:=fun G R=>(G.expr R).bind fun x R=>(wantG e 1 wAS R).bind fun _ R=>(typedG e R).bind fun y R=>.ok (castX (nxt e (L.drop i)) y.1 y.2 x) R) he hL hl hi1 (fun G hG h0 h1 hi2=>?_)
        · simp only [Option.bind_assoc,Option.bind_some] at this
          exact SpecR.suf this (Nat.le_succ i)
        · subst hG
          refine SpecR.bind ((hl.2.2 d hd').1.good _ hi2) (fun x j _ hj=>?_) (fun x j o'' a hj ha=>?_)
          · rw [map_bindR]
            refine SpecR.bind (rmust_w he hL hj (o + 1) wAS) (fun _ j1 _ hj1=>?_) (fun _ j1 o'' a hj1 ha=>?_)
            · exact SpecR.bind ((rtyped_spec he hL (o + 1)).good j1 hj1) (fun y j2 _ hj2=>SpecR.ret hj2 _) (fun y j2 o'' a hj2 ha=>BadR.ret hj2 _)
            · exact BadR.bind ((rtyped_spec he hL (o + 1)).badd j1 o'' a hj1 ha) fun y j2 o2 hj2=>BadR.ret hj2 _
          · rw [map_bindR,rmust_b he hL ha]
            simp only [Option.map_some,Option.bind_some]
            exact BadR.bind ((rtyped_spec he hL (o + 1)).badd j o'' a hj ha) fun y j2 o2 hj2=>BadR.ret hj2 _
      | false =>
        simp only [cond_false]
        have hW:∀ w,tokIs 1 [w] (L.drop i)=true→w ∈ wsCall→tokIs 1 wsCall (L.drop i)=true∧hdW (L.drop i)=w∧i + 1≤L.length:=fun w h hw=>by
          obtain ⟨t,R,hd⟩:=tok_cons h
          rw [hd] at h ⊢
          rw [tokIs,conA,List.any_cons,List.any_nil,Bool.or_false,Bool.and_eq_true,beq_iff_eq] at h
          refine ⟨?_,eq_of_beq h.2,(drop_cons hd).1⟩
          rw [tokIs,beq_iff_eq.2 h.1,Bool.true_and]
          exact List.any_eq_true.2 ⟨w,hw,h.2⟩
        have call:∀ (w:List UInt8) (star:Bool),tokIs 1 [w] (L.drop i)=true→w ∈ wsCall→(w == wCOUNT)=star→SpecR L nl e o i (bif tokIs 1 wsCall (L.drop i) then callG e low (L.drop i) else
            match litG (L.drop i) with
            | some v=>.ok (litX (nxt e (L.drop i)) v.vk v.vn v.vc v.vs) (L.drop i).tail
            | none=>(nameG e (L.drop i)).bind fun n R=>bif tokIs 3 [[46]] R then (nameG e R.tail).bind fun m R=>.ok (colX (nxt e (L.drop i)) n m) R else .ok (colX (nxt e (L.drop i)) [] n) R)
            (raCall (fAtOf (rfs d)) (nxt e (L.drop i)) w star (RX L nl e (i + 1) o (-1)) fun e s=>some (e,s)):=fun w star h hw hs=>by
          obtain ⟨q1,q2,q3⟩:=hW w h hw
          rw [q1,cond_true]
          unfold callG
          rw [q2,hs,List.tail_drop]
          exact SpecR.suf (rcall_g he hL hl hd' q3 _ w star) (Nat.le_succ i)
        rw [show (fAtOf (rfs d)).fe (RX L nl e i o (-1)) [67,79,85,78,84]=_ from reats_w hL hi o wCOUNT,Option.bind_some,show wK wCOUNT=1 from rfl]
        cases c1:tokIs 1 [wCOUNT] (L.drop i) with
        | true=>exact call _ true c1 (by decide) rfl
        | false =>
          simp only [Bool.not_false,cond_true,cond_false]
          rw [show (fAtOf (rfs d)).fe (RX L nl e i o (-1)) [83,85,77]=_ from reats_w hL hi o _,Option.bind_some,show wK [83,85,77]=1 from rfl]
          cases c2:tokIs 1 [[83,85,77]] (L.drop i) with
          | true=>exact call _ false c2 (by decide) rfl
          | false =>
            simp only [Bool.not_false,cond_true,cond_false]
            rw [show (fAtOf (rfs d)).fe (RX L nl e i o (-1)) [77,73,78]=_ from reats_w hL hi o _,Option.bind_some,show wK [77,73,78]=1 from rfl]
            cases c3:tokIs 1 [[77,73,78]] (L.drop i) with
            | true=>exact call _ false c3 (by decide) rfl
            | false =>
              simp only [Bool.not_false,cond_true,cond_false]
              rw [show (fAtOf (rfs d)).fe (RX L nl e i o (-1)) [77,65,88]=_ from reats_w hL hi o _,Option.bind_some,show wK [77,65,88]=1 from rfl]
              cases c4:tokIs 1 [[77,65,88]] (L.drop i) with
              | true=>exact call _ false c4 (by decide) rfl
              | false =>
                simp only [Bool.not_false,cond_true,cond_false]
                have:tokIs 1 wsCall (L.drop i)=false:=by
                  rcases hd:L.drop i with _ | ⟨t,R⟩
                  · rfl
                  · rw [hd,tokIs] at c1 c2 c3 c4
                    rw [tokIs]
                    cases hk:t.k == 1 with
                    | false=>rfl
                    | true =>
                      rw [hk] at c1 c2 c3 c4
                      simp only [Bool.true_and,conA,List.any_cons,List.any_nil,Bool.or_false] at c1 c2 c3 c4 ⊢
                      rw [c1,c2,c3,c4]
                      rfl
                rw [this,cond_false]
                exact ratom_lit he hL hi
  badd:=fun i o' a hi ha=>by
    obtain ⟨d,rfl⟩:∃ d',d=d' + 1:=⟨d - 1,by omega⟩
    rw [rfs]
    unfold rfStep
    dsimp only
    have st:∀ w,(fAtOf (rfs d)).fe (RX L nl e i o' a) w=some (false,RX L nl e i o' a):=fun w=>reats_b hL ha w
    rw [show (fAtOf (rfs d)).fa (RX L nl e i o' a)=_ from rat_x i o' a,Option.bind_some,show (fAtOf (rfs d)).fs (RX L nl e i o' a) [40]=_ from rsees_b ha [40],Option.bind_some]
    simp only [cond_false,st,Option.bind_some,Bool.not_false,cond_true]
    exact ratom_lit_b he hL hi ha
theorem rfact_spec {d:Nat}(hd:D+2≤d):FSpecR L nl e o (rfs d).fact (factG e low) where
 good:=fun i hi=>by
  obtain⟨d,rfl⟩:∃ d',d=d'+1:=⟨d-1,by omega⟩
  rw[rfs]
  unfold rfStep
  dsimp only
  rw[rat_x,Option.bind_some,rsees_w hL,Option.bind_some]
  unfold factG
  rw[show wK [45]=3 from rfl]
  cases h:tokIs 3 [[45]] (L.drop i) with
  |false =>
   simp only[Bool.not_false,cond_true,cond_false]
   have:∀ r:Option (XR×RS),(r.bind fun e=>some (e.1,e.2))=r:=fun r=>by cases r<;>rfl
   rw[this]
   exact (ratom_spec he hL hl (d:=d) (by omega)).good i hi
  |true =>
   simp only[Bool.not_true,cond_true,cond_false]
   have hi1:=tok_lt hL h
   refine rdeep_spec (pb:=fun s=>((rfs d).fact s.next).bind fun x=>some (unX (nxt e (L.drop i)) [45] x.1,x.2.shut)) he hL hl hi fun G hG h0 h1=>?_
   subst hG
   rw[next_x hL hi,List.tail_drop]
   refine SpecR.suf (SpecR.bind ((hl.2.2 d (by omega)).2.2.good (i+1) hi1) (fun x j _ hj=>?_) (fun x j o'' a hj ha=>?_)) (Nat.le_succ i)
   ·simp only
    rw[shut_x he hL h0 h1]
    exact SpecR.ret hj _
   ·exact BadR.ret hj _
 badd:=fun i o' a hi ha=>by
  obtain⟨d,rfl⟩:∃ d',d=d'+1:=⟨d-1,by omega⟩
  rw[rfs]
  unfold rfStep
  dsimp only
  rw[rat_x,Option.bind_some,rsees_b ha,Option.bind_some,Bool.not_false,cond_true]
  exact BadR.bind ((ratom_spec he hL hl (d:=d) (by omega)).badd i o' a hi ha) fun x j o1 hj=>BadR.ret hj _
theorem rexpr_l {d D':Nat}{l:Int}{g:List TR→Res XR}(hd:D'+2≤d)(hD:D+2≤D'+1)(hl0:0≤l)
  (h6:l≤5→∀ d,D'≤d→FSpecR L nl e o (fun s=>(rfs d).expr s 6) (factG e low)) (h5:l≤4→∀ d,D'≤d→FSpecR L nl e o (fun s=>(rfs d).expr s 5) (mulG e low)) (h4:l≤3→∀ d,D'≤d→FSpecR L nl e o (fun s=>(rfs d).expr s 4) (sumG e low))
  (h2:l≤1→∀ d,D'≤d→FSpecR L nl e o (fun s=>(rfs d).expr s 2) (negG e low)) (h1:l≤0→∀ d,D'≤d→FSpecR L nl e o (fun s=>(rfs d).expr s 1) (andG e low))
  (hg1:∀ T,¬ (l≤2∧tokIs 1 [wNOT] T=true)→g T=(factG e low T).bind (restG e low l 6 5000 5000 5000 5000))
  (hg2:∀ T,l≤2→tokIs 1 [wNOT] T=true→g T=(deepG e low T fun G=>(G.neg T.tail).bind fun x R=>.ok (unX (nxt e T) wNOT x) R).bind (restG e low l 2 5000 5000 5000 5000)):FSpecR L nl e o (fun s=>(rfs d).expr s l) g:=by
 obtain⟨d,rfl⟩:∃ d',d=d'+1+1:=⟨d-2,by omega⟩
 have rest:∀ (i:Nat) (x:XR) (h:Int),i≤L.length→0≤h→SpecR L nl e o i (restG e low l h 5000 5000 5000 5000 x (L.drop i)) ((rfs (d+1)).rest (RX L nl e i o (-1)) x l h):=fun i x h hi hh=>by
  have hn:=hL.len
  exact rest_g he hL (fun g=>h6 g d (by omega)) (fun g=>h5 g d (by omega)) (fun g=>h4 g d (by omega)) (fun g=>h2 g d (by omega)) (fun g=>h1 g d (by omega)) hl0 (L.length+2) i 5000 5000 5000 5000 x h hi (by omega) (by omega) (by omega) (by omega) (by omega) hh
 have rest_b:∀ (i:Nat) (x:XR) (h o' a:Int),i≤L.length→0≤a→BadR L nl e a ((rfs (d+1)).rest (RX L nl e i o' a) x l h):=fun i x h o' a hi ha=>by
  show BadR L nl e a (reLP (rfs d).expr (L.length+2) (RX L nl e i o' a) x l h)
  rw[reLP,live_bad ha]
  exact BadR.ret hi x
 have hf:=rfact_spec he hL hl (d:=d+1) (by omega)
 have body:∀ i,i≤L.length→SpecR L nl e o i ((factG e low (L.drop i)).bind (restG e low l 6 5000 5000 5000 5000)) (((rfs (d+1)).fact (RX L nl e i o (-1))).bind fun x=>((rfs (d+1)).rest x.2 x.1 l 6).bind fun x=>some (x.1,x.2)):=fun i hi=>by
  have bind_eta:∀ r:Option (XR×RS),(r.bind fun e=>some (e.1,e.2))=r:=fun r=>by cases r<;>rfl
  refine SpecR.bind (hf.good i hi) (fun x j _ hj=>?_) (fun x j o'' a hj ha=>?_)
  ·rw[bind_eta]
   exact rest j x 6 hj (by omega)
  ·rw[bind_eta]
   exact rest_b j x 6 o'' a hj ha
 have body_b:∀ i o' a,i≤L.length→0≤a→BadR L nl e a (((rfs (d+1)).fact (RX L nl e i o' a)).bind fun x=>((rfs (d+1)).rest x.2 x.1 l 6).bind fun x=>some (x.1,x.2)):=fun i o' a hi ha=>by
  refine BadR.bind (hf.badd i o' a hi ha) fun x j o1 hj=>?_
  exact BadR.bind (rest_b j x 6 o1 a hj ha) fun y j1 o2 hj1=>BadR.ret hj1 _
 refine⟨fun i hi=>?_,fun i o' a hi ha=>?_⟩
 ·rw[rfs]
  unfold rfStep
  dsimp only
  rw[rat_x,Option.bind_some]
  by_cases g2:l≤2
  ·rw[decide_eq_true g2,cond_true,rsees_w hL,Option.bind_some,show wK [78,79,84]=1 from rfl]
   cases h:tokIs 1 [wNOT] (L.drop i) with
   |false =>
    rw[hg1 _ (by rw[h];rintro ⟨-,q⟩;cases q)]
    exact body i hi
   |true =>
    rw[hg2 _ g2 h]
    have hi1:=tok_lt hL h
    simp only[cond_true]
    have key:=rdeep_spec (z:=XR.zero) (pb:=fun s=>((rfs (d+1)).expr s.next 2).bind fun x=>some (unX (nxt e (L.drop i)) wNOT x.1,x.2.shut)) (gb:=fun G=>(G.neg (L.drop i).tail).bind fun x R=>.ok (unX (nxt e (L.drop i)) wNOT x) R) he hL hl hi (fun G hG q0 q1=>?_)
    ·have key2:SpecR L nl e o i ((deepG e low (L.drop i) fun G=>(G.neg (L.drop i).tail).bind fun x R=>.ok (unX (nxt e (L.drop i)) wNOT x) R).bind (restG e low l 2 5000 5000 5000 5000))
       ((rdeepP (RX L nl e i o (-1))).bind fun d_1=>bif !d_1.1 then some (XR.zero,d_1.2) else ((rfs (d+1)).expr d_1.2.next 2).bind fun e_1=>((rfs (d+1)).rest e_1.2.shut (unX (nxt e (L.drop i)) [78,79,84] e_1.1) l 2).bind fun e=>some (e.1,e.2)):=by
      cases low with
      |none =>
       obtain rfl:o=20:=hl
       rw[rdeep_no he hL]
       exact⟨(drop_tok hL i).nxt0 he,_,i,20,hi,rfl⟩
      |some G =>
       obtain⟨h0,h1,hl2⟩:=hl
       rw[rdeep_ok he hL h0 h1] at key ⊢
       simp only[Option.bind_some,Bool.not_true,cond_false] at key ⊢
       have e1:∀ r:Option (XR×RS),(r.bind fun e_1=>((rfs (d+1)).rest e_1.2.shut (unX (nxt e (L.drop i)) [78,79,84] e_1.1) l 2).bind fun e=>some (e.1,e.2))=(r.bind fun x=>some (unX (nxt e (L.drop i)) wNOT x.1,x.2.shut)).bind fun x=>(rfs (d+1)).rest x.2 x.1 l 2:=fun r=>by
        cases r with
        |none=>rfl
        |some x =>
         simp only[Option.bind_some]
         cases (rfs (d+1)).rest x.2.shut (unX (nxt e (L.drop i)) [78,79,84] x.1) l 2<;>rfl
       rw[e1]
       exact SpecR.bind key (fun x j _ hj=>rest j x 2 hj (by omega)) (fun x j o'' a hj ha=>rest_b j x 2 o'' a hj ha)
     exact key2
    ·subst hG
     rw[next_x hL hi,List.tail_drop]
     refine SpecR.suf (SpecR.bind ((hl.2.2 (d+1) (by omega)).2.1.good (i+1) hi1) (fun x j _ hj=>?_) (fun x j o'' a hj ha=>?_)) (Nat.le_succ i)
     ·simp only
      rw[shut_x he hL q0 q1]
      exact SpecR.ret hj _
     ·exact BadR.ret hj _
  ·rw[decide_eq_false g2,cond_false,hg1 _ (fun q=>g2 q.1)]
   exact body i hi
 ·rw[rfs]
  unfold rfStep
  dsimp only
  rw[rat_x,Option.bind_some,rsees_b ha,Option.bind_some,cond_false]
  cases decide (l≤2)<;>exact body_b i o' a hi ha
end
end
section
variable {e:Int} {low:Option GF}
abbrev lp3 (e:Int)(low:Option GF):=loopG e 3 (factG e low) 5000
abbrev lp2 (e:Int)(low:Option GF):=loopG e 2 (mulG e low) 5000
abbrev lp1 (e:Int)(low:Option GF):=loopG e 1 (negG e low) 5000
abbrev lp0 (e:Int)(low:Option GF):=loopG e 0 (andG e low) 5000
theorem okk_eta {α:Type}:(fun (x:α) (T:List TR)=>Res.ok x T)=Res.ok:=rfl
theorem g_fact (T:List TR):factG e low T=(factG e low T).bind (restG e low 6 6 5000 5000 5000 5000):=by
 show _=(factG e low T).bind fun x T=>Res.ok x T
 rw[okk_eta,Res.bind_okk]
theorem g_mul (T:List TR):mulG e low T=(factG e low T).bind (restG e low 5 6 5000 5000 5000 5000):=by
 show (factG e low T).bind (lp3 e low)=(factG e low T).bind fun x T=>(lp3 e low x T).bind fun x T=>Res.ok x T
 simp only[okk_eta,Res.bind_okk]
theorem g_sum (T:List TR):sumG e low T=(factG e low T).bind (restG e low 4 6 5000 5000 5000 5000):=by
 show ((factG e low T).bind (lp3 e low)).bind (lp2 e low)=(factG e low T).bind fun x T=>(lp3 e low x T).bind fun x T=>(lp2 e low x T).bind fun x T=>Res.ok x T
 simp only[okk_eta,Res.bind_okk,Res.bind_assoc]
theorem g_cmp (T:List TR):compG e low T=(factG e low T).bind (restG e low 2 6 5000 5000 5000 5000):=by
 show (((factG e low T).bind (lp3 e low)).bind (lp2 e low)).bind (cmpG e low)=(factG e low T).bind fun x T=>(lp3 e low x T).bind fun x T=>(lp2 e low x T).bind fun x T=>(cmpG e low x T).bind fun x T=>Res.ok x T
 simp only[okk_eta,Res.bind_okk,Res.bind_assoc]
abbrev notG (e:Int)(low:Option GF)(T:List TR):Res XR:=deepG e low T fun G=>(G.neg T.tail).bind fun x R=>.ok (unX (nxt e T) wNOT x) R
theorem neg_f {T:List TR}(h:¬ tokIs 1 [wNOT] T=true):negG e low T=compG e low T:=by
 unfold negG
 rw[Bool.eq_false_iff.2 h]
 rfl
theorem neg_t {T:List TR}(h:tokIs 1 [wNOT] T=true):negG e low T=notG e low T:=by
 unfold negG
 rw[h]
 rfl
theorem g_neg1 (T:List TR)(h:¬ ((2:Int)≤2∧tokIs 1 [wNOT] T=true)):negG e low T=(factG e low T).bind (restG e low 2 6 5000 5000 5000 5000):=by
 rw[neg_f fun g=>h ⟨Int.le_refl _,g⟩,g_cmp]
theorem g_neg2 (T:List TR)(h:tokIs 1 [wNOT] T=true):negG e low T=(notG e low T).bind (restG e low 2 2 5000 5000 5000 5000):=by
 rw[neg_t h]
 show _=(notG e low T).bind fun x T=>Res.ok x T
 rw[okk_eta,Res.bind_okk]
theorem g_and1 (T:List TR)(h:¬ ((1:Int)≤2∧tokIs 1 [wNOT] T=true)):andG e low T=(factG e low T).bind (restG e low 1 6 5000 5000 5000 5000):=by
 show (negG e low T).bind (lp1 e low)=_
 rw[neg_f fun g=>h ⟨by omega,g⟩]
 show ((((factG e low T).bind (lp3 e low)).bind (lp2 e low)).bind (cmpG e low)).bind (lp1 e low)=(factG e low T).bind fun x T=>(lp3 e low x T).bind fun x T=>(lp2 e low x T).bind fun x T=>(cmpG e low x T).bind fun x T=>(lp1 e low x T).bind fun x T=>Res.ok x T
 simp only[okk_eta,Res.bind_okk,Res.bind_assoc]
theorem g_and2 (T:List TR)(h:tokIs 1 [wNOT] T=true):andG e low T=(notG e low T).bind (restG e low 1 2 5000 5000 5000 5000):=by
 show (negG e low T).bind (lp1 e low)=_
 rw[neg_t h]
 show (notG e low T).bind (lp1 e low)=(notG e low T).bind fun x T=>(lp1 e low x T).bind fun x T=>Res.ok x T
 simp only[okk_eta,Res.bind_okk]
theorem g_or1 (T:List TR)(h:¬ ((0:Int)≤2∧tokIs 1 [wNOT] T=true)):exprG e low T=(factG e low T).bind (restG e low 0 6 5000 5000 5000 5000):=by
 show ((negG e low T).bind (lp1 e low)).bind (lp0 e low)=_
 rw[neg_f fun g=>h ⟨by omega,g⟩]
 show (((((factG e low T).bind (lp3 e low)).bind (lp2 e low)).bind (cmpG e low)).bind (lp1 e low)).bind (lp0 e low)=(factG e low T).bind fun x T=>(lp3 e low x T).bind fun x T=>(lp2 e low x T).bind fun x T=>(cmpG e low x T).bind fun x T=>(lp1 e low x T).bind fun x T=>lp0 e low x T
 simp only[Res.bind_assoc]
theorem g_or2 (T:List TR)(h:tokIs 1 [wNOT] T=true):exprG e low T=(notG e low T).bind (restG e low 0 2 5000 5000 5000 5000):=by
 show ((negG e low T).bind (lp1 e low)).bind (lp0 e low)=_
 rw[neg_t h]
 show ((notG e low T).bind (lp1 e low)).bind (lp0 e low)=(notG e low T).bind fun x T=>(lp1 e low x T).bind fun x T=>lp0 e low x T
 simp only[Res.bind_assoc]
end
section
variable {L:List TR} {nl:Option Bool} {e:Int} (he:0≤e) (hL:TOKs L) {o:Int} {low:Option GF} {D:Nat} (hl:LowR L nl e o low D)
include he hL hl
theorem rx6 {d:Nat}(hd:D+3≤d):FSpecR L nl e o (fun s=>(rfs d).expr s 6) (factG e low) :=
 rexpr_l (D':=D+1) he hL hl hd (by omega) (by omega) (fun h=>absurd h (by decide)) (fun h=>absurd h (by decide)) (fun h=>absurd h (by decide)) (fun h=>absurd h (by decide)) (fun h=>absurd h (by decide)) (fun T _=>g_fact T) (fun T h=>absurd h (by decide))
theorem rx5 {d:Nat}(hd:D+5≤d):FSpecR L nl e o (fun s=>(rfs d).expr s 5) (mulG e low) :=
 rexpr_l (D':=D+3) he hL hl hd (by omega) (by omega) (fun _ d h=>rx6 he hL hl h) (fun h=>absurd h (by decide)) (fun h=>absurd h (by decide)) (fun h=>absurd h (by decide)) (fun h=>absurd h (by decide)) (fun T _=>g_mul T) (fun T h=>absurd h (by decide))
theorem rx4 {d:Nat}(hd:D+7≤d):FSpecR L nl e o (fun s=>(rfs d).expr s 4) (sumG e low) :=
 rexpr_l (D':=D+5) he hL hl hd (by omega) (by omega) (fun _ d h=>rx6 he hL hl (by omega)) (fun _ d h=>rx5 he hL hl h) (fun h=>absurd h (by decide)) (fun h=>absurd h (by decide)) (fun h=>absurd h (by decide)) (fun T _=>g_sum T) (fun T h=>absurd h (by decide))
theorem rx2 {d:Nat}(hd:D+9≤d):FSpecR L nl e o (fun s=>(rfs d).expr s 2) (negG e low) :=
 rexpr_l (D':=D+7) he hL hl hd (by omega) (by omega) (fun _ d h=>rx6 he hL hl (by omega)) (fun _ d h=>rx5 he hL hl (by omega)) (fun _ d h=>rx4 he hL hl h) (fun h=>absurd h (by decide)) (fun h=>absurd h (by decide)) (fun T h=>g_neg1 T h) (fun T _ h=>g_neg2 T h)
theorem rx1 {d:Nat}(hd:D+11≤d):FSpecR L nl e o (fun s=>(rfs d).expr s 1) (andG e low) :=
 rexpr_l (D':=D+9) he hL hl hd (by omega) (by omega) (fun _ d h=>rx6 he hL hl (by omega)) (fun _ d h=>rx5 he hL hl (by omega)) (fun _ d h=>rx4 he hL hl (by omega)) (fun _ d h=>rx2 he hL hl h) (fun h=>absurd h (by decide)) (fun T h=>g_and1 T h) (fun T _ h=>g_and2 T h)
theorem rx0 {d:Nat}(hd:D+13≤d):FSpecR L nl e o (fun s=>(rfs d).expr s 0) (exprG e low) :=
 rexpr_l (D':=D+11) he hL hl hd (by omega) (by omega) (fun _ d h=>rx6 he hL hl (by omega)) (fun _ d h=>rx5 he hL hl (by omega)) (fun _ d h=>rx4 he hL hl (by omega)) (fun _ d h=>rx2 he hL hl (by omega)) (fun _ d h=>rx1 he hL hl h) (fun T h=>g_or1 T h) (fun T _ h=>g_or2 T h)
end
theorem lowr_ok {L:List TR}{nl:Option Bool}{e:Int}(he:0≤e)(hL:TOKs L):∀ k:Nat,k≤20→LowR L nl e (20-(k:Int)) (gfs e k) (13 * k)
 |0,_=>rfl
 |k+1,h=>by
  have ih:=lowr_ok (nl:=nl) he hL k (by omega)
  refine⟨by omega,by omega,fun d hd=>?_⟩
  rw[show (20:Int)-((k+1:Nat):Int)+1=20-(k:Int) by omega]
  exact⟨rx0 he hL ih (by omega),rx2 he hL ih (by omega),rfact_spec he hL ih (by omega)⟩
theorem rexpr {L:List TR}{nl:Option Bool}{e:Int}(he:0≤e)(hL:TOKs L){d:Nat}(hd:273≤d):FSpecR L nl e 0 (fun s=>(rfs d).expr s 0) (exprG e (gfs e 20)) :=
 rx0 he hL (lowr_ok he hL 20 (by omega)) (by omega)
section
variable {e:Int} {nl:Option Bool} {o:Int} {fF:List UInt8→Option (Option Bool × Nat × List PV)}
theorem bind_eta {α β:Type}{r:Option (α×β)}:(r.bind fun q=>some (q.1,q.2))=r:=by cases r<;>rfl
theorem open_g (h0:0≤o)(h1:o<20)(T:List TR):(PG e nl o T).open 1=PG e nl (o+1) T:=by
 unfold PS.open PG
 rw[wrapI_of (by simp only;omega) (by simp only;omega)]
theorem shut_g (h0:0≤o)(h1:o<20)(T:List TR):(PG e nl (o+1) T).shut 1=PG e nl o T:=by
 unfold PS.shut PG
 rw[show o+1-1=o by omega,wrapI_of (by omega) (by omega)]
theorem shut_b (h0:0≤o)(h1:o<20)(a:Int):(PB e (o+1) a).shut 1=PB e o a:=by
 unfold PS.shut PB
 rw[show o+1-1=o by omega,wrapI_of (by omega) (by omega)]
def LowP (fF:List UInt8→Option (Option Bool×Nat×List PV))(e o:Int)(low:Option GF)(D:Nat):Prop:=match low with
 |none=>20≤o
 |some G=>0≤o∧o<20∧∀ d,D≤d→FSpec e (o+1) (pfs fF d).expr G.expr∧FSpec e (o+1) (pfs fF d).neg G.neg∧FSpec e (o+1) (pfs fF d).fact G.fact
theorem deep_spec (he:0≤e){low:Option GF}{D:Nat}(hl:LowP fF e o low D){T:List TR}(hT:TOKs T){z:XR}{body:PS→(XR→PS→Option (XR×PS))→Option (XR×PS)}{gb:GF→Res XR}
  (hb:∀ G,low=some G→0≤o→o<20→SpecP e nl o T (gb G) (body (PG e nl (o+1) T) fun x s=>some (x,s.shut 1))) :
  SpecP e nl o T (deepG e low T gb) (deepK flP (PG e nl o T) body (fun s=>some (z,s)) fun x s=>some (x,s)):=by
 cases low with
 |none =>
  unfold deepK
  rw[cond_t (decide_eq_true (show (20:Int)≤(PG e nl o T).o from hl)),flP_g]
  exact⟨hT.nxt0 he,z,rfl⟩
 |some G =>
  obtain⟨h0,h1,-⟩:=hl
  unfold deepK
  rw[cond_f (decide_eq_false (show ¬ (20:Int)≤(PG e nl o T).o from by show ¬ (20:Int)≤o;omega)),open_g h0 h1]
  exact hb G rfl h0 h1
theorem within_spec (he:0≤e){low:Option GF}{D:Nat}(hl:LowP fF e o low D){T:List TR}(hT:TOKs T){z:XR}{body:PS→(XR→PS→Option (XR×PS))→Option (XR×PS)}{gb:GF→List TR→Res XR}{pb:PS→Option (XR×PS)}
  (hbody:∀ s kk,body s kk=(pb s).bind fun q=>kk q.1 q.2) (hb:∀ G,low=some G→0≤o→o<20→SpecP e nl (o+1) T.tail (gb G T.tail) (pb (PG e nl (o+1) T.tail))) :
  SpecP e nl o T (withinG e low T gb) (withinK signP flP takeP wantSignP (PG e nl o T) body (fun s=>some (z,s)) fun x s=>some (x,s)):=by
 unfold withinK withinG
 rw[signP_g (l:=[[40]]) rfl rfl,Option.bind_some]
 cases h:tokIs 3 [[40]] T with
 |false =>
  simp only[Bool.not_false,cond_true,cond_false,flP_g,Option.bind_some]
  exact⟨hT.nxt0 he,z,rfl⟩
 |true =>
  simp only[Bool.not_true,cond_true,cond_false]
  refine deep_spec he hl hT fun G hG h0 h1=>?_
  obtain⟨t,ht,-⟩:=takeP_t (e:=e) (nl:=nl) (o:=o+1) h
  rw[ht,Option.bind_some,hbody]
  refine SpecP.suf (SpecP.bind (hb G hG h0 h1) (fun x R hs=>?_) (fun x a ha=>?_)) (List.tail_suffix T)
  ·rw[map_bind]
   refine SpecP.bind (wantSign_g he [41] (hT.tail.suf hs)) (fun _ R1 h2=>?_) (fun _ a ha=>?_)
   ·dsimp only
    rw[shut_g h0 h1]
    exact SpecP.ret x
   ·dsimp only
    rw[shut_b h0 h1]
    exact BadP.ret x
  ·rw[map_bind,wantSign_b ha]
   show BadP e o a (some (x,(PB e (o+1) a).shut 1))
   rw[shut_b h0 h1]
   exact BadP.ret x
theorem lev_is (n:Nat)(T:List TR):isP (PG e nl o T) (levK n) (levW n).length (levW n)=some (tokIs (opK n) (opW n) T,PG e nl o T):=by
 match n with
 |0=>exact isP_g (l:=[[79,82]]) rfl rfl T
 |1=>exact isP_g (l:=[[65,78,68]]) rfl rfl T
 |2=>exact isP_g (l:=[[43],[45]]) rfl rfl T
 |k+3=>exact isP_g (l:=[[42],[47],[37]]) rfl rfl T
theorem loop_b {part:PS→Option (XR×PS)}{n:Nat}{a:Int}{x:XR}:∀ {m:Nat},0<m→BadP e o a (chLP part n m x (PB e o a))
 |m+1,_=>by
  rw[chLP,isP_b,Option.bind_some]
  exact BadP.ret x
theorem loop_g {part:PS→Option (XR×PS)}{gp:List TR→Res XR}{n:Nat}(hp:FSpec e o part gp):∀ (N m:Nat) (T:List TR) (x:XR),T.length≤N→T.length<m→TOKs T→SpecP e nl o T (loopG e n gp N x T) (chLP part n m x (PG e nl o T))
 |N,0,T,x,_,h,_=>absurd h (Nat.not_lt_zero _)
 |0,m+1,T,x,h,_,_=>by
  have:T=[]:=List.length_eq_zero_iff.1 (by omega)
  subst this
  rw[chLP,lev_is,Option.bind_some]
  exact SpecP.ret x
 |N+1,m+1,T,x,h1,h2,hT=>by
  rw[chLP,lev_is,Option.bind_some,loopG]
  cases h:tokIs (opK n) (opW n) T with
  |false=>exact SpecP.ret x
  |true =>
   obtain⟨t,ht,ha,hw⟩:=takeP_t (e:=e) (nl:=nl) (o:=o) h
   simp only[cond_true]
   rw[ht,Option.bind_some]
   obtain⟨u,R0,rfl⟩:=tok_cons h
   simp only[List.tail_cons,List.length_cons] at h1 h2 hT ⊢
   refine SpecP.suf (SpecP.bind (hp.good nl R0 hT.tail) (fun y R hs=>?_) (fun y a ha=>?_)) (List.suffix_cons u R0)
   ·rw[ha,hw]
    exact loop_g hp N m R _ (by have:=hs.length_le;omega) (by have:=hs.length_le;omega) (hT.tail.suf hs)
   ·exact loop_b (by omega)
theorem chain_spec {P:PF}{gp:List TR→Res XR}{n:Nat}(hn:n<4)(hp:FSpec e o (chainQ P n) gp):FSpec e o (fun s=>chainP P s (n:Int)) (levG e n gp) where
 good:=fun nl T hT=>by
  show SpecP e nl o T _ (chainP P (PG e nl o T) (n:Int))
  unfold chainP
  rw[if_pos (by omega),Int.toNat_natCast]
  exact SpecP.bind (hp.good nl T hT) (fun x R hs=>loop_g hp _ _ R x (hT.suf hs).len (by have:=hs.length_le;show R.length<T.length+2;omega) (hT.suf hs)) (fun x a ha=>loop_b (by omega))
 badd:=fun a ha=>by
  show BadP e o a (chainP P (PB e o a) (n:Int))
  unfold chainP
  rw[if_pos (by omega),Int.toNat_natCast]
  exact BadP.bind (hp.badd a ha) fun x=>loop_b (by omega)
variable (he:0≤e) (hAS:FieldsAs fF wAS) (hNU:FieldsAs fF wNULL) {low:Option GF} {D:Nat} (hl:LowP fF e o low D)
include he hAS hNU hl
theorem cast_spec {d:Nat}(hd:D≤d){T:List TR}(hT:TOKs T){a:Int}{ws:List (List UInt8)}(h:tokIs a ws T=true):SpecP e nl o T (castG e low T) ((pfStep fF (pfs fF d)).cast (PG e nl o T)):=by
 have _:=hNU
 obtain⟨t,ht,ha,hw⟩:=takeP_t (e:=e) (nl:=nl) (o:=o) h
 show SpecP e nl o T _ ((takeP (PG e nl o T)).bind _)
 rw[ht,Option.bind_some]
 refine SpecP.suf (within_spec (pb:=fun s=>((pfs fF d).expr s).bind fun x=>(wantP fF x.2 wAS).bind fun s=>(typedP s).bind fun y=>some (castX t.a y.1.1 y.1.2 x.1,y.2)) he hl hT.tail (fun s kk=>by simp only[Option.bind_assoc,Option.bind_some]) fun G hG h0 h1=>?_) (List.tail_suffix T)
 subst hG
 obtain⟨-,-,hl⟩:=hl
 refine SpecP.bind ((hl d hd).1.good nl _ hT.tail.tail) (fun x R hs=>?_) (fun x a ha=>?_)
 ·have hR:=hT.tail.tail.suf hs
  rw[map_bind]
  refine SpecP.bind (want_g he hAS hR) (fun _ R1 h1=>?_) (fun _ a ha=>?_)
  ·refine SpecP.bind ((typed_spec he).good nl R1 (hR.suf h1)) (fun y R2 h2=>?_) (fun y a ha=>?_)
   ·rw[ha]
    exact SpecP.ret _
   ·exact BadP.ret _
  ·exact BadP.bind ((typed_spec he).badd a ha) fun y=>BadP.ret _
 ·rw[map_bind,want_b hAS ha]
  simp only[Option.map_some,Option.bind_some]
  exact BadP.bind ((typed_spec he).badd a ha) fun y=>BadP.ret _
theorem call_spec {d:Nat}(hd:D≤d){T:List TR}(hT:TOKs T){a:Int}{ws:List (List UInt8)}(h:tokIs a ws T=true):SpecP e nl o T (callG e low T) ((pfStep fF (pfs fF d)).call (PG e nl o T)):=by
 have _:=hNU
 have _:=hAS
 obtain⟨t,ht,ha,hw⟩:=takeP_t (e:=e) (nl:=nl) (o:=o) h
 show SpecP e nl o T _ ((takeP (PG e nl o T)).bind _)
 rw[ht,Option.bind_some]
 refine SpecP.suf (within_spec (pb:=fun s=>bif t.t==wCOUNT then (signP s 1 [.str [42]]).bind fun r=>(bif r.1 then (takeP r.2).bind fun q=>some (call0 t.a t.t,q.2) else ((pfs fF d).expr r.2).bind fun x=>some (callX t.a t.t x.1,x.2)) else ((pfs fF d).expr s).bind fun x=>some (callX t.a t.t x.1,x.2)) he hl hT.tail (fun s kk=>by simp only[cond_bindo,Option.bind_assoc,Option.bind_some]) fun G hG h0 h1=>?_) (List.tail_suffix T)
 subst hG
 obtain⟨-,-,hl⟩:=hl
 have hE:SpecP e nl (o+1) T.tail.tail ((G.expr T.tail.tail).bind fun x R=>.ok (callX (nxt e T) (hdW T) x) R) (((pfs fF d).expr (PG e nl (o+1) T.tail.tail)).bind fun x=>some (callX t.a t.t x.1,x.2)):=by
  refine SpecP.bind ((hl d hd).1.good nl _ hT.tail.tail) (fun x R hs=>?_) (fun x a ha=>BadP.ret _)
  rw[ha,hw]
  exact SpecP.ret _
 rw[signP_g (l:=[[42]]) rfl rfl,Option.bind_some,hw]
 rw[hw] at hE
 cases hdW T==wCOUNT with
 |false=>exact hE
 |true =>
  simp only[cond_true]
  cases h5:tokIs 3 [[42]] T.tail.tail with
  |false=>exact hE
  |true =>
   obtain⟨u,hu,-⟩:=takeP_t (e:=e) (nl:=nl) (o:=o+1) h5
   simp only[cond_true]
   rw[hu,Option.bind_some,ha]
   exact⟨List.tail_suffix _,rfl⟩
theorem atom_spec {d:Nat}(hd:D+2≤d):FSpec e o (pfs fF d).atom (atomG e low) where
 good := fun nl T hT=>by
  obtain⟨d,rfl⟩:∃ d',d=d'+1+1:=⟨d-2,by omega⟩
  show SpecP e nl o T _ ((atP (PG e nl o T)).bind _)
  rw[atP_g,Option.bind_some,signP_g (l:=[[40]]) rfl rfl,Option.bind_some]
  unfold atomG
  cases h1:tokIs 3 [[40]] T with
  |true =>
   simp only[cond_true]
   refine within_spec (pb:=(pfs fF (d+1)).expr) he hl hT (fun s kk=>rfl) fun G hG h0 h1=>?_
   subst hG
   exact (hl.2.2 (d+1) (by omega)).1.good nl _ hT.tail
  |false =>
   simp only[cond_false]
   rw[keyP_g,Option.bind_some]
   cases h2:tokIs 1 [wCAST] T with
   |true =>
    simp only[cond_true]
    have:=cast_spec (nl:=nl) he hAS hNU hl (d:=d) (by omega) hT h2
    show SpecP e nl o T _ (((pfStep fF (pfs fF d)).cast (PG e nl o T)).bind fun q=>some (q.1,q.2))
    rw[bind_eta]
    exact this
   |false =>
    simp only[cond_false]
    rw[isP_g (l:=wsCall) rfl rfl,Option.bind_some]
    cases h3:tokIs 1 wsCall T with
    |true =>
     simp only[cond_true]
     have:=call_spec (nl:=nl) he hAS hNU hl (d:=d) (by omega) hT h3
     show SpecP e nl o T _ (((pfStep fF (pfs fF d)).call (PG e nl o T)).bind fun q=>some (q.1,q.2))
     rw[bind_eta]
     exact this
    |false =>
     simp only[cond_false]
     rw[literal_g,Option.bind_some]
     cases h4:litG T with
     |some v =>
      simp only[(litG_ok h4).1,cond_true]
      exact⟨List.tail_suffix T,rfl⟩
     |none =>
      simp only[cond_false]
      refine SpecP.bind ((name_spec he).good nl T hT) (fun n R hs=>?_) (fun n a ha=>?_)
      ·have hR:=hT.suf hs
       rw[signP_g (l:=[[46]]) rfl rfl,Option.bind_some]
       cases h5:tokIs 3 [[46]] R with
       |false=>exact SpecP.ret _
       |true =>
        obtain⟨u,hu,-⟩:=takeP_t (e:=e) (nl:=nl) (o:=o) h5
        simp only[cond_true]
        rw[hu,Option.bind_some]
        exact SpecP.suf (SpecP.bind ((name_spec he).good nl R.tail hR.tail) (fun m R h=>SpecP.ret _) (fun m a ha=>BadP.ret _)) (List.tail_suffix R)
      ·rw[signP_b]
       exact BadP.ret _
 badd:=fun a ha=>by
  obtain⟨d,rfl⟩:∃ d',d=d'+1:=⟨d-1,by omega⟩
  rw[pfs]
  unfold pfStep
  dsimp only
  rw[atP_b,Option.bind_some,signP_b,Option.bind_some,cond_false,keyP_b,Option.bind_some,cond_false,isP_b,Option.bind_some,cond_false,literal_b,Option.bind_some,cond_false]
  exact BadP.bind ((name_spec he).badd a ha) fun n=>by rw[signP_b];exact BadP.ret _
theorem fact_spec {d:Nat}(hd:D+3≤d):FSpec e o (pfs fF d).fact (factG e low) where
 good:=fun nl T hT=>by
  obtain⟨d,rfl⟩:∃ d',d=d'+1:=⟨d-1,by omega⟩
  show SpecP e nl o T _ ((signP (PG e nl o T) 1 [.str [45]]).bind _)
  rw[signP_g (l:=[[45]]) rfl rfl,Option.bind_some]
  unfold factG
  cases h:tokIs 3 [[45]] T with
  |false =>
   simp only[Bool.not_false,cond_true,cond_false]
   have:=(atom_spec he hAS hNU hl (d:=d) (by omega)).good nl T hT
   rw[bind_eta]
   exact this
  |true =>
   simp only[Bool.not_true,cond_true,cond_false]
   refine deep_spec he hl hT fun G hG h0 h1=>?_
   subst hG
   obtain⟨t,ht,ha,-⟩:=takeP_t (e:=e) (nl:=nl) (o:=o+1) h
   rw[ht,Option.bind_some]
   refine SpecP.suf (SpecP.bind ((hl.2.2 d (by omega)).2.2.good nl _ hT.tail) (fun x R hs=>?_) (fun x a ha=>?_)) (List.tail_suffix T)
   ·dsimp only
    rw[shut_g h0 h1,ha]
    exact SpecP.ret _
   ·dsimp only
    rw[shut_b h0 h1]
    exact BadP.ret _
 badd:=fun a ha=>by
  obtain⟨d,rfl⟩:∃ d',d=d'+1:=⟨d-1,by omega⟩
  rw[pfs]
  unfold pfStep
  dsimp only
  rw[signP_b,Option.bind_some]
  exact BadP.bind ((atom_spec he hAS hNU hl (d:=d) (by omega)).badd a ha) fun x=>BadP.ret x
theorem mul_spec {d:Nat}(hd:D+4≤d):FSpec e o (fun s=>(pfs fF d).chain s 3) (mulG e low):=by
 obtain⟨d,rfl⟩:∃ d',d=d'+1:=⟨d-1,by omega⟩
 exact chain_spec (n:=3) (by omega) (fact_spec he hAS hNU hl (d:=d) (by omega))
theorem add_spec {d:Nat}(hd:D+5≤d):FSpec e o (fun s=>(pfs fF d).chain s 2) (sumG e low):=by
 obtain⟨d,rfl⟩:∃ d',d=d'+1:=⟨d-1,by omega⟩
 exact chain_spec (n:=2) (by omega) (mul_spec he hAS hNU hl (d:=d) (by omega))
theorem sum_spec {d:Nat}(hd:D+6≤d):FSpec e o (pfs fF d).sum (sumG e low):=by
 obtain⟨d,rfl⟩:∃ d',d=d'+1:=⟨d-1,by omega⟩
 have:=add_spec he hAS hNU hl (d:=d) (by omega)
 have hf:(pfs fF (d+1)).sum=fun s=>(pfs fF d).chain s 2:=by
  funext s
  show (((pfs fF d).chain s 2).bind fun x=>some (x.1,x.2))=_
  rw[bind_eta]
 rw[hf]
 exact this
theorem cmp_spec {d:Nat}(hd:D+7≤d):FSpec e o (pfs fF d).comp (compG e low) where
 good := fun nl T hT=>by
  obtain⟨d,rfl⟩:∃ d',d=d'+1:=⟨d-1,by omega⟩
  have hs:=sum_spec he hAS hNU hl (d:=d) (by omega)
  show SpecP e nl o T _ (((pfs fF d).sum (PG e nl o T)).bind _)
  refine SpecP.bind (hs.good nl T hT) (fun x R h=>?_) (fun x a ha=>?_)
  ·have hR:=hT.suf h
   rw[signP_g (l:=wsCmp) rfl rfl,Option.bind_some]
   unfold cmpG
   cases h1:tokIs 3 wsCmp R with
   |true =>
    obtain⟨t,ht,ha,hw⟩:=takeP_t (e:=e) (nl:=nl) (o:=o) h1
    simp only[cond_true]
    rw[ht,Option.bind_some]
    refine SpecP.suf (SpecP.bind (hs.good nl R.tail hR.tail) (fun y R1 h=>?_) (fun y a ha=>BadP.ret _)) (List.tail_suffix R)
    rw[ha,hw]
    exact SpecP.ret _
   |false =>
    simp only[cond_false]
    rw[keyP_g,Option.bind_some]
    cases h2:tokIs 1 [wIS] R with
    |false=>exact SpecP.ret x
    |true =>
     obtain⟨t,ht,ha,hw⟩:=takeP_t (e:=e) (nl:=nl) (o:=o) h2
     simp only[Bool.not_true,cond_false,cond_true]
     rw[ht,Option.bind_some,skipP_g,Option.bind_some,map_bind]
     have hS:(bif tokIs 1 [wNOT] R.tail then R.tail.tail else R.tail) <:+ R:=by
      cases tokIs 1 [wNOT] R.tail with
      |false=>exact List.tail_suffix R
      |true=>exact (List.tail_suffix R.tail).trans (List.tail_suffix R)
     refine SpecP.suf (SpecP.bind (want_g he hNU (hR.suf hS)) (fun _ R1 h=>?_) (fun _ a ha=>BadP.ret _)) hS
     rw[ha]
     exact SpecP.ret _
  ·rw[signP_b,Option.bind_some,cond_false,keyP_b]
   exact BadP.ret x
 badd:=fun a ha=>by
  obtain⟨d,rfl⟩:∃ d',d=d'+1:=⟨d-1,by omega⟩
  show BadP (α:=XR) e o a (((pfs fF d).sum (PB e o a)).bind _)
  exact BadP.bind ((sum_spec he hAS hNU hl (d:=d) (by omega)).badd a ha) fun x=>by rw[signP_b,Option.bind_some,cond_false,keyP_b];exact BadP.ret x
theorem neg_spec {d:Nat}(hd:D+8≤d):FSpec e o (pfs fF d).neg (negG e low) where
 good:=fun nl T hT=>by
  obtain⟨d,rfl⟩:∃ d',d=d'+1:=⟨d-1,by omega⟩
  show SpecP e nl o T _ ((keyP (PG e nl o T) wNOT).bind _)
  rw[keyP_g,Option.bind_some]
  unfold negG
  cases h:tokIs 1 [wNOT] T with
  |false =>
   simp only[Bool.not_false,cond_true,cond_false]
   have:=(cmp_spec he hAS hNU hl (d:=d) (by omega)).good nl T hT
   rw[bind_eta]
   exact this
  |true =>
   simp only[Bool.not_true,cond_true,cond_false]
   refine deep_spec he hl hT fun G hG h0 h1=>?_
   subst hG
   obtain⟨t,ht,ha,-⟩:=takeP_t (e:=e) (nl:=nl) (o:=o+1) h
   rw[ht,Option.bind_some]
   refine SpecP.suf (SpecP.bind ((hl.2.2 d (by omega)).2.1.good nl _ hT.tail) (fun x R hs=>?_) (fun x a ha=>?_)) (List.tail_suffix T)
   ·dsimp only
    rw[shut_g h0 h1,ha]
    exact SpecP.ret _
   ·dsimp only
    rw[shut_b h0 h1]
    exact BadP.ret _
 badd:=fun a ha=>by
  obtain⟨d,rfl⟩:∃ d',d=d'+1:=⟨d-1,by omega⟩
  rw[pfs]
  unfold pfStep
  dsimp only
  rw[keyP_b,Option.bind_some]
  exact BadP.bind ((cmp_spec he hAS hNU hl (d:=d) (by omega)).badd a ha) fun x=>BadP.ret x
theorem and_spec {d:Nat}(hd:D+9≤d):FSpec e o (fun s=>(pfs fF d).chain s 1) (andG e low):=by
 obtain⟨d,rfl⟩:∃ d',d=d'+1:=⟨d-1,by omega⟩
 exact chain_spec (n:=1) (by omega) (neg_spec he hAS hNU hl (d:=d) (by omega))
theorem or_spec {d:Nat}(hd:D+10≤d):FSpec e o (fun s=>(pfs fF d).chain s 0) (exprG e low):=by
 obtain⟨d,rfl⟩:∃ d',d=d'+1:=⟨d-1,by omega⟩
 exact chain_spec (n:=0) (by omega) (and_spec he hAS hNU hl (d:=d) (by omega))
theorem expr_spec {d:Nat}(hd:D+11≤d):FSpec e o (pfs fF d).expr (exprG e low):=by
 obtain⟨d,rfl⟩:∃ d',d=d'+1:=⟨d-1,by omega⟩
 have:=or_spec he hAS hNU hl (d:=d) (by omega)
 have hf:(pfs fF (d+1)).expr=fun s=>(pfs fF d).chain s 0:=by
  funext s
  show (((pfs fF d).chain s 0).bind fun x=>some (x.1,x.2))=_
  rw[bind_eta]
 rw[hf]
 exact this
end
theorem low_ok {e:Int}{fF:List UInt8→Option (Option Bool×Nat×List PV)}(he:0≤e)(hAS:FieldsAs fF wAS)(hNU:FieldsAs fF wNULL):∀ k:Nat,k≤20→LowP fF e (20-(k:Int)) (gfs e k) (11 * k)
 |0,_=>Int.le_refl _
 |k+1,h=>by
  have ih:=low_ok he hAS hNU k (by omega)
  refine⟨by omega,by omega,fun d hd=>?_⟩
  rw[show (20:Int)-((k+1:Nat):Int)+1=20-(k:Int) by omega]
  exact⟨expr_spec he hAS hNU ih (by omega),neg_spec he hAS hNU ih (by omega),fact_spec he hAS hNU ih (by omega)⟩
theorem pexpr {e:Int}{fF:List UInt8→Option (Option Bool×Nat×List PV)}(he:0≤e)(hAS:FieldsAs fF wAS)(hNU:FieldsAs fF wNULL){d:Nat}(hd:231≤d):FSpec e 0 (pfs fF d).expr (exprG e (gfs e 20)) :=
 expr_spec he hAS hNU (low_ok he hAS hNU 20 (by omega)) (by omega)
section
variable {NG:Nat} {W:World→Prop}
def tRd (f:List UInt8→Option (XR×Int×Int)):PFn:=⟨fun xs k=>match xs with|[.str s,.clo p [],.clo q []]=>if p=22 then if q=23 then (f s).bind fun r=>k (.tuple [.agg r.1.cells,.int .i64 r.2.1,.int .i64 r.2.2]) else none else none|_=>none,false⟩
theorem tRd_nat (f:List UInt8→Option (XR×Int×Int)):(tRd f).nat:=by
 intro R xs k
 simp only[tRd]
 split
 ·simp only[onXR_bind,iteo_bind,Option.bind_assoc,Option.bind_some]
 ·rfl
theorem fok_tRd (hW:WOK NG W){l:List (FuncId×PFn)}(hl:AllOK NG W l){lh:List (FuncId×HFn)}(hh:AllH NG W lh){h:Hints}{f:FuncId}{fn:Func}(hf:Tryz.prog.funcs[f]? = some fn)(hb:fn.body.isSome=true)(hname:fn.name ≠ "runtime.NumGoroutine"){g:List UInt8→Option (XR×Int×Int)}(hr:∀ (s:List UInt8) r,g s=some r→∃ fu,prun (enH l lh []) h fu false fn [.str s,.clo 22 [],.clo 23 []]=some (.tuple [.agg r.1.cells,.int .i64 r.2.1,.int .i64 r.2.2])):FOK NG W f (tRd g) :=
 fokH hW hl hh allI_nil (h:=h) hf hb hname (tRd_nat g) fun xs r h=>by
  simp only[tRd] at h
  split at h
  ·obtain⟨hzp,h1⟩:=ite_inv h
   subst hzp
   obtain⟨hzq,h2⟩:=ite_inv h1
   subst hzq
   obtain⟨qq,hq,hend⟩:=Option.bind_eq_some_iff.1 h2
   obtain⟨fu,hr⟩:=hr _ _ hq
   exact⟨fu,hr.trans hend⟩
  ·cases h
def tPx (f:List UInt8→Option (XR×Int×Int)):PFn:=⟨fun xs k=>match xs with|[.str s]=>(f s).bind fun r=>k (.tuple [.agg r.1.cells,.int .i64 r.2.1,.int .i64 r.2.2])|_=>none,false⟩
theorem tPx_nat (f:List UInt8→Option (XR×Int×Int)):(tPx f).nat:=by
 intro R xs k
 simp only[tPx]
 split
 ·simp only[onXR_bind,iteo_bind,Option.bind_assoc,Option.bind_some]
 ·rfl
theorem fok_tPx (hW:WOK NG W){l:List (FuncId×PFn)}(hl:AllOK NG W l){lh:List (FuncId×HFn)}(hh:AllH NG W lh){h:Hints}{f:FuncId}{fn:Func}(hf:Tryz.prog.funcs[f]? = some fn)(hb:fn.body.isSome=true)(hname:fn.name ≠ "runtime.NumGoroutine"){g:List UInt8→Option (XR×Int×Int)}(hr:∀ (s:List UInt8) r,g s=some r→∃ fu,prun (enH l lh []) h fu false fn [.str s]=some (.tuple [.agg r.1.cells,.int .i64 r.2.1,.int .i64 r.2.2])):FOK NG W f (tPx g) :=
 fokH hW hl hh allI_nil (h:=h) hf hb hname (tPx_nat g) fun xs r h=>by
  simp only[tPx] at h
  split at h
  ·obtain⟨qq,hq,hend⟩:=Option.bind_eq_some_iff.1 h
   obtain⟨fu,hr⟩:=hr _ _ hq
   exact⟨fu,hr.trans hend⟩
  ·cases h
def tPy (f:List UInt8→Option (XR×Int×Bool)):PFn:=⟨fun xs k=>match xs with|[.str s]=>(f s).bind fun r=>k (.tuple [.agg r.1.cells,.int .i64 r.2.1,.bool r.2.2])|_=>none,false⟩
theorem tPy_nat (f:List UInt8→Option (XR×Int×Bool)):(tPy f).nat:=by
 intro R xs k
 simp only[tPy]
 split
 ·simp only[onXR_bind,iteo_bind,Option.bind_assoc,Option.bind_some]
 ·rfl
theorem fok_tPy (hW:WOK NG W){l:List (FuncId×PFn)}(hl:AllOK NG W l){lh:List (FuncId×HFn)}(hh:AllH NG W lh){h:Hints}{f:FuncId}{fn:Func}(hf:Tryz.prog.funcs[f]? = some fn)(hb:fn.body.isSome=true)(hname:fn.name ≠ "runtime.NumGoroutine"){g:List UInt8→Option (XR×Int×Bool)}(hr:∀ (s:List UInt8) r,g s=some r→∃ fu,prun (enH l lh []) h fu false fn [.str s]=some (.tuple [.agg r.1.cells,.int .i64 r.2.1,.bool r.2.2])):FOK NG W f (tPy g) :=
 fokH hW hl hh allI_nil (h:=h) hf hb hname (tPy_nat g) fun xs r h=>by
  simp only[tPy] at h
  split at h
  ·obtain⟨qq,hq,hend⟩:=Option.bind_eq_some_iff.1 h
   obtain⟨fu,hr⟩:=hr _ _ hq
   exact⟨fu,hr.trans hend⟩
  ·cases h
end
theorem txtV_sml (u:List UInt8):(txtV u).1.s.length≤u.length:=by
 unfold txtV
 cases rightB 4 0 0 u with
 |true=>exact Nat.le_refl _
 |false=>exact Nat.zero_le _
theorem bytV_sml (u:List UInt8):(bytV u).1.s.length≤u.length:=by
 unfold bytV
 cases h:unhV u with
 |none=>exact Nat.zero_le _
 |some b =>
  have:=(unh_hex _ u b (Nat.le_refl _) h).2.2
  dsimp only
  cases rightB 5 0 0 b with
  |true=>exact this
  |false=>exact Nat.zero_le _
theorem tokV_sml {s:List UInt8}{r:TR×Nat}(h:tokV s=some r):r.1.t.length≤s.length∧r.1.vs.length≤s.length:=by
 rcases s with _|⟨c,t⟩
 ·cases h
 rw[tokV] at h
 split at h
 ·obtain⟨q,hq,h⟩:=Option.bind_eq_some_iff.1 h
  obtain⟨-,h⟩:=bif_inv h
  injection h with h
  subst h
  obtain⟨h1,h2,-⟩:=qsc_ok _ t q.1 q.2.1 q.2.2 (Nat.le_refl _) hq
  have hl:=congrArg List.length h2
  have:=dbl_len h1
  have:=txtV_sml q.2.1
  simp only[List.length_append,List.length_cons] at hl ⊢
  exact⟨Nat.zero_le _,by show (txtV q.2.1).1.s.length≤_;omega⟩
 split at h
 ·obtain⟨q,hq,h⟩:=Option.bind_eq_some_iff.1 h
  obtain⟨-,h⟩:=bif_inv h
  injection h with h
  subst h
  obtain⟨h1,h2,-⟩:=qsc_ok _ t.tail q.1 q.2.1 q.2.2 (Nat.le_refl _) hq
  have hl:=congrArg List.length h2
  have:=dbl_len h1
  have:=bytV_sml q.2.1
  simp only[List.length_append,List.length_cons,List.length_tail] at hl ⊢
  exact⟨Nat.zero_le _,by show (bytV q.2.1).1.s.length≤_;omega⟩
 split at h
 ·obtain⟨p,hp,h⟩:=Option.map_eq_some_iff.1 h
  subst h
  show (nTok p).t.length≤_∧(nTok p).vs.length≤_
  unfold nTok
  cases decide (0<p.2)<;>exact⟨Nat.zero_le _,Nat.zero_le _⟩
 split at h
 ·obtain⟨-,h⟩:=bif_inv h
  injection h with h
  subst h
  exact⟨tw_len _,Nat.zero_le _⟩
 split at h
 ·obtain⟨-,h⟩:=bif_inv h
  injection h with h
  subst h
  exact⟨tw_len _,Nat.zero_le _⟩
 rcases t with _|⟨d,t⟩
 ·rw[signV] at h
  obtain⟨-,h⟩:=bif_inv h
  injection h with h
  subst h
  exact⟨Nat.le_refl _,Nat.zero_le _⟩
 ·rw[signV] at h
  cases hc:conA sg2 [c,d] with
  |true =>
   rw[hc] at h
   injection h with h
   subst h
   exact⟨by simp,Nat.zero_le _⟩
  |false =>
   rw[hc,cond_false] at h
   obtain⟨-,h⟩:=bif_inv h
   injection h with h
   subst h
   exact⟨by simp,Nat.zero_le _⟩
theorem lexV_sml:∀ (f i:Nat) (s:List UInt8) (l:List TR),lexV f i s=.inr l→∀ t∈l,t.t.length≤s.length∧t.vs.length≤s.length
 |0,i,s,l,h=>by
  rw[lexV] at h
  injection h with h
  subst h
  exact fun t h=>by cases h
 |f+1,i,[],l,h=>by
  rw[lexV] at h
  injection h with h
  subst h
  exact fun t h=>by cases h
 |f+1,i,c::t,l,h=>by
  rw[lexV] at h
  split at h
  ·intro x hx
   have:=lexV_sml f _ t l h x hx
   simp only[List.length_cons]
   omega
  ·split at h
   ·cases h
   ·rename_i r hr
    split at h
    ·cases h
    ·rename_i l' hl'
     injection h with h
     subst h
     obtain⟨g1,g2⟩:=tokV_sml hr
     intro x hx
     rcases List.mem_cons.1 hx with rfl|hx
     ·exact⟨g1,g2⟩
     ·have:=lexV_sml f _ _ l' hl' x hx
      rw[List.length_drop] at this
      omega
theorem lexS_ok {s:List UInt8}{l:List TR}(h:lexS s=.inr l):TOKs l∧Sml l∧l.length≤2000:=by
 unfold lexS at h
 cases hs:decide (2000<s.length) with
 |true=>rw[hs] at h;cases h
 |false =>
  rw[hs,cond_false] at h
  have hs:=of_decide_eq_false hs
  refine⟨lexV_toks (by omega) h,fun t ht=>?_,?_⟩
  ·have:=lexV_sml _ _ _ _ h t ht
   omega
  ·have:=(lexV_ok _ _ _ _ h).1
   omega
def rightX (x:XR):Bool:=match er 6000 x with
 |none=>false
 |some t=>rightG 60 t
def exprT (e:Int)(T:List TR):Int ⊕ XR:=match exprG e (gfs e 20) T with
 | .bad a=>.inl a
 | .ok x []=>bif rightX x then .inr x else .inl 0
 | .ok _ (t::_)=>.inl t.a
def exprV (s:List UInt8):Int ⊕ XR:=match lexS s with
 | .inl a=>.inl a
 | .inr T=>exprT s.length T
theorem expr_has {e:Int}{T:List TR}(h:Sml T)(hl:T.length≤2000){x:XR}{R:List TR}(hx:exprG e (gfs e 20) T=.ok x R):∃ t,er 6000 x=some t:=by
 obtain⟨h1,-,-⟩:=expr_p (e:=e) (low:=gfs e 20) (gfs_p e 20) h x R hx
 exact h1.le (by omega)
def rgX (x:XR):Option Bool:=rgD 6000 x 0
theorem rgX_eq {x:XR}{t:TX}(h:er 6000 x=some t):rgX x=some (rightX x):=by
 unfold rgX rgD rightX
 rw[h]
 rfl
theorem tXB_nat (f:XR→Option Bool):(tXB f).nat:=by
 intro R xs k
 simp only[tXB]
 split
 ·simp only[iteo_bind,Option.bind_assoc,Option.bind_some]
 ·rfl
theorem ok_rightX:FOK NGs Ws 23 (tXB rgX):=by
 have h1:FOK NGs Ws 23 (tXb rgX):=fok_tXb woks (allOK_cons (ok_right 6000) allOK_nil) allH_nil (h:=hh0) Tryz.func23 rfl (by decide) fun e r h=>⟨0,(rexp_raw (rgD 6000) 0 e).trans (by
  have h:rgD 6000 e 0=some r:=h
  rw[h]
  rfl)⟩
 refine fok_wk h1 (tXB_nat _) rfl fun xs r h=>?_
 simp only[tXB] at h
 split at h
 ·obtain⟨hz,h⟩:=ite_inv h
  subst hz
  exact h
 ·cases h
def pxRes (o:Int ⊕ XR):XR×Int×Int:=match o with
 | .inl a=>(XR.zero,a,170)
 | .inr x=>(x,0,0)
def pyRes (o:Int ⊕ XR):XR×Int×Bool:=match o with
 | .inl a=>(XR.zero,a,false)
 | .inr x=>(x,0,true)
def pxV (r:XR×Int×Int):PV:=.tuple [.agg r.1.cells,.int .i64 r.2.1,.int .i64 r.2.2]
def pyV (r:XR×Int×Bool):PV:=.tuple [.agg r.1.cells,.int .i64 r.2.1,.bool r.2.2]
theorem fldAS:FieldsAs fldF wAS:=⟨some false,by kernel_rfl⟩
theorem fldNU:FieldsAs fldF wNULL:=⟨some false,by kernel_rfl⟩
theorem rd_bad {x:XR}{e o a:Int}(ha:0≤a):rdTail rgX x (PB e o a)=some (pxV (pxRes (.inl a))):=by
 unfold rdTail
 rw[cond_f (show decide ((PB e o a).b<0)=false from decide_eq_false (show ¬ a<0 by omega))]
 unfold rdEnd
 rw[cond_t (show decide (0≤(PB e o a).b)=true from decide_eq_true (show 0≤a from ha))]
 rfl
theorem ok_read:FOK NGs Ws 21 (tRd fun s=>some (pxRes (exprV s))) :=
 fok_tRd woks (allOK_cons ok_lexD (allOK_cons ok_rightX allOK_nil)) (allH_cons (pok pdeps 231).expr (allH_cons (ok_fail pdeps) allH_nil)) (h:=hh0) Tryz.func21 rfl (by decide) fun s r h=>⟨0,(read_raw lexD (pfs fldF 231).expr flP rgX 0 s).trans (by
  injection h with h
  subst h
  unfold lexD exprV
  rw[Option.bind_some]
  cases hl:lexS s with
  |inl a=>rfl
  |inr T =>
   obtain⟨hT,hs,hn⟩:=lexS_ok hl
   rw[cond_f (by rfl)]
   have hg:=(pexpr (e:=(s.length:Int)) (by omega) fldAS fldNU (d:=231) (Nat.le_refl _)).good (some T.isEmpty) T hT
   have hst:(⟨(lxRes (.inr T)).nl,(lxRes (.inr T)).n,(lxRes (.inr T)).cs,(s.length:Int),0,-1⟩:PS)=PG (s.length:Int) (some T.isEmpty) 0 T:=rfl
   rw[hst]
   show _=some (pxV (pxRes (exprT (s.length:Int) T)))
   unfold exprT
   cases hx:exprG (s.length:Int) (gfs (s.length:Int) 20) T with
   |bad a =>
    rw[hx] at hg
    obtain⟨ha,y,hy⟩:=hg
    rw[hy,Option.bind_some,cond_f (by rfl)]
    exact rd_bad ha
   |ok x R =>
    rw[hx] at hg
    obtain⟨hR,hy⟩:=hg
    rw[hy,Option.bind_some]
    cases R with
    |nil =>
     obtain⟨t,ht⟩:=expr_has hs hn hx
     rw[cond_f (by rfl)]
     unfold rdTail
     rw[cond_t (by rfl),rgX_eq ht,Option.bind_some]
     dsimp only
     cases rightX x<;>rfl
    |cons t R =>
     rw[cond_t (by exact decide_eq_true (show (0:Int)<(((t::R).length:Nat):Int) by simp only[List.length_cons];omega)),flP_g,Option.bind_some]
     exact rd_bad (hT.at0 t (hR.subset (List.mem_cons_self ..))))⟩
theorem pE_raw (f:List UInt8→Option (XR×Int×Int))(fu:Nat)(s:List UInt8):prun (enH [(21,tRd f)] [] []) hh0 fu false Tryz.f9 [.str s]=(f s).bind fun r=>some (pxV r):=by kernel_rfl
def pxD (s:List UInt8):Option (XR×Int×Int):=some (pxRes (exprV s))
theorem ok_pE:FOK NGs Ws 9 (tPx pxD):=fok_tPx woks (allOK_cons ok_read allOK_nil) allH_nil (h:=hh0) Tryz.func9 rfl (by decide) fun s r h=>⟨0,(pE_raw _ 0 s).trans (by injection h with h;rw[h];rfl)⟩
theorem tXiB_nat (f:XR→Int→Option Bool):(tXiB f).nat:=by
 intro R xs k
 simp only[tXiB]
 split
 ·simp only[onXR_bind,Option.bind_assoc,Option.bind_some]
 ·rfl
theorem ok_rxi:FOK NGs Ws 20 (tXiB (rgD 6000)):=fok_wk (ok_rEx 6000) (tXiB_nat _) rfl fun xs r h=>h
theorem rxTail_bad {x:XR}{a:Int}(ha:0≤a):rxTail (rgD 6000) x a=some (pyV (pyRes (.inl a))):=by
 unfold rxTail
 rw[cond_f (decide_eq_false (by omega))]
 unfold rxEnd
 rw[cond_t (decide_eq_true ha)]
 rfl
def pyD (s:List UInt8):Option (XR×Int×Bool):=some (pyRes (exprV s))
theorem ok_rE:FOK NGs Ws 10 (tPy pyD) :=
 fok_tPy woks (allOK_cons ok_rlexD (allOK_cons ok_rxi allOK_nil)) (allH_cons (rok woks 273).expr (allH_cons (ok_rat woks) allH_nil)) (h:=hh0) Tryz.func10 rfl (by decide) fun s r h=>⟨0,(rexprT_raw rlexD (rfs 273).expr ratP (rgD 6000) 0 s).trans (by
  injection h with h
  subst h
  unfold rlexD exprV
  rw[Option.bind_some]
  cases hl:lexS s with
  |inl a=>rfl
  |inr T =>
   obtain⟨hT,hs,hn⟩:=lexS_ok hl
   rw[cond_f (by rfl)]
   have hg:=(rexpr (nl:=some T.isEmpty) (e:=(s.length:Int)) (by omega) hT (d:=273) (Nat.le_refl _)).good 0 (Nat.zero_le _)
   have hst:(⟨(rlxRes (.inr T)).nl,(rlxRes (.inr T)).n,(rlxRes (.inr T)).cs,0,(s.length:Int),0,-1⟩:RS)=RX T (some T.isEmpty) (s.length:Int) 0 0 (-1):=rfl
   rw[hst]
   rw[List.drop_zero] at hg
   show _=some (pyV (pyRes (exprT (s.length:Int) T)))
   unfold exprT
   cases hx:exprG (s.length:Int) (gfs (s.length:Int) 20) T with
   |bad a =>
    rw[hx] at hg
    obtain⟨ha,y,j,o,hj,hy⟩:=hg
    rw[hy,Option.bind_some,cond_f (by exact decide_eq_false (show ¬ a<0 by omega))]
    exact rxTail_bad ha
   |ok x R =>
    rw[hx] at hg
    obtain⟨j,-,hj,hR,hy⟩:=hg
    rw[hy,Option.bind_some,cond_t (by rfl)]
    cases R with
    |nil =>
     obtain⟨t,ht⟩:=expr_has hs hn hx
     have hjl:j=T.length:=by
      have:=congrArg List.length hR
      rw[List.length_drop,List.length_nil] at this
      omega
     rw[cond_f (by exact decide_eq_false (show ¬ (j:Int)<(T.length:Int) by omega))]
     unfold rxTail
     rw[cond_t (by rfl),show rgD 6000 x 0=some (rightX x) from rgX_eq ht,Option.bind_some]
     dsimp only
     cases rightX x<;>rfl
    |cons t R =>
     have hjl:j<T.length:=by
      have:=congrArg List.length hR
      rw[List.length_drop,List.length_cons] at this
      omega
     rw[cond_t (by exact decide_eq_true (show (j:Int)<(T.length:Int) by omega)),rat_x,Option.bind_some,← hR]
     exact rxTail_bad (hT.at0 t (by
      have:t∈T.drop j:=by rw[← hR];exact List.mem_cons_self ..
      exact List.mem_of_mem_drop this)))⟩
end Go.Proofs.YtkpfigikffphdaaGreatDoor
end
