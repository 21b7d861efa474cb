/-
  Lemmas, part K2: what the claim needs of the texts of wip/tpl.
-/
import Derived.Laws.RangeAny
import Derived.LoopTactic
import Derived.Lib.AppendZerosOnto
import Derived.Lib.SliceRun
import Derived.Shelf.RegionOpenPlain
import Derived.Test.YtkpfigikffphdaaGreatDoorCards
import Derived.Test.YtkpfigikffphdaaGreatDoorTie
import Derived.ProofKit
import Derived.OpenShut
import Derived.Deep.DeepHandedRow
import Derived.Lib.LaidU8
import Derived.Lib.LaidTab
import Derived.Stop.LaidErr
import Derived.ChangeMaps5
import Derived.Shelf.Vars
import Derived.Deep.DeepLaidRun
import Derived.Test.YtkpfigikffphdaaGreatDoorPbKA
set_option linter.unusedVariables false
set_option linter.unusedSimpArgs false
section
set_option maxRecDepth 100000
namespace Go.Proofs.YtkpfigikffphdaaGreatDoor
open Go.RowKit
def repD (s a b:List UInt8):Option (List UInt8):=bif decide (s.length≤100000)&&(decide (1≤a.length)&&decide (b.length≤100)) then some (Lib.replaceAll s a b) else none
theorem ok_repD:FOK NGs Ws 215 (tS3 repD):=fok_wk ok_rep (tS3_nat _) rfl fun xs r h=>by
 simp only[tS3] at h
 split at h
 ·obtain⟨q,hq,h⟩:=Option.bind_eq_some_iff.1 h
  unfold repD at hq
  obtain⟨hb,hq⟩:=bif_inv hq
  injection hq with hq
  subst hq
  simp only[p_rep,hb,cond_true]
  exact h
 ·cases h
def cntD (s t:List UInt8):Option Int:=match t with
 |[c]=>some (Lib.countByte s c)
 |_=>none
theorem ok_cntD:FOK NGs Ws 263 (tSSn cntD):=fok_wk ok_cnt (tSSn_nat _) rfl fun xs r h=>by
 simp only[tSSn] at h
 split at h
 ·rename_i s t
  obtain⟨q,hq,h⟩:=Option.bind_eq_some_iff.1 h
  unfold cntD at hq
  split at hq
  ·exact h
  ·exact absurd hq (by simp)
 ·cases h
def cutXD (s t:List UInt8):Option (List UInt8×Bool):=bif t==[88] then some (noX s,hasX s) else none
theorem ok_cutXD:FOK NGs Ws 164 (tSSB cutXD):=fok_wk ok_CutX (tSSB_nat _) rfl fun xs r h=>by
 simp only[tSSB] at h
 split at h
 ·obtain⟨q,hq,h⟩:=Option.bind_eq_some_iff.1 h
  unfold cutXD at hq
  obtain⟨hb,hq⟩:=bif_inv hq
  injection hq with hq
  subst hq
  rw[eq_of_beq hb]
  exact h
 ·cases h
def cutDD (s t:List UInt8):Option (List UInt8×Bool):=bif t==[46] then (bif decide (s.length≤100000) then some (noDot s,hasDot s) else none) else none
theorem ok_cutDD:FOK NGs Ws 272 (tSSB cutDD):=fok_wk ok_CutD (tSSB_nat _) rfl fun xs r h=>by
 simp only[tSSB] at h
 split at h
 ·obtain⟨q,hq,h⟩:=Option.bind_eq_some_iff.1 h
  unfold cutDD at hq
  obtain⟨hb,hq⟩:=bif_inv hq
  obtain⟨hb2,hq⟩:=bif_inv hq
  injection hq with hq
  subst hq
  rw[eq_of_beq hb]
  simp only[p_CutD,hb2,cond_true]
  exact h
 ·cases h
def parD (s:List UInt8):Option (Int×Int×Bool):=bif decide (s.length≤4000) then some ((parseP s).elim 0 (fun p=>p.1),(parseP s).elim 0 (fun p=>(p.2:Int)),(parseP s).isSome) else none
theorem ok_parD:FOK NGs Ws 220 (tD3 parD):=fok_wk (fok_s (fok_e ok_Parse)) (tD3_nat _) rfl fun xs r h=>by
 simp only[tD3] at h
 split at h
 ·obtain⟨q,hq,h⟩:=Option.bind_eq_some_iff.1 h
  unfold parD at hq
  obtain⟨hb,hq⟩:=bif_inv hq
  injection hq with hq
  subst hq
  simp only[p_Parse,hb,cond_true]
  exact h
 ·cases h
def prD (n m:Int):Option (List UInt8):=bif inI n then some (prV n m) else none
theorem ok_prD:FOK NGs Ws 83 (tDp prD):=fok_wk (fok_s (fok_d ok_Print)) (tDp_nat _) rfl fun xs r h=>by
 simp only[tDp] at h
 split at h
 ·obtain⟨q,hq,h⟩:=Option.bind_eq_some_iff.1 h
  unfold prD at hq
  obtain⟨hb,hq⟩:=bif_inv hq
  injection hq with hq
  subst hq
  simp only[p_Print,hb,cond_true]
  exact h
 ·cases h
def rtD (a n c:Int)(s:List UInt8):Option Bool:=bif decide (s.length≤1000000) then some (rightB a n c s) else none
theorem ok_rtD:FOK NGs Ws 231 (tvB rtD):=fok_wk (fok_s (fok_k ok_rightV)) (tvB_nat _) rfl fun xs r h=>by
 simp only[tvB] at h
 split at h
 ·obtain⟨q,hq,h⟩:=Option.bind_eq_some_iff.1 h
  unfold rtD at hq
  obtain⟨hb,hq⟩:=bif_inv hq
  injection hq with hq
  subst hq
  simp only[p_rightV,hb,cond_true]
  exact h
 ·cases h
theorem quotO_bind {α β:Type}{fr:List UInt8→List UInt8→List UInt8→Option (List UInt8)}{fn:List UInt8→List UInt8→Option Int}{s:List UInt8}{k:List UInt8→Bool→Option α}{g:α→Option β}:(quotO fr fn s k).bind g=quotO fr fn s fun a b=>(k a b).bind g:=by
 simp only[quotO,cond_bindo,ixB_bind,Option.bind_assoc,none_bindo]
def quotD (s:List UInt8):Option (List UInt8×Bool):=quotO repD cntD s fun a b=>some (a,b)
theorem ok_quotD:FOK NGs Ws 270 (tSB quotD):=fok_tSB woks (allOK_cons ok_repD (allOK_cons ok_cntD allOK_nil)) allH_nil (h:=hh0) Tryz.func270 rfl (by decide) fun s r h=>by
 refine⟨0,(vquoted_raw repD cntD 0 s).trans ?_⟩
 have:=congrArg (fun o=>o.bind fun r:List UInt8×Bool=>some (PV.tuple [.str r.1,.bool r.2])) h
 simp only[quotD,quotO_bind,Option.bind_some] at this
 exact this
theorem candO_bind {α β:Type}{fx:List UInt8→List UInt8→Option (List UInt8×Bool)}{fq fh:List UInt8→Option (List UInt8×Bool)}{fd:List UInt8→List UInt8→Option (List UInt8×Bool)}{fp:List UInt8→Option (Int×Int×Bool)}{s:List UInt8}{k:Val→Option α}{g:α→Option β}:(candO fx fq fh fd fp s k).bind g=candO fx fq fh fd fp s fun r=>(k r).bind g:=by
 simp only[candO,cond_bindo,Option.bind_assoc]
def candD (s:List UInt8):Option Val:=candO cutXD quotD unhD cutDD parD s some
theorem ok_candD:FOK NGs Ws 247 (tSv candD):=fok_tSv woks (allOK_cons ok_cutXD (allOK_cons ok_quotD (allOK_cons ok_unhex (allOK_cons ok_cutDD (allOK_cons ok_parD allOK_nil))))) allH_nil (h:=hh0) Tryz.func247 rfl (by decide) fun s r h=>by
 refine⟨0,(cand_raw cutXD quotD unhD cutDD parD 0 s).trans ?_⟩
 have:=congrArg (fun o=>o.bind fun r:Val=>some (valE r)) h
 simp only[candD,candO_bind,Option.bind_some] at this
 exact this
theorem rightO_bind {α β:Type}{fr:Int→Int→Int→List UInt8→Option Bool}{a n c:Int}{s:List UInt8}{k:Val→Option α}{g:α→Option β}:(rightO fr a n c s k).bind g=rightO fr a n c s fun r=>(k r).bind g:=by
 simp only[rightO,cond_bindo,Option.bind_assoc]
def vrtD (a n c:Int)(s:List UInt8):Option Val:=rightO rtD a n c s some
theorem ok_vrtD:FOK NGs Ws 214 (tvv vrtD):=fok_tvv woks (allOK_cons ok_rtD allOK_nil) allH_nil (h:=hh0) Tryz.func214 rfl (by decide) fun a n c s r h=>by
 refine⟨0,(vrt_raw rtD 0 a n c s).trans ?_⟩
 have:=congrArg (fun o=>o.bind fun r:Val=>some (valE r)) h
 simp only[vrtD,rightO_bind,Option.bind_some] at this
 exact this
theorem prinO_bind {α β:Type}{fv:Int→Int→Int→List UInt8→Option Val}{fr:List UInt8→List UInt8→List UInt8→Option (List UInt8)}{fh:List UInt8→Option (List UInt8)}{fd:Int→Int→Option (List UInt8)}{a n c:Int}{s:List UInt8}{k:List UInt8→Option α}{g:α→Option β}:(prinO fv fr fh fd a n c s k).bind g=prinO fv fr fh fd a n c s fun r=>(k r).bind g:=by
 simp only[prinO,cond_bindo,catS_bind,Option.bind_assoc]
def prinD (a n c:Int)(s:List UInt8):Option (List UInt8):=prinO vrtD repD hexD prD a n c s some
theorem ok_prinD:FOK NGs Ws 160 (tvS prinD):=fok_tvS woks (allOK_cons ok_vrtD (allOK_cons ok_repD (allOK_cons ok_hex (allOK_cons ok_prD allOK_nil)))) allH_nil (h:=hh0) Tryz.func160 rfl (by decide) fun a n c s r h=>by
 refine⟨0,(vprint_raw vrtD repD hexD prD 0 a n c s).trans ?_⟩
 have:=congrArg (fun o=>o.bind fun r:List UInt8=>some (PV.str r)) h
 simp only[prinD,prinO_bind,Option.bind_some] at this
 exact this
theorem vparO_bind {α β:Type}{fc:List UInt8→Option Val}{fr:Int→Int→Int→List UInt8→Option Bool}{fp:Int→Int→Int→List UInt8→Option (List UInt8)}{s:List UInt8}{k:Val→Bool→Option α}{g:α→Option β}:(vparO fc fr fp s k).bind g=vparO fc fr fp s fun r b=>(k r b).bind g:=by
 simp only[vparO,cond_bindo,Option.bind_assoc]
def vparD (s:List UInt8):Option (Val×Bool):=vparO candD rtD prinD s fun v b=>some (v,b)
theorem ok_vparD:FOK NGs Ws 219 (tSvb vparD):=fok_tSvb woks (allOK_cons ok_candD (allOK_cons ok_rtD (allOK_cons ok_prinD allOK_nil))) allH_nil (h:=hh0) Tryz.func219 rfl (by decide) fun s r h=>by
 refine⟨0,(vparse_raw candD rtD prinD 0 s).trans ?_⟩
 have:=congrArg (fun o=>o.bind fun r:Val×Bool=>some (PV.tuple [valE r.1,.bool r.2])) h
 simp only[vparD,vparO_bind,Option.bind_some] at this
 exact this
def litD (s:List UInt8):Option (TR×Int×Bool):=litO vparD s fun t n b=>some (t,n,b)
theorem ok_litD:FOK NGs Ws 169 (tTk litD):=fok_tTk woks (allOK_cons ok_vparD allOK_nil) allH_nil (h:=hh0) Tryz.func169 rfl (by decide) fun s r h=>by
 refine⟨0,(llit_raw vparD 0 s).trans ?_⟩
 have:=congrArg (fun o=>o.bind fun r:TR×Int×Bool=>some (PV.tuple [.agg r.1.cells,.int .i64 r.2.1,.bool r.2.2])) h
 simp only[litD,litO,Option.bind_assoc,Option.bind_some] at this
 exact this
section
variable {old new:List UInt8} (ho:old≠[]) (hn:old≠new)
include ho hn
omit ho in
theorem ra_eq (s:List UInt8):Lib.replaceAll s old new=Lib.replaceK old new (Lib.count s old) s:=by
 unfold Lib.replaceAll Lib.replace Lib.replaceNum
 rw[if_neg (by simpa using hn),if_pos (Or.inl (by omega))]
theorem ra_nil:Lib.replaceAll [] old new=[]:=by
 rw[ra_eq hn,Lib.count_miss (by unfold Lib.index;rw[if_neg (by simpa using ho)])]
 rfl
theorem ra_hit {s:List UInt8}(h:old.isPrefixOf s=true)(hs:s≠[]):Lib.replaceAll s old new=new++Lib.replaceAll (s.drop old.length) old new:=by
 have hi:Lib.index s old=((0:Nat):Int):=by
  cases s with
  |nil=>exact absurd rfl hs
  |cons b l=>unfold Lib.index;rw[if_pos h];rfl
 rw[ra_eq hn,ra_eq hn,Lib.count_hit ho hi,Nat.add_comm,Lib.replaceK_hit _ _ _ _ 0 hi,Nat.zero_add,List.take_zero,List.nil_append]
theorem ra_miss {b:UInt8}{l:List UInt8}(h:old.isPrefixOf (b::l)=false):Lib.replaceAll (b::l) old new=b::Lib.replaceAll l old new:=by
 have hi:Lib.index (b::l) old=if Lib.index l old == -1 then -1 else Lib.index l old+1:=by
  rw[Lib.index,if_neg (by rw[h];decide)]
 rw[ra_eq hn,ra_eq hn]
 by_cases hm:Lib.index l old=-1
 ·rw[Lib.count_miss hm,Lib.count_miss (by rw[hi,hm];rfl)]
  rfl
 ·have hge:=Lib.index_ge l old
  obtain⟨i,hx⟩:∃ i:Nat,Lib.index l old=(i:Int):=⟨(Lib.index l old).toNat,by omega⟩
  have hy:Lib.index (b::l) old=((i+1:Nat):Int):=by
   rw[hi,if_neg (by simpa using hm),hx]
   omega
  rw[Lib.count_hit ho hx,Lib.count_hit ho hy,show i+1+old.length=(i+old.length)+1 by omega,List.drop_succ_cons,Nat.add_comm 1,Lib.replaceK_hit _ _ _ _ i hx,Lib.replaceK_hit _ _ _ _ (i+1) hy,List.take_succ_cons,show i+1+old.length=(i+old.length)+1 by omega,List.drop_succ_cons]
  rfl
end
inductive Dbl:List UInt8→List UInt8→Prop
 |nil:Dbl [] []
 |q {r u:List UInt8}:Dbl r u→Dbl (39::39::r) (39::u)
 |c {c:UInt8} {r u:List UInt8}:c≠39→Dbl r u→Dbl (c::r) (c::u)
theorem dbl_un {r u:List UInt8}(h:Dbl r u):Lib.replaceAll r [39,39] [39]=u:=by
 induction h with
 |nil=>exact ra_nil (by decide) (by decide)
 |q _ ih=>rw[ra_hit (by decide) (by decide) (by rfl) (by simp)];simp only[List.length_cons,List.length_nil,List.drop_succ_cons,List.drop_zero,ih];rfl
 |c hc _ ih=>rw[ra_miss (by decide) (by decide) (by simp[List.isPrefixOf,Ne.symm hc]),ih]
theorem dbl_do {r u:List UInt8}(h:Dbl r u):Lib.replaceAll u [39] [39,39]=r:=by
 induction h with
 |nil=>exact ra_nil (by decide) (by decide)
 |q _ ih=>rw[ra_hit (by decide) (by decide) (by rfl) (by simp)];simp only[List.length_cons,List.length_nil,List.drop_succ_cons,List.drop_zero,ih];rfl
 |c hc _ ih=>rw[ra_miss (by decide) (by decide) (by simp[List.isPrefixOf,Ne.symm hc]),ih]
theorem dbl_cnt {r u:List UInt8}(h:Dbl r u):Lib.countByte r 39=2 * Lib.countByte u 39:=by
 unfold Lib.countByte
 induction h with
 |nil=>rfl
 |q _ ih=>simp only[List.count_cons_self,ih];omega
 |c hc _ ih=>rw[List.count_cons_of_ne hc,List.count_cons_of_ne hc,ih]
theorem dbl_len {r u:List UInt8}(h:Dbl r u):u.length≤r.length:=by
 induction h with
 |nil=>exact Nat.le_refl _
 |q _ ih=>simp only[List.length_cons];omega
 |c hc _ ih=>simp only[List.length_cons];omega
theorem dbl_no {r u:List UInt8}(h:Dbl r u)(hn:∀ c∈u,c≠39):r=u:=by
 induction h with
 |nil=>rfl
 |q _ ih=>exact absurd rfl (hn 39 (List.mem_cons_self ..))
 |c hc _ ih=>rw[ih fun c h=>hn c (List.mem_cons_of_mem _ h)]
def qt (r:List UInt8):List UInt8:=39::(r++[39])
theorem qt_len (r:List UInt8):(qt r).length=r.length+2:=by simp[qt]
theorem quot_eq {r u:List UInt8}(h:Dbl r u)(hl:r.length≤10000):quotD (qt r)=some (u,true):=by
 have hu:=dbl_len h
 unfold quotD quotO
 rw[qt_len,cond_t (by rw[decide_eq_false (by omega)];rfl),show ((0:Int))=((0:Nat):Int) from rfl,ixB_eq (c:=39) (by rfl),cond_t (by rfl),wrapI_of (by omega) (by omega),show (((r.length+2:Nat):Int)-1)=((r.length+1:Nat):Int) by omega,
  ixB_eq (c:=39) (by unfold qt;rw[List.getElem?_cons_succ,List.getElem?_append_right (Nat.le_refl _),Nat.sub_self];rfl),cond_f (by rfl),cond_t (by simp only[Bool.and_eq_true,decide_eq_true_eq];omega),Int.toNat_natCast,cond_t (decide_eq_true (by omega))]
 have e:((qt r).take (r.length+1)).drop 1=r:=by
  unfold qt
  rw[List.take_succ_cons,List.drop_succ_cons,List.drop_zero,List.take_left]
 rw[e]
 unfold repD
 rw[cond_t (by simp only[Bool.and_eq_true,decide_eq_true_eq,List.length_cons,List.length_nil];omega),Option.bind_some,dbl_un h]
 show some (u,(Lib.countByte r 39:Int)==IntKind.i64.wrap (2 * (Lib.countByte u 39:Int)))=_
 have hc:Lib.countByte u 39≤u.length:=List.count_le_length
 rw[dbl_cnt h,wrapI_of (by omega) (by omega)]
 simp
def txtV (u:List UInt8):Val×Bool:=bif rightB 4 0 0 u then (⟨4,0,0,u⟩,true) else (⟨0,0,0,[]⟩,false)
theorem vpar_text {r u:List UInt8}(h:Dbl r u)(hl:r.length≤10000):vparD (qt r)=some (txtV u):=by
 have hu:=dbl_len h
 unfold vparD vparO
 have hc:candD (qt r)=some ⟨4,0,0,u⟩:=by
  unfold candD candO
  rw[cond_f (beq_eq_false_iff_ne.2 (by unfold qt;intro e;cases e)),cond_f (beq_eq_false_iff_ne.2 (by unfold qt;intro e;cases e))]
  have hx:cutXD (qt r) [88]=some (qt r,false):=rfl
  rw[hx,Option.bind_some,cond_false,quot_eq h hl,Option.bind_some,cond_true]
 rw[hc,Option.bind_some]
 unfold txtV
 have hr:rtD 4 0 0 u=some (rightB 4 0 0 u):=by unfold rtD;rw[cond_t (decide_eq_true (by omega))]
 rw[show rtD (⟨4,0,0,u⟩:Val).kind (⟨4,0,0,u⟩:Val).n (⟨4,0,0,u⟩:Val).scale (⟨4,0,0,u⟩:Val).s=_ from hr,Option.bind_some]
 cases hb:rightB 4 0 0 u with
 |false=>rfl
 |true =>
  rw[hb] at hr
  have hp:prinD 4 0 0 u=some (qt r):=by
   unfold prinD prinO vrtD rightO
   rw[hr,Option.bind_some]
   show (repD u [39] [39,39]).bind _=_
   unfold repD
   rw[cond_t (by simp only[Bool.and_eq_true,decide_eq_true_eq,List.length_cons,List.length_nil];omega),Option.bind_some,dbl_do h,catS_eq (by simp;omega),catS_eq (by simp;omega)]
   rfl
  show (prinD 4 0 0 u).bind _=_
  rw[hp,Option.bind_some,beq_self_eq_true]
  rfl
theorem hx_back_all:∀ n:Fin 256,0≤hxI (UInt8.ofNat n.val)→hxN (hxI (UInt8.ofNat n.val)).toNat=UInt8.ofNat n.val:=by decide
theorem hx_back {c:UInt8}(h:0≤hxI c):hxN (hxI c).toNat=c:=by
 have:=hx_back_all ⟨c.toNat,c.toNat_lt⟩
 rw[UInt8.ofNat_toNat] at this
 exact this h
theorem unh_hex:∀ (k:Nat) (u b:List UInt8),u.length≤k→unhV u=some b→hexV b=u∧(∀ c∈u,c≠39)∧b.length≤u.length
 |_,[],b,_,h=>by injection h with h;subst h;exact⟨rfl,(fun c h=>by cases h),Nat.le_refl _⟩
 |_,[_],b,_,h=>by cases h
 |0,a::c::t,b,hk,h=>by simp at hk
 |k+1,a::c::t,b,hk,h=>by
  rw[unhV] at h
  have ga:=hxI_ge a
  have gc:=hxI_ge c
  by_cases ha:hxI a<0
  ·rw[decide_eq_true ha] at h;cases h
  by_cases hc:hxI c<0
  ·rw[decide_eq_true hc,Bool.or_true] at h;cases h
  rw[decide_eq_false ha,decide_eq_false hc] at h
  obtain⟨l,hl,h⟩:=Option.map_eq_some_iff.1 h
  subst h
  obtain⟨h1,h2,h3⟩:=unh_hex k t l (by simp at hk;omega) hl
  have hlt:16 * (hxI a).toNat+(hxI c).toNat<256:=by omega
  refine⟨?_,?_,?_⟩
  ·unfold hexV at h1 ⊢
   rw[List.flatMap_cons,h1,UInt8.toNat_ofNat_of_lt' hlt,show (16 * (hxI a).toNat+(hxI c).toNat)/16=(hxI a).toNat by omega,show (16 * (hxI a).toNat+(hxI c).toNat)%16=(hxI c).toNat by omega,hx_back (by omega),hx_back (by omega)]
   rfl
  ·intro x hx
   rcases List.mem_cons.1 hx with rfl|hx
   ·rintro rfl;exact ha (by decide)
   ·rcases List.mem_cons.1 hx with rfl|hx
    ·rintro rfl;exact hc (by decide)
    ·exact h2 x hx
  ·simp only[List.length_cons];omega
def bytV (u:List UInt8):Val×Bool:=match unhV u with
 |none=>(⟨0,0,0,[]⟩,false)
 |some b=>bif rightB 5 0 0 b then (⟨5,0,0,b⟩,true) else (⟨0,0,0,[]⟩,false)
theorem vpar_bytes {r u:List UInt8}(h:Dbl r u)(hl:r.length≤10000):vparD (88::qt r)=some (bytV u):=by
 have hu:=dbl_len h
 unfold vparD vparO
 have hc:candD (88::qt r)=some ⟨5,0,0,(unhV u).getD []⟩:=by
  unfold candD candO
  rw[cond_f (beq_eq_false_iff_ne.2 (by intro e;cases e)),cond_f (beq_eq_false_iff_ne.2 (by intro e;cases e))]
  have hx:cutXD (88::qt r) [88]=some (qt r,true):=rfl
  rw[hx,Option.bind_some,cond_true,quot_eq h hl,Option.bind_some,cond_true]
  unfold unhD
  rw[cond_t (decide_eq_true (show u.length≤100000 by omega))]
  cases unhV u<;>rfl
 rw[hc,Option.bind_some]
 generalize hb:(unhV u).getD []=b
 have hbl:b.length≤u.length:=by
  cases hv:unhV u with
  |none=>rw[hv] at hb;subst hb;exact Nat.zero_le _
  |some x=>rw[hv] at hb;subst hb;exact (unh_hex _ u x (Nat.le_refl _) hv).2.2
 have hr:rtD 5 0 0 b=some (rightB 5 0 0 b):=by unfold rtD;rw[cond_t (decide_eq_true (by omega))]
 rw[show rtD (⟨5,0,0,b⟩:Val).kind (⟨5,0,0,b⟩:Val).n (⟨5,0,0,b⟩:Val).scale (⟨5,0,0,b⟩:Val).s=_ from hr,Option.bind_some]
 unfold bytV
 cases hq:rightB 5 0 0 b with
 |false =>
  cases hv:unhV u with
  |none=>rfl
  |some x =>
   rw[hv] at hb
   simp only[Option.getD_some] at hb
   subst hb
   simp only[hq]
   rfl
 |true =>
  rw[hq] at hr
  have hp:prinD 5 0 0 b=some (88::qt (hexV b)):=by
   unfold prinD prinO vrtD rightO
   rw[hr,Option.bind_some]
   show (hexD b).bind _=_
   have hh:(hexV b).length=2 * b.length:=by
    unfold hexV
    clear hr hq hbl hb
    induction b with
    |nil=>rfl
    |cons a b ih=>rw[List.flatMap_cons,List.length_append,ih];simp only[List.length_cons,List.length_nil];omega
   unfold hexD
   rw[cond_t (decide_eq_true (by omega)),Option.bind_some,catS_eq (by simp;omega),catS_eq (by simp;omega)]
   rfl
  show (prinD 5 0 0 b).bind _=_
  rw[hp,Option.bind_some]
  cases hv:unhV u with
  |none =>
   rw[hv] at hb
   simp only[Option.getD_none] at hb
   subst hb
   have:r≠[]:=by
    rintro rfl
    cases h
    cases hv
   have hne:((88::qt (hexV []))==(88::qt r))=false:=by
    rw[beq_eq_false_iff_ne]
    intro e
    have:=congrArg List.length e
    simp only[List.length_cons,qt_len] at this
    have h0:(hexV []).length=0:=rfl
    have:=List.length_pos_iff.2 ‹r≠[]›
    omega
   rw[hne]
   rfl
  |some x =>
   rw[hv] at hb
   simp only[Option.getD_some] at hb
   subst hb
   obtain⟨h1,h2,-⟩:=unh_hex _ u x (Nat.le_refl _) hv
   rw[h1,dbl_no h h2,beq_self_eq_true]
   simp only[hq]
   rfl
def tRow (f:FuncId→List UInt8→Option (List UInt8)):PFn:=⟨fun xs k=>match xs with|[.str s,.clo n []]=>(f n s).bind fun r=>k (.str r)|_=>none,false⟩
theorem tRow_nat (f:FuncId→List UInt8→Option (List UInt8)):(tRow f).nat:=by
 intro R xs k
 simp only[tRow]
 split
 ·rw[Option.bind_assoc];rfl
 ·rfl
def sl0 {R:Type}(s:List UInt8)(i:Int)(k:List UInt8→Option R):Option R:=bif decide (0≤i)&&decide (i≤(s.length:Int)) then k ((s.take i.toNat).drop 0) else none
def hRw:Hints:=⟨[],[(0,⟨[(0,false),(1,false),(7,false),(8,false)],[]⟩)]⟩
def frRw (s:List UInt8)(n:FuncId)(L i:Int):St:=frame 22 [(0,(.str s,0)),(1,(.clo n [],0)),(7,(.int .i64 L,0)),(8,(.int .i64 i,0))] []
noncomputable def fRw:Func:=Tryz.f174
noncomputable def rwDL (f:Int→Option Bool)(fu n:Nat)(st:St):Option PV:=loopF (enH [(171,tcB f)] [] []) hRw fu false fRw [1,0,1,0] 0 n st
theorem rwD_raw (f:Int→Option Bool)(fu:Nat)(s:List UInt8):prun (enH [(171,tcB f)] [] []) hRw fu false fRw [.str s,.clo 171 []]=rwDL f fu fu (frRw s 171 (s.length:Int) 0):=prunN_eq.trans (by kernel_rfl)
theorem rwD_step (f:Int→Option Bool)(fu:Nat)(s:List UInt8)(L i:Int)(K:St→Option PV) :
  stepF (enH [(171,tcB f)] [] []) hRw fu false fRw [1,0,1,0] (frRw s 171 L i) (fun st=>pnorm (hRw.loop.lookup 0) st K) =
  bif decide (i<L) then ixB s i fun v=>(f (v.toNat:Int)).bind fun b=>bif !b then sl0 s i fun r=>some (.str r) else K (frRw s 171 L (IntKind.i64.wrap (i+1))) else some (.str s):=by kernel_rfl
noncomputable def rwGL (f:Int→Option Bool)(fu n:Nat)(st:St):Option PV:=loopF (enH [(173,tcB f)] [] []) hRw fu false fRw [1,0,1,0] 0 n st
theorem rwG_raw (f:Int→Option Bool)(fu:Nat)(s:List UInt8):prun (enH [(173,tcB f)] [] []) hRw fu false fRw [.str s,.clo 173 []]=rwGL f fu fu (frRw s 173 (s.length:Int) 0):=prunN_eq.trans (by kernel_rfl)
theorem rwG_step (f:Int→Option Bool)(fu:Nat)(s:List UInt8)(L i:Int)(K:St→Option PV) :
  stepF (enH [(173,tcB f)] [] []) hRw fu false fRw [1,0,1,0] (frRw s 173 L i) (fun st=>pnorm (hRw.loop.lookup 0) st K) =
  bif decide (i<L) then ixB s i fun v=>(f (v.toNat:Int)).bind fun b=>bif !b then sl0 s i fun r=>some (.str r) else K (frRw s 173 L (IntKind.i64.wrap (i+1))) else some (.str s):=by kernel_rfl
noncomputable def rwSL (f:Int→Option Bool)(fu n:Nat)(st:St):Option PV:=loopF (enH [(177,tcB f)] [] []) hRw fu false fRw [1,0,1,0] 0 n st
theorem rwS_raw (f:Int→Option Bool)(fu:Nat)(s:List UInt8):prun (enH [(177,tcB f)] [] []) hRw fu false fRw [.str s,.clo 177 []]=rwSL f fu fu (frRw s 177 (s.length:Int) 0):=prunN_eq.trans (by kernel_rfl)
theorem rwS_step (f:Int→Option Bool)(fu:Nat)(s:List UInt8)(L i:Int)(K:St→Option PV) :
  stepF (enH [(177,tcB f)] [] []) hRw fu false fRw [1,0,1,0] (frRw s 177 L i) (fun st=>pnorm (hRw.loop.lookup 0) st K) =
  bif decide (i<L) then ixB s i fun v=>(f (v.toNat:Int)).bind fun b=>bif !b then sl0 s i fun r=>some (.str r) else K (frRw s 177 L (IntKind.i64.wrap (i+1))) else some (.str s):=by kernel_rfl
def hQu:Hints:=⟨[],[(0,⟨[(0,false),(3,false)],[]⟩)]⟩
def frQu (s:List UInt8)(i:Int):St:=frame 34 [(0,(.str s,0)),(3,(.int .i64 i,0))] []
noncomputable def fQu:Func:=Tryz.f170
noncomputable def quL (fu n:Nat)(st:St):Option PV:=loopF (enH [] [] []) hQu fu false fQu [1,0,1,0] 0 n st
theorem qu_raw (fu:Nat)(s:List UInt8):prun (enH [] [] []) hQu fu false fQu [.str s]=quL fu fu (frQu s 1):=prunN_eq.trans (by kernel_rfl)
theorem qu_step (fu:Nat)(s:List UInt8)(i:Int)(K:St→Option PV) :
  stepF (enH [] [] []) hQu fu false fQu [1,0,1,0] (frQu s i) (fun st=>pnorm (hQu.loop.lookup 0) st K) =
  bif decide (i<(s.length:Int)) then ixB s i fun v=>bif !((v.toNat:Int)==39) then K (frQu s (IntKind.i64.wrap (i+1))) else
   bif decide (IntKind.i64.wrap (i+1)<(s.length:Int)) then ixB s (IntKind.i64.wrap (i+1)) fun w=>bif (w.toNat:Int)==39 then K (frQu s (IntKind.i64.wrap (IntKind.i64.wrap (i+1)+1))) else sl0 s (IntKind.i64.wrap (i+1)) fun r=>some (.str r)
   else sl0 s (IntKind.i64.wrap (i+1)) fun r=>some (.str r)
  else some (.str []):=by kernel_rfl
theorem dig_raw' (fu:Nat)(c:Int):prun (enH [] [] []) hh0 fu false Tryz.f171 [.int .u8 c]=some (.bool (decide (48≤c)&&decide (c≤57))):=by kernel_rfl
theorem gre_raw' (fu:Nat)(c:Int):prun (enH [] [] []) hh0 fu false Tryz.f173 [.int .u8 c]=some (.bool (decide (65≤c)&&decide (c≤90))):=by kernel_rfl
theorem sma_raw' (f:Int→Option Bool)(fu:Nat)(c:Int):prun (enH [(171,tcB f)] [] []) hh0 fu false Tryz.f177 [.int .u8 c] =
  bif !(decide (97≤c)&&decide (c≤122)) then (f c).bind fun b=>some (.bool (b||c==95)) else some (.bool true):=by kernel_rfl
def numF {R:Type}(fp:List UInt8→Option (Int×Int×Bool))(x:List UInt8)(k:TR→Int→Bool→Option R):Option R:=(fp x).bind fun p=>bif decide (0<p.2.1) then k ⟨2,0,[],3,p.1,p.2.1,[]⟩ (x.length:Int) p.2.2 else k ⟨2,0,[],2,p.1,0,[]⟩ (x.length:Int) p.2.2
def numO {R:Type}(fr:FuncId→List UInt8→Option (List UInt8))(fd:Int→Option Bool)(fp:List UInt8→Option (Int×Int×Bool))(s:List UInt8)(k:TR→Int→Bool→Option R):Option R :=
 (fr 171 s).bind fun x=>bif decide (0≤(x.length:Int))&&decide ((x.length:Int)≤(s.length:Int)) then
  bif decide ((1:Int)<(((s.take s.length).drop (x.length:Int).toNat).length:Int)) then ixB ((s.take s.length).drop (x.length:Int).toNat) 0 fun v=>bif (v.toNat:Int)==46 then ixB ((s.take s.length).drop (x.length:Int).toNat) 1 fun w=>(fd (w.toNat:Int)).bind fun b=>bif b then
   bif decide ((1:Int)≤(((s.take s.length).drop (x.length:Int).toNat).length:Int)) then (fr 171 ((((s.take s.length).drop (x.length:Int).toNat).take ((s.take s.length).drop (x.length:Int).toNat).length).drop 1)).bind fun y=>catS [46] y fun z=>catS x z fun t=>numF fp t k else none
   else numF fp x k else numF fp x k else numF fp x k else none
theorem num_raw' (fr:FuncId→List UInt8→Option (List UInt8))(fd:Int→Option Bool)(fp:List UInt8→Option (Int×Int×Bool))(fu:Nat)(s:List UInt8) :
  prun (enH [(174,tRow fr),(171,tcB fd),(220,tD3 fp)] [] []) hh0 fu false Tryz.f172 [.str s]=numO fr fd fp s fun t n b=>some (.tuple [.agg t.cells,.int .i64 n,.bool b]):=by kernel_rfl
abbrev sgW:List UInt8:=[40,41,44,46,43,45,42,47,37,61,60,62]
def sgn1 {R:Type}(ft:List UInt8→List UInt8→Option Bool)(s:List UInt8)(k:TR→Int→Bool→Option R):Option R :=
 bif decide ((1:Int)≤(s.length:Int)) then bif decide ((1:Int)≤(s.length:Int)) then (ft sgW ((s.take 1).drop 0)).bind fun b=>k ⟨3,0,(s.take 1).drop 0,0,0,0,[]⟩ 1 b else none else none
def sgnO {R:Type}(fc:Nat→List PV→List UInt8→Option Bool)(ft:List UInt8→List UInt8→Option Bool)(s:List UInt8)(k:TR→Int→Bool→Option R):Option R :=
 bif decide ((1:Int)<(s.length:Int)) then bif decide ((2:Int)≤(s.length:Int)) then (fc 3 [.str [60,61],.str [62,61],.str [60,62]] ((s.take 2).drop 0)).bind fun b=>bif b then (bif decide ((2:Int)≤(s.length:Int)) then k ⟨3,0,(s.take 2).drop 0,0,0,0,[]⟩ 2 true else none) else sgn1 ft s k else none else sgn1 ft s k
theorem sgn_raw' (fc:Nat→List PV→List UInt8→Option Bool)(ft:List UInt8→List UInt8→Option Bool)(fu:Nat)(s:List UInt8) :
  prun (enH [(184,tCn fc),(223,tSSb ft)] [] []) hh0 fu false Tryz.f178 [.str s]=sgnO fc ft s fun t n b=>some (.tuple [.agg t.cells,.int .i64 n,.bool b]):=by kernel_rfl
structure FTk where
 fl:List UInt8→Option (TR×Int×Bool)
 fq:List UInt8→Option (List UInt8)
 fd:Int→Option Bool
 fn:List UInt8→Option (TR×Int×Bool)
 fg:Int→Option Bool
 fr:FuncId→List UInt8→Option (List UInt8)
 fk:Option (Option Bool×Nat×List PV)
 fb:Nat→List PV→List UInt8→Option (Int×Bool)
 fs:Int→Option Bool
 fx:List UInt8→Option (TR×Int×Bool)
noncomputable def enTk (F:FTk):Env:=enH [(169,tTk F.fl),(170,tS1 F.fq),(171,tcB F.fd),(172,tTk F.fn),(173,tcB F.fg),(174,tRow F.fr),(176,tWs0 F.fk),(175,tBs F.fb),(177,tcB F.fs),(178,tTk F.fx)] [] []
def tokR {R:Type}(F:FTk)(v:UInt8)(s:List UInt8)(k:TR→Int→Bool→Option R):Option R :=
 (F.fd (v.toNat:Int)).bind fun b=>bif b then (F.fn s).bind fun t=>k t.1 t.2.1 t.2.2 else (F.fg (v.toNat:Int)).bind fun b=>bif b then (F.fr 173 s).bind fun w=>F.fk.bind fun ks=>(F.fb ks.2.1 ks.2.2 w).bind fun r=>k ⟨1,0,w,0,0,0,[]⟩ (w.length:Int) r.2
 else (F.fs (v.toNat:Int)).bind fun b=>bif b&&!((v.toNat:Int)==95) then (F.fr 177 s).bind fun w=>k ⟨0,0,w,0,0,0,[]⟩ (w.length:Int) (decide ((w.length:Int)≤24)) else (F.fx s).bind fun t=>k t.1 t.2.1 t.2.2
def tokO {R:Type}(F:FTk)(s:List UInt8)(k:TR→Int→Bool→Option R):Option R :=
 ixB s 0 fun v=>bif (v.toNat:Int)==39 then (F.fq s).bind fun q=>(F.fl q).bind fun t=>k t.1 t.2.1 t.2.2 else
  bif (bif (v.toNat:Int)==88 then decide ((1:Int)<(s.length:Int)) else false) then ixB s 1 fun w=>bif (w.toNat:Int)==39 then
   (bif decide ((1:Int)≤(s.length:Int)) then (F.fq ((s.take s.length).drop 1)).bind fun q=>bif q==[] then k TR.zero 0 false else catS [88] q fun z=>(F.fl z).bind fun t=>k t.1 t.2.1 t.2.2 else none)
   else tokR F v s k else tokR F v s k
theorem tok_raw (F:FTk)(fu:Nat)(s:List UInt8):prun (enTk F) hh0 fu false Tryz.f94 [.str s]=tokO F s fun t n b=>some (.tuple [.agg t.cells,.int .i64 n,.bool b]):=by kernel_rfl
def hLx:Hints:=⟨[],[(0,⟨[(0,false),(5,true),(6,false)],[]⟩)]⟩
def frLx (s:List UInt8)(no:Option Bool)(lo:Nat)(co:List PV)(i:Int):St:=frame 50 [(0,(.str s,0)),(5,(.sl no 7 lo co,57)),(6,(.int .i64 i,0))] []
noncomputable def fLx:Func:=Tryz.f51
noncomputable def enLx (ft:List UInt8→Option (TR×Int×Bool)):Env:=enH [(94,tTk ft)] [] []
noncomputable def lxL (ft:List UInt8→Option (TR×Int×Bool))(fu n:Nat)(st:St):Option PV:=loopF (enLx ft) hLx fu false fLx [1,1,1,0,1,0] 0 n st
def roomT {R:Type}(l m:Nat)(x:Option R):Option R:=bif decide (l+m≤9223372036854775807)&&decide ((l+m) * 72≤140737488355328) then x else none
theorem lx_raw (ft:List UInt8→Option (TR×Int×Bool))(fu:Nat)(s:List UInt8):prun (enLx ft) hLx fu false fLx [.str s]=bif decide ((2000:Int)<(s.length:Int)) then some (.tuple [.sl (some true) 7 0 [],.int .i64 2000,.int .i64 170]) else lxL ft fu fu (frLx s (some true) 0 [] 0):=prunN_eq.trans (by kernel_rfl)
def lxT {R:Type}(ft:List UInt8→Option (TR×Int×Bool))(s:List UInt8)(i:Int)(lo:Nat)(bad:Option R)(K:TR→Int→Option R):Option R :=
 bif decide (0≤i)&&decide (i≤(s.length:Int)) then (ft ((s.take s.length).drop i.toNat)).bind fun t=>bif !t.2.2 then bad else roomT lo 1 (K ⟨t.1.k,i,t.1.t,t.1.vk,t.1.vn,t.1.vc,t.1.vs⟩ (IntKind.i64.wrap (i+t.2.1))) else none
theorem lx_step (ft:List UInt8→Option (TR×Int×Bool))(fu:Nat)(s:List UInt8)(no:Option Bool)(lo:Nat)(co:List PV)(i:Int)(K:St→Option PV) :
  stepF (enLx ft) hLx fu false fLx [1,1,1,0,1,0] (frLx s no lo co i) (fun st=>pnorm (hLx.loop.lookup 0) st K) =
  bif decide (i<(s.length:Int)) then ixB s i fun v=>bif !((v.toNat:Int)==32) then ixB s i fun w=>bif (w.toNat:Int)==10 then K (frLx s no lo co (IntKind.i64.wrap (i+1))) else
    lxT ft s i lo (some (.tuple [.sl (some true) 7 0 [],.int .i64 i,.int .i64 170])) fun t j=>K (frLx s (no.map (· && false)) (lo+1) (co++t.cells) j)
   else K (frLx s no lo co (IntKind.i64.wrap (i+1)))
  else some (.tuple [.sl no 7 lo co,.int .i64 0,.int .i64 0]):=by kernel_rfl
def lDig (c:UInt8):Bool:=decide (48≤(c.toNat:Int))&&decide ((c.toNat:Int)≤57)
def lGre (c:UInt8):Bool:=decide (65≤(c.toNat:Int))&&decide ((c.toNat:Int)≤90)
def lSma (c:UInt8):Bool:=bif !(decide (97≤(c.toNat:Int))&&decide ((c.toNat:Int)≤122)) then lDig c||(c.toNat:Int)==95 else true
def digD (c:Int):Option Bool:=some (decide (48≤c)&&decide (c≤57))
def greD (c:Int):Option Bool:=some (decide (65≤c)&&decide (c≤90))
def smaD (c:Int):Option Bool:=some (bif !(decide (97≤c)&&decide (c≤122)) then (decide (48≤c)&&decide (c≤57))||c==95 else true)
theorem ok_dig:FOK NGs Ws 171 (tcB digD):=fok_tcB woks allOK_nil allH_nil (h:=hh0) Tryz.func171 rfl (by decide) fun c r h=>⟨0,by rw[dig_raw' 0 c];injection h with h;rw[h]⟩
theorem ok_gre:FOK NGs Ws 173 (tcB greD):=fok_tcB woks allOK_nil allH_nil (h:=hh0) Tryz.func173 rfl (by decide) fun c r h=>⟨0,by rw[gre_raw' 0 c];injection h with h;rw[h]⟩
theorem ok_sma:FOK NGs Ws 177 (tcB smaD):=fok_tcB woks (allOK_cons ok_dig allOK_nil) allH_nil (h:=hh0) Tryz.func177 rfl (by decide) fun c r h=>⟨0,by
 rw[sma_raw' digD 0 c]
 injection h with h
 rw[← h]
 cases decide (97≤c)&&decide (c≤122)<;>rfl⟩
theorem row_gen {p:UInt8→Bool}{L:Nat→St→Option PV}{s:List UInt8}{m:FuncId}(hs:s.length≤100000)
  (hL:∀ n i,L (n+1) (frRw s m (s.length:Int) i)=bif decide (i<(s.length:Int)) then ixB s i fun v=>bif !p v then sl0 s i fun r=>some (.str r) else L n (frRw s m (s.length:Int) (IntKind.i64.wrap (i+1))) else some (.str s)) :
  ∀ (k i n:Nat),i+k=s.length→k<n→L n (frRw s m (s.length:Int) (i:Int))=some (.str (s.take i++(s.drop i).takeWhile p))
 |k,i,0,_,h=>by omega
 |0,i,n+1,hi,hn=>by
  rw[hL,cond_f (decide_eq_false (by omega)),List.take_of_length_le (by omega),List.drop_of_length_le (by omega)]
  simp
 |k+1,i,n+1,hi,hn=>by
  have hc:=List.getElem?_eq_getElem (l:=s) (i:=i) (by omega)
  have ht:s.take (i+1)=s.take i++[s[i]'(by omega)]:=List.take_succ_eq_append_getElem (by omega)
  have ih:=row_gen hs hL k (i+1) n (by omega) (by omega)
  rw[hL,cond_t (decide_eq_true (by omega)),ixB_eq hc,List.drop_eq_getElem_cons (show i<s.length by omega),List.takeWhile_cons,wrapI_of (by omega) (by omega)]
  cases hp:p (s[i]'(by omega)) with
  |false =>
   unfold sl0
   simp only[Bool.not_false,cond_true,Int.toNat_natCast,List.drop_zero]
   rw[cond_t (by simp only[Bool.and_eq_true,decide_eq_true_eq];omega)]
   simp
  |true =>
   simp only[Bool.not_true,cond_false,if_true]
   rw[ht] at ih
   refine Eq.trans ?_ (ih.trans (by rw[List.append_assoc];rfl))
   congr 1
def rowF (p:UInt8→Bool)(s:List UInt8):Option (List UInt8):=bif decide (s.length≤100000) then some (s.takeWhile p) else none
def rowD (n:FuncId)(s:List UInt8):Option (List UInt8):=if n=171 then rowF lDig s else if n=173 then rowF lGre s else if n=177 then rowF lSma s else none
theorem row_d {s:List UInt8}(hs:s.length≤100000):∃ fu,prun (enH [(171,tcB digD)] [] []) hRw fu false fRw [.str s,.clo 171 []]=some (.str (s.takeWhile lDig)) :=
 ⟨s.length+1,(rwD_raw digD _ s).trans (row_gen (p:=lDig) (L:=rwDL digD (s.length+1)) hs (fun n i=>by unfold rwDL;rw[loopF_succ,rwD_step];rfl) s.length 0 _ (by omega) (by omega))⟩
theorem row_g {s:List UInt8}(hs:s.length≤100000):∃ fu,prun (enH [(173,tcB greD)] [] []) hRw fu false fRw [.str s,.clo 173 []]=some (.str (s.takeWhile lGre)) :=
 ⟨s.length+1,(rwG_raw greD _ s).trans (row_gen (p:=lGre) (L:=rwGL greD (s.length+1)) hs (fun n i=>by unfold rwGL;rw[loopF_succ,rwG_step];rfl) s.length 0 _ (by omega) (by omega))⟩
theorem row_s {s:List UInt8}(hs:s.length≤100000):∃ fu,prun (enH [(177,tcB smaD)] [] []) hRw fu false fRw [.str s,.clo 177 []]=some (.str (s.takeWhile lSma)) :=
 ⟨s.length+1,(rwS_raw smaD _ s).trans (row_gen (p:=lSma) (L:=rwSL smaD (s.length+1)) hs (fun n i=>by unfold rwSL;rw[loopF_succ,rwS_step];rfl) s.length 0 _ (by omega) (by omega))⟩
theorem row_one {m:FuncId}{p:PFn}(hp:FOK NGs Ws m p){q:UInt8→Bool}(hr:∀ s:List UInt8,s.length≤100000→∃ fu,prun (enH [(m,p)] [] []) hRw fu false fRw [.str s,.clo m []]=some (.str (s.takeWhile q))) :
  FOK NGs Ws 174 (tRow fun n s=>if n=m then rowF q s else none) :=
 fokH woks (allOK_cons hp allOK_nil) allH_nil allI_nil (h:=hRw) Tryz.func174 rfl (by decide) (tRow_nat _) fun xs r h=>by
  simp only[tRow] at h
  split at h
  ·obtain⟨x,hx,h3⟩:=Option.bind_eq_some_iff.1 h
   obtain⟨hn,hx2⟩:=ite_inv hx
   subst hn
   unfold rowF at hx2
   obtain⟨hs,hx3⟩:=bif_inv hx2
   injection hx3 with hx4
   subst hx4
   obtain⟨fu,hr⟩:=hr _ (of_decide_eq_true hs)
   exact⟨fu,hr.trans h3⟩
  ·cases h
theorem ok_row:FOK NGs Ws 174 (tRow rowD) where
 nat:=tRow_nat _
 call := fun M xs vs r hW hng hg hr hF=>by
  have hd:=row_one ok_dig (q:=lDig) fun s hs=>row_d hs
  have hgr:=row_one ok_gre (q:=lGre) fun s hs=>row_g hs
  have hsm:=row_one ok_sma (q:=lSma) fun s hs=>row_s hs
  simp only[tRow] at hF
  split at hF
  ·rename_i s n
   obtain⟨x,hx,h3⟩:=Option.bind_eq_some_iff.1 hF
   unfold rowD at hx
   split at hx
   ·rename_i hn
    exact hd.call M _ vs r hW hng hg hr (by simp only[tRow];rw[if_pos hn,hx];exact h3)
   ·split at hx
    ·rename_i hn
     exact hgr.call M _ vs r hW hng hg hr (by simp only[tRow];rw[if_pos hn,hx];exact h3)
    ·split at hx
     ·rename_i hn
      exact hsm.call M _ vs r hW hng hg hr (by simp only[tRow];rw[if_pos hn,hx];exact h3)
     ·cases hx
  ·cases hF
def qsc:List UInt8→Option (List UInt8×List UInt8×List UInt8)
 |[]=>none
 |[c]=>if c=39 then some ([],[],[]) else none
 |c::d::t=>if c=39 then (if d=39 then (qsc t).map fun r=>(39::39::r.1,39::r.2.1,r.2.2) else some ([],[],d::t)) else (qsc (d::t)).map fun r=>(c::r.1,c::r.2.1,r.2.2)
theorem qsc_ok:∀ (k:Nat) (l:List UInt8) (r u x:List UInt8),l.length≤k→qsc l=some (r,u,x)→Dbl r u∧l=r++39::x∧x.head? ≠ some 39
 |_,[],r,u,x,_,h=>by cases h
 |_,[c],r,u,x,_,h=>by
  rw[qsc] at h
  obtain⟨hc,h⟩:=ite_inv h
  injection h with h
  injection h with h1 h
  injection h with h2 h3
  subst h1 h2 h3 hc
  exact⟨.nil,rfl,by simp⟩
 |0,c::d::t,r,u,x,hk,h=>by simp at hk
 |k+1,c::d::t,r,u,x,hk,h=>by
  rw[qsc] at h
  by_cases hc:c=39
  ·rw[if_pos hc] at h
   by_cases hd:d=39
   ·rw[if_pos hd] at h
    obtain⟨⟨r',u',x'⟩,hq,h⟩:=Option.map_eq_some_iff.1 h
    injection h with h1 h
    injection h with h2 h3
    subst h1 h2 h3 hc hd
    obtain⟨g1,g2,g3⟩:=qsc_ok k t r' u' x' (by simp at hk;omega) hq
    exact⟨.q g1,by rw[g2];rfl,g3⟩
   ·rw[if_neg hd] at h
    injection h with h
    injection h with h1 h
    injection h with h2 h3
    subst h1 h2 h3 hc
    exact⟨.nil,rfl,by simpa using hd⟩
  ·rw[if_neg hc] at h
   obtain⟨⟨r',u',x'⟩,hq,h⟩:=Option.map_eq_some_iff.1 h
   injection h with h1 h
   injection h with h2 h3
   subst h1 h2 h3
   obtain⟨g1,g2,g3⟩:=qsc_ok k (d::t) r' u' x' (by simp at hk ⊢;omega) hq
   exact⟨.c hc g1,by rw[g2];rfl,g3⟩
def quV (s:List UInt8)(i:Nat):List UInt8:=match qsc (s.drop i) with
 |none=>[]
 |some r=>s.take (i+r.1.length+1)
theorem n39 {c:UInt8}:((c.toNat:Int)==39)=decide (c=39):=by
 by_cases h:c=39
 ·subst h;rfl
 ·rw[decide_eq_false h,beq_eq_false_iff_ne]
  intro e
  apply h
  apply UInt8.toNat_inj.1
  have:(39:UInt8).toNat=39:=rfl
  omega
theorem qu_loop (fu:Nat)(s:List UInt8)(hs:s.length≤100000):∀ (k i n:Nat),i+k=s.length→k<n→quL fu n (frQu s (i:Int))=some (.str (quV s i))
 |k,i,0,_,h=>by omega
 |0,i,n+1,hi,hn=>by
  unfold quL quV
  rw[loopF_succ,qu_step,cond_f (decide_eq_false (by omega)),List.drop_of_length_le (by omega),qsc]
 |k+1,i,n+1,hi,hn=>by
  have hc:=List.getElem?_eq_getElem (l:=s) (i:=i) (by omega)
  have hd:=List.drop_eq_getElem_cons (show i<s.length by omega)
  generalize s[i]'(by omega)=c at hc hd
  have ih:=qu_loop fu s hs k (i+1) n (by omega) (by omega)
  have e1:(i:Int)+1=((i+1:Nat):Int):=by omega
  have ends:∀ x,qsc (s.drop i)=some ([],x)→sl0 s ((i+1:Nat):Int) (fun r=>some (PV.str r))=some (.str (quV s i)):=fun x hx=>by
   unfold sl0 quV
   rw[hx,cond_t (by simp only[Bool.and_eq_true,decide_eq_true_eq];omega),Int.toNat_natCast]
   rfl
  unfold quL at ih ⊢
  rw[loopF_succ,qu_step,cond_t (decide_eq_true (by omega)),ixB_eq hc,wrapI_of (by omega) (by omega),n39,e1]
  by_cases hq:c=39
  ·rw[decide_eq_true hq]
   simp only[Bool.not_true,cond_false]
   cases k with
   |zero =>
    rw[cond_f (decide_eq_false (by omega))]
    have hx:s.drop (i+1)=[]:=List.drop_of_length_le (by omega)
    exact ends ([],[]) (by rw[hd,hx,qsc,if_pos hq])
   |succ k =>
    have hc2:=List.getElem?_eq_getElem (l:=s) (i:=i+1) (by omega)
    have hd2:=List.drop_eq_getElem_cons (show i+1<s.length by omega)
    generalize s[i+1]'(by omega)=d at hc2 hd2
    rw[cond_t (decide_eq_true (by omega)),ixB_eq hc2,n39]
    by_cases hq2:d=39
    ·have ih2:=qu_loop fu s hs k (i+1+1) n (by omega) (by omega)
     unfold quL at ih2
     rw[decide_eq_true hq2,cond_true,wrapI_of (by omega) (by omega),show ((i+1:Nat):Int)+1=((i+1+1:Nat):Int) by omega]
     refine ih2.trans ?_
     unfold quV
     rw[hd,hd2,qsc,if_pos hq,if_pos hq2]
     cases qsc (s.drop (i+1+1)) with
     |none=>rfl
     |some r =>
      show some (PV.str (s.take (i+1+1+r.1.length+1)))=some (PV.str (s.take (i+(39::39::r.1).length+1)))
      rw[show i+(39::39::r.1).length+1=i+1+1+r.1.length+1 by simp only[List.length_cons];omega]
    ·rw[decide_eq_false hq2,cond_false]
     exact ends ([],d::s.drop (i+1+1)) (by rw[hd,hd2,qsc,if_pos hq,if_neg hq2])
  ·rw[decide_eq_false hq]
   simp only[Bool.not_false,cond_true]
   refine ih.trans ?_
   unfold quV
   rw[hd]
   have:qsc (c::s.drop (i+1))=(qsc (s.drop (i+1))).map fun r=>(c::r.1,c::r.2.1,r.2.2):=by
    cases s.drop (i+1) with
    |nil =>
     show (if c=39 then some ([],[],[]) else none)=none
     rw[if_neg hq]
    |cons d t=>rw[qsc,if_neg hq]
   rw[this]
   cases qsc (s.drop (i+1)) with
   |none=>rfl
   |some r =>
    show some (PV.str (s.take (i+1+r.1.length+1)))=some (PV.str (s.take (i+(c::r.1).length+1)))
    rw[show i+(c::r.1).length+1=i+1+r.1.length+1 by simp only[List.length_cons];omega]
def quD (s:List UInt8):Option (List UInt8):=bif decide (1≤s.length)&&decide (s.length≤100000) then some (quV s 1) else none
theorem ok_qu:FOK NGs Ws 170 (tS1 quD):=fok_tS1 woks allOK_nil allH_nil (h:=hQu) Tryz.func170 rfl (by decide) fun s r h=>by
 unfold quD at h
 obtain⟨hs,h⟩:=bif_inv h
 injection h with h
 subst h
 simp only[Bool.and_eq_true,decide_eq_true_eq] at hs
 exact⟨s.length+1,(qu_raw _ s).trans (qu_loop _ s hs.2 (s.length-1) 1 _ (by omega) (by omega))⟩
def keysStr:List UInt8:=[65,68,68,32,65,76,84,69,82,32,65,78,68,32,65,83,32,66,79,79,76,32,66,89,32,66,89,84,69,83,32,67,65,83,84,32,67,79,76,85,77,78,32,67,79,85,78,84,32,67,82,69,65,84,69,32,68,69,67,73,77,65,76,32,68,69,70,65,85,76,84,32,68,69,76,69,84,69,32,68,69,83,67,32,68,82,79,80,32,70,65,76,83,69,32,70,82,79,77,32,71,82,79,85,80,32,73,78,68,69,88,32,73,78,83,69,82,84,32,73,78,84,32,73,78,84,79,32,73,83,32,74,79,73,78,32,76,73,77,73,84,32,77,65,88,32,77,73,78,32,78,79,84,32,78,85,76,76,32,79,78,32,79,82,32,79,82,68,69,82,32,83,69,76,69,67,84,32,83,69,84,32,83,85,77,32,84,65,66,76,69,32,84,69,88,84,32,84,82,85,69,32,84,89,80,69,32,85,78,73,81,85,69,32,85,80,68,65,84,69,32,86,65,76,85,69,83,32,87,72,69,82,69]
def keysL:List (List UInt8):=[[65,68,68],[65,76,84,69,82],[65,78,68],[65,83],[66,79,79,76],[66,89],[66,89,84,69,83],[67,65,83,84],[67,79,76,85,77,78],[67,79,85,78,84],[67,82,69,65,84,69],[68,69,67,73,77,65,76],[68,69,70,65,85,76,84],[68,69,76,69,84,69],[68,69,83,67],[68,82,79,80],[70,65,76,83,69],[70,82,79,77],[71,82,79,85,80],[73,78,68,69,88],[73,78,83,69,82,84],[73,78,84],[73,78,84,79],[73,83],[74,79,73,78],[76,73,77,73,84],[77,65,88],[77,73,78],[78,79,84],[78,85,76,76],[79,78],[79,82],[79,82,68,69,82],[83,69,76,69,67,84],[83,69,84],[83,85,77],[84,65,66,76,69],[84,69,88,84],[84,82,85,69],[84,89,80,69],[85,78,73,81,85,69],[85,80,68,65,84,69],[86,65,76,85,69,83],[87,72,69,82,69]]
theorem keys_fields:Lib.fields keysStr=keysL:=by kernel_rfl
def keysD:Option (Option Bool×Nat×List PV):=some (some false,keysL.length,keysL.flatMap stC)
theorem keys_raw (ff:List UInt8→Option (Option Bool×Nat×List PV)):prun (enH [(198,tWs ff)] [] []) hh0 0 false Tryz.f176 []=(ff keysStr).bind fun r=>some (.sl r.1 1 r.2.1 r.2.2):=by kernel_rfl
theorem fld_keys:fldF keysStr=keysD:=by
 unfold fldF keysD
 rw[keys_fields,cond_t (by decide)]
theorem ok_keys:FOK NGs Ws 176 (tWs0 keysD) :=
 fokH woks (allOK_cons ok_fld allOK_nil) allH_nil allI_nil (h:=hh0) Tryz.func176 rfl (by decide) (tWs0_nat _) fun xs r h=>by
  simp only[tWs0] at h
  split at h
  ·refine⟨0,(keys_raw fldF).trans ?_⟩
   rw[fld_keys]
   exact h
  ·cases h
def bsD (n:Nat)(c:List PV)(w:List UInt8):Option (Int×Bool):=bif c.all isStr&&(decide (c.length=n)&&(decide (0<n)&&decide (n≤1000000))) then some ((placeI c w:Int),decide (placeI c w<n)&&strAt c (placeI c w)==w) else none
theorem ok_bsD:FOK NGs Ws 175 (tBs bsD):=fok_wk ok_bs (tBs_nat _) rfl fun xs r h=>by
 simp only[tBs] at h
 split at h
 ·rename_i nl z n c w
  obtain⟨hz,h2⟩:=ite_inv h
  subst hz
  obtain⟨q,hq,h3⟩:=Option.bind_eq_some_iff.1 h2
  unfold bsD at hq
  obtain⟨hb,hq2⟩:=bif_inv hq
  injection hq2 with hq3
  subst hq3
  simp only[p_bs,hb,cond_true]
  exact h3
 ·cases h
def keyC:List PV:=keysL.flatMap stC
theorem keys_found:keysL.all (fun w=>decide (placeI keyC w<keysL.length)&&strAt keyC (placeI keyC w)==w)=true:=by decide +kernel
theorem keys_at:(List.range keysL.length).all (fun i=>conA keysL (strAt keyC i))=true:=by decide +kernel
theorem conA_iff {l:List (List UInt8)}{w:List UInt8}:conA l w=true↔w∈l:=by
 unfold conA
 rw[List.any_eq_true]
 constructor
 ·rintro ⟨x,hx,h⟩
  rw[beq_iff_eq] at h
  exact h ▸ hx
 ·intro h
  exact⟨w,h,beq_self_eq_true w⟩
theorem bs_keys (w:List UInt8):∃ i,bsD keysL.length (keysL.flatMap stC) w=some (i,conA keysL w):=by
 refine⟨(placeI keyC w:Int),?_⟩
 show bsD keysL.length keyC w=_
 unfold bsD
 rw[cond_t (by decide +kernel)]
 congr 2
 rw[Bool.eq_iff_iff,conA_iff]
 constructor
 ·intro h
  simp only[Bool.and_eq_true,decide_eq_true_eq,beq_iff_eq] at h
  have:=List.all_eq_true.1 keys_at (placeI keyC w) (List.mem_range.2 h.1)
  rw[h.2] at this
  exact conA_iff.1 this
 ·intro h
  exact List.all_eq_true.1 keys_found w h
theorem numF_bind {α β:Type}{fp:List UInt8→Option (Int×Int×Bool)}{x:List UInt8}{k:TR→Int→Bool→Option α}{g:α→Option β}:(numF fp x k).bind g=numF fp x fun t n b=>(k t n b).bind g:=by simp only[numF,cond_bindo,Option.bind_assoc]
theorem numO_bind {α β:Type}{fr:FuncId→List UInt8→Option (List UInt8)}{fd:Int→Option Bool}{fp:List UInt8→Option (Int×Int×Bool)}{s:List UInt8}{k:TR→Int→Bool→Option α}{g:α→Option β}:(numO fr fd fp s k).bind g=numO fr fd fp s fun t n b=>(k t n b).bind g:=by
 simp only[numO,cond_bindo,Option.bind_assoc,ixB_bind,catS_bind,numF_bind,none_bindo]
def numD (s:List UInt8):Option (TR×Int×Bool):=numO rowD digD parD s fun t n b=>some (t,n,b)
theorem ok_numD:FOK NGs Ws 172 (tTk numD):=fok_tTk woks (allOK_cons ok_row (allOK_cons ok_dig (allOK_cons ok_parD allOK_nil))) allH_nil (h:=hh0) Tryz.func172 rfl (by decide) fun s r h=>by
 refine⟨0,(num_raw' rowD digD parD 0 s).trans ?_⟩
 have:=congrArg (fun o=>o.bind fun r:TR×Int×Bool=>some (PV.tuple [.agg r.1.cells,.int .i64 r.2.1,.bool r.2.2])) h
 simp only[numD,numO_bind,Option.bind_some] at this
 exact this
def ctsD (s t:List UInt8):Option Bool:=match t with
 |[c]=>some (decide (0≤Lib.indexByte s c))
 |_=>none
theorem ok_ctsD:FOK NGs Ws 223 (tSSb ctsD):=fok_wk ok_cts (tSSb_nat _) rfl fun xs r h=>by
 simp only[tSSb] at h
 split at h
 ·rename_i s t
  obtain⟨q,hq,h⟩:=Option.bind_eq_some_iff.1 h
  unfold ctsD at hq
  split at hq
  ·exact h
  ·exact absurd hq (by simp)
 ·cases h
theorem sgn1_bind {α β:Type}{ft:List UInt8→List UInt8→Option Bool}{s:List UInt8}{k:TR→Int→Bool→Option α}{g:α→Option β}:(sgn1 ft s k).bind g=sgn1 ft s fun t n b=>(k t n b).bind g:=by simp only[sgn1,cond_bindo,Option.bind_assoc,none_bindo]
theorem sgnO_bind {α β:Type}{fc:Nat→List PV→List UInt8→Option Bool}{ft:List UInt8→List UInt8→Option Bool}{s:List UInt8}{k:TR→Int→Bool→Option α}{g:α→Option β}:(sgnO fc ft s k).bind g=sgnO fc ft s fun t n b=>(k t n b).bind g:=by
 simp only[sgnO,cond_bindo,Option.bind_assoc,sgn1_bind,none_bindo]
def sgnD (s:List UInt8):Option (TR×Int×Bool):=sgnO conN ctsD s fun t n b=>some (t,n,b)
theorem ok_sgnD:FOK NGs Ws 178 (tTk sgnD):=fok_tTk woks (allOK_cons (ok_con woks) (allOK_cons ok_ctsD allOK_nil)) allH_nil (h:=hh0) Tryz.func178 rfl (by decide) fun s r h=>by
 refine⟨0,(sgn_raw' conN ctsD 0 s).trans ?_⟩
 have:=congrArg (fun o=>o.bind fun r:TR×Int×Bool=>some (PV.tuple [.agg r.1.cells,.int .i64 r.2.1,.bool r.2.2])) h
 simp only[sgnD,sgnO_bind,Option.bind_some] at this
 exact this
def FTkD:FTk:=⟨litD,quD,digD,numD,greD,rowD,keysD,bsD,smaD,sgnD⟩
theorem tokR_bind {α β:Type}{F:FTk}{v:UInt8}{s:List UInt8}{k:TR→Int→Bool→Option α}{g:α→Option β}:(tokR F v s k).bind g=tokR F v s fun t n b=>(k t n b).bind g:=by
 simp only[tokR,cond_bindo,Option.bind_assoc,none_bindo]
theorem tokO_bind {α β:Type}{F:FTk}{s:List UInt8}{k:TR→Int→Bool→Option α}{g:α→Option β}:(tokO F s k).bind g=tokO F s fun t n b=>(k t n b).bind g:=by
 simp only[tokO,cond_bindo,Option.bind_assoc,ixB_bind,catS_bind,tokR_bind,none_bindo]
def tokD (s:List UInt8):Option (TR×Int×Bool):=tokO FTkD s fun t n b=>some (t,n,b)
theorem ok_tokD:FOK NGs Ws 94 (tTk tokD):=fok_tTk woks (allOK_cons ok_litD (allOK_cons ok_qu (allOK_cons ok_dig (allOK_cons ok_numD (allOK_cons ok_gre (allOK_cons ok_row (allOK_cons ok_keys (allOK_cons ok_bsD (allOK_cons ok_sma (allOK_cons ok_sgnD allOK_nil)))))))))) allH_nil (h:=hh0) Tryz.func94 rfl (by decide) fun s r h=>by
 refine⟨0,(tok_raw FTkD 0 s).trans ?_⟩
 have:=congrArg (fun o=>o.bind fun r:TR×Int×Bool=>some (PV.tuple [.agg r.1.cells,.int .i64 r.2.1,.bool r.2.2])) h
 simp only[tokD,tokO_bind,Option.bind_some] at this
 exact this
def vTok (v:Val):TR:=⟨2,0,[],v.kind,v.n,v.scale,v.s⟩
def nTok (p:Int×Nat):TR:=bif decide (0<p.2) then ⟨2,0,[],3,p.1,p.2,[]⟩ else ⟨2,0,[],2,p.1,0,[]⟩
def numText (s:List UInt8):List UInt8:=match s.drop (s.takeWhile lDig).length with
 |v::w::t=>bif v==46&&lDig w then s.takeWhile lDig++46::(w::t).takeWhile lDig else s.takeWhile lDig
 |_=>s.takeWhile lDig
def sg2:List (List UInt8):=[[60,61],[62,61],[60,62]]
def sgC (c:UInt8):Bool:=decide (0≤Lib.indexByte sgW c)
def signV:List UInt8→Option (TR×Nat)
 |[]=>none
 |[c]=>bif sgC c then some (⟨3,0,[c],0,0,0,[]⟩,1) else none
 |c::d::_=>bif conA sg2 [c,d] then some (⟨3,0,[c,d],0,0,0,[]⟩,2) else bif sgC c then some (⟨3,0,[c],0,0,0,[]⟩,1) else none
def tokV:List UInt8→Option (TR×Nat)
 |[]=>none
 |c::t =>
  if c=39 then (qsc t).bind fun r=>bif (txtV r.2.1).2 then some (vTok (txtV r.2.1).1,r.1.length+2) else none
  else if c=88∧t.head? = some 39 then (qsc t.tail).bind fun r=>bif (bytV r.2.1).2 then some (vTok (bytV r.2.1).1,r.1.length+3) else none
  else if lDig c then (parseP (numText (c::t))).map fun p=>(nTok p,(numText (c::t)).length)
  else if lGre c then bif conA keysL ((c::t).takeWhile lGre) then some (⟨1,0,(c::t).takeWhile lGre,0,0,0,[]⟩,((c::t).takeWhile lGre).length) else none
  else if lSma c∧c≠95 then bif decide (((c::t).takeWhile lSma).length≤24) then some (⟨0,0,(c::t).takeWhile lSma,0,0,0,[]⟩,((c::t).takeWhile lSma).length) else none
  else signV (c::t)
theorem n_eq (v w:UInt8):((v.toNat:Int)==(w.toNat:Int))=(v==w):=by
 rw[Bool.eq_iff_iff,beq_iff_eq,beq_iff_eq]
 constructor
 ·intro h;apply UInt8.toNat_inj.1;omega
 ·rintro rfl;rfl
theorem tw_len {p:UInt8→Bool}(s:List UInt8):(s.takeWhile p).length≤s.length:=(List.takeWhile_prefix p).length_le
def numRes (x:List UInt8):TR×Int×Bool:=match parseP x with
 |none=>(⟨2,0,[],2,0,0,[]⟩,(x.length:Int),false)
 |some p=>(nTok p,(x.length:Int),true)
theorem numF_eq {x:List UInt8}(h:x.length≤4000):numF parD x (fun t n b=>some (t,n,b))=some (numRes x):=by
 unfold numF parD numRes nTok
 rw[cond_t (decide_eq_true h),Option.bind_some]
 cases parseP x with
 |none=>rfl
 |some p =>
  show (bif decide ((0:Int)<(p.2:Int)) then _ else _)=_
  rw[show decide ((0:Int)<(p.2:Int))=decide (0<p.2) by by_cases h:0<p.2<;>simp[h]]
  simp only[Option.elim_some,Option.isSome_some]
  cases decide (0<p.2)<;>rfl
theorem numText_len (s:List UInt8):(numText s).length≤s.length:=by
 unfold numText
 have h1:=tw_len (p:=lDig) s
 split
 ·rename_i v w t h
  have h2:=congrArg List.length h
  rw[List.length_drop] at h2
  simp only[List.length_cons] at h2
  cases v==46&&lDig w with
  |false=>exact h1
  |true =>
   have h3:=tw_len (p:=lDig) (w::t)
   simp only[cond_true,List.length_append,List.length_cons] at h3 ⊢
   omega
 ·exact h1
theorem numD_eq {s:List UInt8}(h:s.length≤2000):numD s=some (numRes (numText s)):=by
 have h1:=tw_len (p:=lDig) s
 have hl:=numText_len s
 unfold numD numO
 have hr:∀ x:List UInt8,x.length≤100000→rowD 171 x=some (x.takeWhile lDig):=fun x hx=>by
  unfold rowD rowF
  rw[if_pos rfl,cond_t (decide_eq_true hx)]
 rw[hr s (by omega),Option.bind_some,cond_t (by simp only[Bool.and_eq_true,decide_eq_true_eq];omega),List.take_length,Int.toNat_natCast]
 rw[numText] at hl ⊢
 rcases hd:s.drop (s.takeWhile lDig).length with _|⟨v,_|⟨w,t⟩⟩
 ·rw[cond_f (by rfl)]
  exact numF_eq (by omega)
 ·rw[cond_f (by rfl)]
  exact numF_eq (by omega)
 ·rw[hd] at hl
  have h2:=congrArg List.length hd
  rw[List.length_drop] at h2
  simp only[List.length_cons] at h2
  rw[cond_t (decide_eq_true (by simp only[List.length_cons];omega)),show (0:Int)=((0:Nat):Int) from rfl,ixB_eq (c:=v) (by rfl),show ((v.toNat:Int)==46)=(v==46) from n_eq v 46]
  simp only at hl ⊢
  cases hv:v==46 with
  |false =>
   simp only[cond_false,Bool.false_and]
   exact numF_eq (by omega)
  |true =>
   rw[cond_true,show (1:Int)=((1:Nat):Int) from rfl,ixB_eq (c:=w) (by rfl),Bool.true_and]
   show (some (lDig w)).bind _=_
   rw[Option.bind_some]
   rw[hv,Bool.true_and] at hl
   cases hw:lDig w with
   |false =>
    simp only[cond_false]
    exact numF_eq (by omega)
   |true =>
    rw[hw] at hl
    simp only[cond_true] at hl ⊢
    rw[cond_t (decide_eq_true (by simp only[List.length_cons];omega)),List.take_length,List.drop_succ_cons,List.drop_zero,hr (w::t) (by simp only[List.length_cons];omega),Option.bind_some]
    have h3:=tw_len (p:=lDig) (w::t)
    rw[catS_eq (by simp only[List.length_cons,List.length_nil] at h3 ⊢;omega),catS_eq (by simp only[List.length_cons,List.length_nil,List.length_append] at hl h3 ⊢;omega)]
    exact numF_eq (by simp only[List.length_append,List.length_cons,List.length_nil] at hl ⊢;omega)
def TokIs (o:Option (TR×Int×Bool))(v:Option (TR×Nat)):Prop:=∃ q n b,o=some (q,n,b)∧match v with
 |none=>b=false
 |some r=>b=true∧q=r.1∧n=(r.2:Int)
theorem sgn1_eq (c:UInt8)(t:List UInt8):sgn1 ctsD (c::t) (fun t n b=>some (t,n,b))=some (⟨3,0,[c],0,0,0,[]⟩,1,sgC c):=by
 unfold sgn1
 have:decide ((1:Int)≤(((c::t).length:Nat):Int))=true:=decide_eq_true (by simp only[List.length_cons];omega)
 rw[this]
 rfl
theorem sgn_tok {s:List UInt8}(hs:s≠[]):TokIs (sgnD s) (signV s):=by
 rcases s with _|⟨c,_|⟨d,t⟩⟩
 ·exact absurd rfl hs
 ·unfold sgnD sgnO
  rw[cond_f (by rfl),sgn1_eq,signV]
  refine⟨_,_,_,rfl,?_⟩
  cases sgC c with
  |false=>rfl
  |true=>exact⟨rfl,rfl,rfl⟩
 ·unfold sgnD sgnO
  rw[cond_t (decide_eq_true (by simp only[List.length_cons];omega)),cond_t (decide_eq_true (by simp only[List.length_cons];omega)),cond_t (decide_eq_true (by simp only[List.length_cons];omega)),sgn1_eq,signV]
  have:conN 3 [.str [60,61],.str [62,61],.str [60,62]] (((c::d::t).take 2).drop 0)=some (conA sg2 [c,d]):=rfl
  rw[this,Option.bind_some]
  cases conA sg2 [c,d] with
  |true=>exact⟨_,_,_,rfl,rfl,rfl,rfl⟩
  |false =>
   refine⟨_,_,_,rfl,?_⟩
   simp only[cond_false]
   cases sgC c with
   |false=>rfl
   |true=>exact⟨rfl,rfl,rfl⟩
theorem lit_nil:litD []=some (⟨2,0,[],0,0,0,[]⟩,0,false):=by kernel_rfl
theorem lit_of {s:List UInt8}{v:Val×Bool}(h:vparD s=some v)(hs:s≠[]):litD s=some (vTok v.1,(s.length:Int),v.2):=by
 unfold litD litO
 rw[h,Option.bind_some,beq_eq_false_iff_ne.2 hs]
 simp[vTok]
theorem qu_of {t:List UInt8}(h:(39::t).length≤2000):quD (39::t)=some (match qsc t with|none=>[]|some r=>qt r.1):=by
 unfold quD
 rw[cond_t (by simp only[Bool.and_eq_true,decide_eq_true_eq,List.length_cons] at h ⊢;omega)]
 unfold quV
 rw[List.drop_succ_cons,List.drop_zero]
 cases hq:qsc t with
 |none=>rfl
 |some r =>
  obtain⟨h1,h2,-⟩:=qsc_ok _ t r.1 r.2.1 r.2.2 (Nat.le_refl _) hq
  show some ((39::t).take (1+r.1.length+1))=some (qt r.1)
  rw[show 1+r.1.length+1=(r.1.length+1)+1 by omega,List.take_succ_cons,h2]
  unfold qt
  rw[List.take_append]
  simp[List.take_of_length_le]
theorem tok_spec {c:UInt8}{t:List UInt8}(hl:(c::t).length≤2000):TokIs (tokD (c::t)) (tokV (c::t)):=by
 have hl':t.length≤1999:=by simp only[List.length_cons] at hl;omega
 unfold tokD tokO
 rw[show (0:Int)=((0:Nat):Int) from rfl,ixB_eq (c:=c) (by rfl),show ((c.toNat:Int)==39)=(c==39) from n_eq c 39,tokV]
 by_cases h39:c=39
 ·subst h39
  rw[beq_self_eq_true,cond_true,if_pos rfl]
  show TokIs ((quD (39::t)).bind fun q=>(litD q).bind fun t=>some (t.1,t.2.1,t.2.2)) _
  rw[qu_of hl,Option.bind_some]
  cases hq:qsc t with
  |none =>
   simp only[lit_nil,Option.bind_some,Option.bind_none]
   exact⟨_,_,_,rfl,rfl⟩
  |some r =>
   obtain⟨h1,h2,-⟩:=qsc_ok _ t r.1 r.2.1 r.2.2 (Nat.le_refl _) hq
   have h3:r.1.length≤2000:=by
    have:=congrArg List.length h2
    simp only[List.length_append,List.length_cons] at this
    omega
   simp only[Option.bind_some]
   rw[lit_of (vpar_text h1 (by omega)) (by unfold qt;simp),Option.bind_some]
   refine⟨_,_,_,rfl,?_⟩
   cases h4:(txtV r.2.1).2 with
   |false=>rfl
   |true=>exact⟨rfl,rfl,by rw[qt_len]⟩
 rw[beq_eq_false_iff_ne.2 h39,cond_false,if_neg h39,show ((c.toNat:Int)==88)=(c==88) from n_eq c 88]
 have hR : ¬ (c=88∧t.head? = some 39)→TokIs (tokR FTkD c (c::t) fun t n b=>some (t,n,b)) (if lDig c then (parseP (numText (c::t))).map fun p=>(nTok p,(numText (c::t)).length)
  else if lGre c then bif conA keysL ((c::t).takeWhile lGre) then some (⟨1,0,(c::t).takeWhile lGre,0,0,0,[]⟩,((c::t).takeWhile lGre).length) else none
  else if lSma c∧c≠95 then bif decide (((c::t).takeWhile lSma).length≤24) then some (⟨0,0,(c::t).takeWhile lSma,0,0,0,[]⟩,((c::t).takeWhile lSma).length) else none
  else signV (c::t)):=fun _=>by
  unfold tokR
  show TokIs ((some (lDig c)).bind _) _
  rw[Option.bind_some]
  cases hd:lDig c with
  |true =>
   simp only[cond_true,if_true]
   show TokIs ((numD (c::t)).bind _) _
   rw[numD_eq hl,Option.bind_some]
   unfold numRes
   cases parseP (numText (c::t)) with
   |none=>exact⟨_,_,_,rfl,rfl⟩
   |some p=>exact⟨_,_,_,rfl,rfl,rfl,rfl⟩
  |false =>
   simp only[cond_false,Bool.false_eq_true,if_false]
   show TokIs ((some (lGre c)).bind _) _
   rw[Option.bind_some]
   cases hg:lGre c with
   |true =>
    simp only[cond_true,if_true]
    have:FTkD.fr 173 (c::t)=some ((c::t).takeWhile lGre):=by
     show rowD 173 (c::t)=_
     unfold rowD rowF
     rw[if_neg (by decide),if_pos rfl,cond_t (decide_eq_true (by omega))]
    rw[this,Option.bind_some]
    rw[show FTkD.fk=some (some false,keysL.length,keysL.flatMap stC) from rfl,Option.bind_some]
    show TokIs ((bsD keysL.length (keysL.flatMap stC) ((c::t).takeWhile lGre)).bind _) _
    obtain⟨i,hi⟩:=bs_keys ((c::t).takeWhile lGre)
    rw[hi,Option.bind_some]
    refine⟨_,_,_,rfl,?_⟩
    cases conA keysL ((c::t).takeWhile lGre) with
    |false=>rfl
    |true=>exact⟨rfl,rfl,rfl⟩
   |false =>
    simp only[cond_false,Bool.false_eq_true,if_false]
    show TokIs ((some (lSma c)).bind _) _
    rw[Option.bind_some,show ((c.toNat:Int)==95)=(c==95) from n_eq c 95]
    by_cases hs:lSma c=true∧c≠95
    ·rw[if_pos hs,hs.1,beq_eq_false_iff_ne.2 hs.2]
     simp only[Bool.true_and,Bool.not_false,cond_true]
     have:FTkD.fr 177 (c::t)=some ((c::t).takeWhile lSma):=by
      show rowD 177 (c::t)=_
      unfold rowD rowF
      rw[if_neg (by decide),if_neg (by decide),if_pos rfl,cond_t (decide_eq_true (by omega))]
     rw[this,Option.bind_some]
     refine⟨_,_,_,rfl,?_⟩
     rw[show decide ((((c::t).takeWhile lSma).length:Int)≤24)=decide (((c::t).takeWhile lSma).length≤24) by
      by_cases h:((c::t).takeWhile lSma).length≤24
      ·rw[decide_eq_true h,decide_eq_true (by omega)]
      ·rw[decide_eq_false h,decide_eq_false (by omega)]]
     cases decide (((c::t).takeWhile lSma).length≤24) with
     |false=>rfl
     |true=>exact⟨rfl,rfl,rfl⟩
    ·rw[if_neg hs]
     have:(lSma c&&!(c==95))=false:=by
      cases h:lSma c with
      |false=>rfl
      |true =>
       have:c=95:=Decidable.byContradiction fun h2=>hs ⟨h,h2⟩
       subst this
       rfl
     rw[this,cond_false]
     show TokIs ((sgnD (c::t)).bind _) _
     obtain⟨q,n,b,h1,h2⟩:=sgn_tok (s:=c::t) (by simp)
     rw[h1,Option.bind_some]
     exact⟨q,n,b,rfl,h2⟩
 by_cases h88:c=88
 ·subst h88
  rw[beq_self_eq_true,cond_true]
  rcases t with _|⟨d,t⟩
  ·rw[decide_eq_false (by simp),cond_false,if_neg (by simp)]
   exact hR (by simp)
  ·rw[decide_eq_true (show (1:Int)<(((88:UInt8)::d::t).length:Int) by simp only[List.length_cons];omega),cond_true,show (1:Int)=((1:Nat):Int) from rfl,ixB_eq (c:=d) (by rfl),show ((d.toNat:Int)==39)=(d==39) from n_eq d 39]
   by_cases hd:d=39
   ·subst hd
    rw[beq_self_eq_true,cond_true,if_pos ⟨rfl,rfl⟩,cond_t (decide_eq_true (by simp only[List.length_cons];omega)),List.take_length,List.drop_succ_cons,List.drop_zero,List.tail_cons]
    show TokIs ((quD (39::t)).bind fun q=>bif q==[] then some (TR.zero,0,false) else catS [88] q fun z=>(litD z).bind fun t=>some (t.1,t.2.1,t.2.2)) _
    rw[qu_of (by simp only[List.length_cons] at hl ⊢;omega),Option.bind_some]
    cases hq:qsc t with
    |none=>exact⟨_,_,_,rfl,rfl⟩
    |some r =>
     obtain⟨h1,h2,-⟩:=qsc_ok _ t r.1 r.2.1 r.2.2 (Nat.le_refl _) hq
     have h3:r.1.length≤2000:=by
      have:=congrArg List.length h2
      simp only[List.length_append,List.length_cons] at this hl'
      omega
     simp only[Option.bind_some]
     rw[show (qt r.1==[])=false from rfl,cond_false,catS_eq (by rw[qt_len];simp;omega),show [(88:UInt8)]++qt r.1=88::qt r.1 from rfl,lit_of (vpar_bytes h1 (by omega)) (by simp),Option.bind_some]
     refine⟨_,_,_,rfl,?_⟩
     cases h4:(bytV r.2.1).2 with
     |false=>rfl
     |true=>exact⟨rfl,rfl,by rw[List.length_cons,qt_len]⟩
   ·rw[beq_eq_false_iff_ne.2 hd,cond_false,if_neg (by simpa using hd)]
    exact hR (by simpa using hd)
 ·rw[beq_eq_false_iff_ne.2 h88,cond_false,cond_false,if_neg (fun h=>h88 h.1)]
  exact hR fun h=>h88 h.1
theorem tw_pos {p:UInt8→Bool}{c:UInt8}{t:List UInt8}(h:p c=true):1≤((c::t).takeWhile p).length:=by
 rw[List.takeWhile_cons,if_pos h]
 simp
theorem numText_pos {c:UInt8}{t:List UInt8}(h:lDig c=true):1≤(numText (c::t)).length:=by
 have h1:=tw_pos (t:=t) h
 unfold numText
 split
 ·rename_i v w u _
  cases v==46&&lDig w with
  |false=>exact h1
  |true=>simp only[cond_true,List.length_append];omega
 ·exact h1
theorem signV_ok {c:UInt8}{t:List UInt8}{r:TR×Nat}(h:signV (c::t)=some r):1≤r.2∧r.2≤(c::t).length∧r.1.k=3∧r.1.t.head? = some c:=by
 rcases t with _|⟨d,t⟩
 ·rw[signV] at h
  obtain⟨-,h⟩:=bif_inv h
  injection h with h
  subst h
  exact⟨Nat.le_refl _,Nat.le_refl _,rfl,rfl⟩
 ·rw[signV] at h
  cases hc:conA sg2 [c,d] with
  |true =>
   rw[hc] at h
   injection h with h
   subst h
   exact⟨Nat.le_succ 1,by simp,rfl,rfl⟩
  |false =>
   rw[hc,cond_false] at h
   obtain⟨-,h⟩:=bif_inv h
   injection h with h
   subst h
   exact⟨Nat.le_refl _,by simp,rfl,rfl⟩
theorem tokV_ok {s:List UInt8}{r:TR×Nat}(h:tokV s=some r):1≤r.2∧r.2≤s.length∧(r.1.k=1→greatB r.1.t=true)∧(r.1.k=3→greatB r.1.t=false):=by
 rcases s with _|⟨c,t⟩
 ·cases h
 rw[tokV] at h
 by_cases h39:c=39
 ·rw[if_pos h39] at h
  obtain⟨q,hq,h⟩:=Option.bind_eq_some_iff.1 h
  obtain⟨-,h⟩:=bif_inv h
  injection h with h
  subst h
  obtain⟨-,h2,-⟩:=qsc_ok _ t q.1 q.2.1 q.2.2 (Nat.le_refl _) hq
  have:=congrArg List.length h2
  simp only[List.length_append,List.length_cons] at this ⊢
  exact⟨by omega,by omega,fun h=>(by cases h),fun h=>(by cases h)⟩
 rw[if_neg h39] at h
 by_cases h88:c=88∧t.head? = some 39
 ·rw[if_pos h88] at h
  obtain⟨q,hq,h⟩:=Option.bind_eq_some_iff.1 h
  obtain⟨-,h⟩:=bif_inv h
  injection h with h
  subst h
  obtain⟨-,h2,-⟩:=qsc_ok _ t.tail q.1 q.2.1 q.2.2 (Nat.le_refl _) hq
  have:=congrArg List.length h2
  have h3:t≠[]:=by rintro rfl;exact absurd h88.2 (by simp)
  have h4:=List.length_pos_iff.2 h3
  simp only[List.length_append,List.length_cons,List.length_tail] at this ⊢
  exact⟨by omega,by omega,fun h=>(by cases h),fun h=>(by cases h)⟩
 rw[if_neg h88] at h
 by_cases hd:lDig c=true
 ·rw[if_pos hd] at h
  obtain⟨p,hp,h⟩:=Option.map_eq_some_iff.1 h
  subst h
  have h2:(nTok p).k=2:=by unfold nTok;cases decide (0<p.2)<;>rfl
  refine⟨numText_pos hd,numText_len _,fun h=>?_,fun h=>?_⟩<;>rw[h2] at h<;>cases h
 rw[if_neg hd] at h
 by_cases hg:lGre c=true
 ·rw[if_pos hg] at h
  obtain⟨-,h⟩:=bif_inv h
  injection h with h
  subst h
  refine⟨tw_pos hg,tw_len _,fun _=>?_,fun h=>(by cases h)⟩
  show greatB ((c::t).takeWhile lGre)=true
  rw[List.takeWhile_cons,if_pos hg,greatB]
  unfold lGre at hg
  simp only[Bool.and_eq_true,decide_eq_true_eq] at hg ⊢
  omega
 rw[if_neg hg] at h
 by_cases hs:lSma c=true∧c≠95
 ·rw[if_pos hs] at h
  obtain⟨-,h⟩:=bif_inv h
  injection h with h
  subst h
  exact⟨tw_pos hs.1,tw_len _,fun h=>(by cases h),fun h=>(by cases h)⟩
 rw[if_neg hs] at h
 obtain⟨h1,h2,h3,h4⟩:=signV_ok h
 refine⟨h1,h2,fun h=>(by rw[h3] at h;cases h),fun _=>?_⟩
 rcases ht:r.1.t with _|⟨d,u⟩
 ·rfl
 ·rw[ht] at h4
  have:d=c:=by simpa using h4
  subst this
  rw[greatB]
  unfold lGre at hg
  by_cases ha:65≤d.toNat
  ·rw[decide_eq_true ha,Bool.true_and]
   apply decide_eq_false
   intro hb
   apply hg
   simp only[Bool.and_eq_true,decide_eq_true_eq]
   omega
  ·rw[decide_eq_false ha]
   rfl
def lexV:Nat→Nat→List UInt8→Nat ⊕ List TR
 |0,_,_=>.inr []
 |_+1,_,[]=>.inr []
 |f+1,i,c::t=>if c=32∨c=10 then lexV f (i+1) t else match tokV (c::t) with
  |none=>.inl i
  |some r=>match lexV f (i+r.2) ((c::t).drop r.2) with
   | .inl a=>.inl a
   | .inr l=>.inr (⟨r.1.k,i,r.1.t,r.1.vk,r.1.vn,r.1.vc,r.1.vs⟩::l)
theorem lexV_ok:∀ (f i:Nat) (s:List UInt8) (l:List TR),lexV f i s=.inr l→l.length≤s.length∧(∀ t∈l,0≤t.a)∧(∀ t∈l,t.k=1→greatB t.t=true)∧(∀ t∈l,t.k=3→greatB t.t=false)
 |0,i,s,l,h=>by
  rw[lexV] at h
  injection h with h
  subst h
  exact⟨Nat.zero_le _,fun t h=>(by cases h),fun t h=>(by cases h),fun t h=>(by cases h)⟩
 |f+1,i,[],l,h=>by
  rw[lexV] at h
  injection h with h
  subst h
  exact⟨Nat.zero_le _,fun t h=>(by cases h),fun t h=>(by cases h),fun t h=>(by cases h)⟩
 |f+1,i,c::t,l,h=>by
  rw[lexV] at h
  split at h
  ·obtain⟨h1,h2,h3,h4⟩:=lexV_ok f _ t l h
   exact⟨by simp only[List.length_cons];omega,h2,h3,h4⟩
  ·split at h
   ·cases h
   ·rename_i r hr
    split at h
    ·cases h
    ·rename_i l' hl'
     injection h with h
     subst h
     obtain⟨h1,h2,h3,h4⟩:=lexV_ok f _ _ l' hl'
     obtain⟨g1,g2,g3,g4⟩:=tokV_ok hr
     rw[List.length_drop] at h1
     refine⟨by simp only[List.length_cons] at g2 h1 ⊢;omega,?_,?_,?_⟩
     ·intro x hx
      rcases List.mem_cons.1 hx with rfl|hx
      ·exact Int.natCast_nonneg i
      ·exact h2 x hx
     ·intro x hx
      rcases List.mem_cons.1 hx with rfl|hx
      ·exact g3
      ·exact h3 x hx
     ·intro x hx
      rcases List.mem_cons.1 hx with rfl|hx
      ·exact g4
      ·exact h4 x hx
theorem lexV_toks {f i:Nat}{s:List UInt8}{l:List TR}(hs:s.length≤5000)(h:lexV f i s=.inr l):TOKs l :=
 let ⟨h1,h2,h3,h4⟩:=lexV_ok f i s l h
 ⟨Nat.le_trans h1 hs,h2,h3,h4⟩
theorem roomT_eq {R:Type}{l m:Nat}{x:Option R}(h:l+m≤1000000):roomT l m x=x:=by
 unfold roomT
 rw[cond_t (by rw[decide_eq_true (by omega),decide_eq_true (by omega)];rfl)]
def lexE (acc:List TR)(o:Nat ⊕ List TR):PV:=match o with
 | .inl a=>.tuple [.sl (some true) 7 0 [],.int .i64 (a:Int),.int .i64 170]
 | .inr l=>.tuple [.sl (some (acc++l).isEmpty) 7 (acc++l).length ((acc++l).flatMap TR.cells),.int .i64 0,.int .i64 0]
theorem lx_loop (fu:Nat)(s:List UInt8)(hs:s.length≤2000):∀ (n f i:Nat) (acc:List TR),i≤s.length→s.length<i+n→s.length<i+f→acc.length≤i →
  lxL tokD fu n (frLx s (some acc.isEmpty) acc.length (acc.flatMap TR.cells) (i:Int))=some (lexE acc (lexV f i (s.drop i)))
 |0,f,i,acc,hi,hn,_,_=>by omega
 |n+1,0,i,acc,hi,_,hf,_=>by omega
 |n+1,f+1,i,acc,hi,hn,hf,ha=>by
  unfold lxL
  rw[loopF_succ,lx_step]
  by_cases hlt:i<s.length
  ·have hc:=List.getElem?_eq_getElem (l:=s) (i:=i) hlt
   have hd:=List.drop_eq_getElem_cons hlt
   generalize s[i]=c at hc hd
   have skip:=lx_loop fu s hs n f (i+1) acc hlt (by omega) (by omega) (by omega)
   unfold lxL at skip
   rw[cond_t (decide_eq_true (by omega)),ixB_eq hc,ixB_eq hc,show ((c.toNat:Int)==32)=(c==32) from n_eq c 32,show ((c.toNat:Int)==10)=(c==10) from n_eq c 10,wrapI_of (by omega) (by omega),show (i:Int)+1=((i+1:Nat):Int) by omega,hd,lexV]
   by_cases h32:c=32
   ·subst h32
    rw[if_pos (Or.inl rfl)]
    exact skip
   rw[beq_eq_false_iff_ne.2 h32]
   simp only[Bool.not_false,cond_true]
   by_cases h10:c=10
   ·subst h10
    rw[if_pos (Or.inr rfl)]
    exact skip
   rw[beq_eq_false_iff_ne.2 h10,cond_false,if_neg (by rintro (h|h);exact h32 h;exact h10 h)]
   unfold lxT
   rw[cond_t (by simp only[Bool.and_eq_true,decide_eq_true_eq];omega),List.take_length,Int.toNat_natCast,hd]
   obtain⟨q,m,b,h1,h2⟩:=tok_spec (c:=c) (t:=s.drop (i+1)) (by rw[← hd,List.length_drop];omega)
   rw[h1,Option.bind_some]
   cases hr:tokV (c::s.drop (i+1)) with
   |none =>
    rw[hr] at h2
    simp only at h2
    subst h2
    rfl
   |some r =>
    rw[hr] at h2
    simp only at h2
    obtain⟨rfl,rfl,rfl⟩:=h2
    obtain⟨g1,g2,-,-⟩:=tokV_ok hr
    rw[← hd,List.length_drop] at g2
    simp only[Bool.not_true,cond_false]
    rw[roomT_eq (by omega),wrapI_of (by omega) (by omega),show (i:Int)+(r.2:Int)=((i+r.2:Nat):Int) by omega]
    have go:=lx_loop fu s hs n f (i+r.2) (acc++[⟨r.1.k,i,r.1.t,r.1.vk,r.1.vn,r.1.vc,r.1.vs⟩]) (by omega) (by omega) (by omega) (by rw[List.length_append];simp only[List.length_cons,List.length_nil];omega)
    unfold lxL at go
    have e1:((some acc.isEmpty).map (· && false))=some (acc++[(⟨r.1.k,i,r.1.t,r.1.vk,r.1.vn,r.1.vc,r.1.vs⟩:TR)]).isEmpty:=by
     show some (acc.isEmpty&&false)=_
     rw[Bool.and_false]
     congr 1
     cases acc<;>rfl
    rw[e1,show acc.length+1=(acc++[(⟨r.1.k,i,r.1.t,r.1.vk,r.1.vn,r.1.vc,r.1.vs⟩:TR)]).length by rw[List.length_append];rfl,
     show acc.flatMap TR.cells++TR.cells ⟨r.1.k,i,r.1.t,r.1.vk,r.1.vn,r.1.vc,r.1.vs⟩=(acc++[(⟨r.1.k,i,r.1.t,r.1.vk,r.1.vn,r.1.vc,r.1.vs⟩:TR)]).flatMap TR.cells by rw[List.flatMap_append];simp]
    refine go.trans ?_
    rw[← hd,List.drop_drop]
    cases lexV f (i+r.2) (s.drop (i+r.2)) with
    |inl a=>rfl
    |inr l=>simp only[lexE,List.append_assoc];rfl
  ·have:i=s.length:=by omega
   subst this
   rw[cond_f (decide_eq_false (by omega)),List.drop_length,lexV]
   simp only[lexE,List.append_nil]
def lxRes (o:Nat ⊕ List TR):LX:=match o with
 | .inl a=>⟨some true,0,[],a,170⟩
 | .inr l=>⟨some l.isEmpty,l.length,l.flatMap TR.cells,0,0⟩
def lexS (s:List UInt8):Nat ⊕ List TR:=bif decide (2000<s.length) then .inl 2000 else lexV (s.length+1) 0 s
def lexD (s:List UInt8):Option LX:=some (lxRes (lexS s))
theorem ok_lexD:FOK NGs Ws 51 (tLx lexD) :=
 fokH woks (allOK_cons ok_tokD allOK_nil) allH_nil allI_nil (h:=hLx) Tryz.func51 rfl (by decide) (tLx_nat _) fun xs r h=>by
  simp only[tLx] at h
  split at h
  ·rename_i s
   refine⟨s.length+1,(lx_raw tokD _ s).trans (Eq.trans ?_ h)⟩
   unfold lexD lexS
   rw[Option.bind_some]
   by_cases hs:s.length≤2000
   ·rw[cond_f (decide_eq_false (by omega)),decide_eq_false (show ¬ 2000<s.length by omega),cond_false]
    refine (lx_loop _ s hs (s.length+1) (s.length+1) 0 [] (Nat.zero_le _) (by omega) (by omega) (Nat.le_refl _)).trans ?_
    rw[List.drop_zero]
    cases lexV (s.length+1) 0 s<;>rfl
   ·rw[cond_t (decide_eq_true (by omega)),decide_eq_true (show 2000<s.length by omega),cond_true]
    rfl
  ·cases h
def hIn:Hints:=⟨[],[(0,⟨[(0,false),(4,true),(5,false)],[]⟩)]⟩
def z4:List TV:=[(.int .i64 0,0),(.int .i64 0,0),(.int .i64 0,0),(.str [],0)]
section
variable (fi:List UInt8→Option (List UInt8 × Bool)) (fr:Int→Int→Int→List UInt8→Option Bool) (fp:List UInt8→Option (Int × Int × Bool))
end
def tIn (f:Int→Int→Int→Option Bool):PFn:=⟨fun xs k=>match xs with|[.int .u8 c,.int .u8 a,.int .u8 z]=>(f c a z).bind fun b=>k (.bool b)|_=>none,false⟩
noncomputable def fL2:Func:=Tryz.f24
def hL2:Hints:=⟨[],[(2,⟨[(0,false),(5,true),(6,false),(8,false),(9,false)],[9]⟩),(6,⟨[(0,false),(5,true),(6,false),(8,false),(9,false)],[9]⟩),(4,⟨[(0,false),(5,true),(6,false),(8,false),(9,false)],[9]⟩),(10,⟨[(0,false),(5,true),(6,false),(8,false),(9,false),(15,false),(201,false),(202,false),(203,false)],[9]⟩),(8,⟨[(0,false),(5,true),(6,false),(8,false),(9,false)],[9]⟩),(12,⟨[(0,false),(5,true),(6,false),(8,false),(9,false)],[9]⟩),(0,⟨[(0,false),(5,true),(6,false)],[]⟩)]⟩
structure TA where
 no:Option Bool
 lo:Nat
 co:List PV
def TA.put (A:TA)(t:TR):TA:=⟨A.no.map (· && false),A.lo+1,A.co++t.cells⟩
def TA.sl (A:TA):PV:=.sl A.no 7 A.lo A.co
def frL (s:List UInt8)(A:TA)(i:Int):St:=frame 312 [(0,(.str s,0)),(5,(A.sl,319)),(6,(.int .i64 i,0))] []
def tzB (a:Int):List TV:=[(.int .i64 0,0),(.int .i64 a,0),(.str [],0),(.int .i64 0,0),(.int .i64 0,0),(.int .i64 0,0),(.str [],0)]
def frI (s:List UInt8)(A:TA)(i a:Int):St:=frame 312 [(0,(.str s,0)),(5,(A.sl,319)),(6,(.int .i64 i,0)),(8,(.int .i64 a,0)),(9,(.ptr 9 0,0))] [(9,tzB a)]
structure FL2 where
 fin:Int→Int→Int→Option Bool
 fp:List UInt8→Option (Val×Bool)
 fd:List UInt8→Option (Int×Int×Bool)
 fk:Option (Option Bool×Nat×List PV)
def slS {R:Type}(s:List UInt8)(a j:Int)(k:List UInt8→Option R):Option R:=bif decide (0≤j)&&decide (j≤(s.length:Int)) then bif decide (0≤a)&&decide (a≤(j.toNat:Int)) then k ((s.take j.toNat).drop a.toNat) else none else none
def l2F (a:Int):Option PV:=some (.tuple [.sl (some true) 7 0 [],.int .i64 a,.bool false])
section
variable (F:FL2)
noncomputable def enL2:Env:=enH [(55,tSvb F.fp),(56,tIn F.fin),(57,tD3 F.fd),(58,tWs0 F.fk)] [] []
noncomputable def l0 (fu n:Nat)(st:St):Option PV:=loopF (enL2 F) hL2 fu false fL2 [1,1,1,1,0,0] 0 n st
abbrev p2:List Nat:=[1,1,1,1,0,0,0,1,0,1,1,1,1,0,1,0,1,1,0,0]
abbrev p4:List Nat:=[1,1,1,1,0,0,0,1,0,1,1,1,1,0,1,1,1,0,0,0]
variable (fu:Nat) (s:List UInt8) (A:TA) (i a:Int) (K K2:St→Option PV)
def finT (t:TR)(i:Int):Option PV:=roomT A.lo 1 (K (frL s (A.put t) i))
def strE (i:Int):Option PV:=bif decide ((s.length:Int)≤i) then l2F a else slS s a (IntKind.i64.wrap (i+1)) fun r=>(F.fp r).bind fun q=>bif !q.2 then l2F a else finT s A K ⟨2,a,[],q.1.kind,q.1.n,q.1.scale,q.1.s⟩ (IntKind.i64.wrap (i+1))
theorem st2:stepP (enL2 F) hL2 fu false fL2 p2 (fun st=>pnorm (hL2.loop.lookup 0) st K) (frI s A i a) (fun st=>pnorm (hL2.loop.lookup 2) st K2) =
  (let X:=strE F s A a K i
  let Y:=ixB s i fun u=>bif (u.toNat:Int)==39 then K2 (frI s A (IntKind.i64.wrap (IntKind.i64.wrap (i+1)+1)) a) else K2 (frI s A (IntKind.i64.wrap (i+1)) a)
  bif decide (i<(s.length:Int)) then ixB s i fun v=>bif (bif !((v.toNat:Int) != 39) then decide (IntKind.i64.wrap (i+1)<(s.length:Int)) else false) then ixB s (IntKind.i64.wrap (i+1)) fun w=>bif (w.toNat:Int)==39 then Y else X
   else bif (bif !((v.toNat:Int) != 39) then decide (IntKind.i64.wrap (i+1)<(s.length:Int)) else false) then none else bif (bif (v.toNat:Int) != 39 then true else bif decide (IntKind.i64.wrap (i+1)<(s.length:Int)) then false else false) then Y else X
  else X):=by kernel_rfl
end
end Go.Proofs.YtkpfigikffphdaaGreatDoor
end
section
namespace Go.Proofs.YtkpfigikffphdaaGreatDoor
open Go.RowKit
section
variable {R:Type}
def LeK (k k':St→Option R):Prop:=∀ st q,k st=some q→k' st=some q
def LeX (kx kx':List (Nat×(St→Option R))):Prop:=∀ id f,kx.lookup id=some f→∃ f',kx'.lookup id=some f'∧LeK f f'
theorem LeK.rfl {k:St→Option R}:LeK k k:=fun _ _ h=>h
theorem LeX.rfl {kx:List (Nat×(St→Option R))}:LeX kx kx:=fun _ f h=>⟨f,h,LeK.rfl⟩
theorem LeX.cons {id:Nat}{f f':St→Option R}{kx kx':List (Nat×(St→Option R))}(hf:LeK f f')(h:LeX kx kx'):LeX ((id,f)::kx) ((id,f')::kx'):=fun i g hg=>by
 simp only[List.lookup_cons] at hg ⊢
 split at hg
 ·injection hg with hg
  subst hg
  exact⟨f',by rfl,hf⟩
 ·exact h i g hg
variable (e:Env) (h:Hints) (fu:Nat) (kr:St→Option R) (nm:List Nat→Nat→St→Option R)
variable (fn:Func) (path:List Nat) (cur:Nat) (kx:List (Nat × (St→Option R)))
end
end Go.Proofs.YtkpfigikffphdaaGreatDoor
end
section
set_option maxRecDepth 100000
namespace Go.Proofs.YtkpfigikffphdaaGreatDoor
open Go.RowKit
abbrev p0:List Nat:=[1,1,1,1,0,0]
section
variable (F:FL2) (fu:Nat) (s:List UInt8) (A:TA) (i a:Int) (K:St→Option PV)
end
end Go.Proofs.YtkpfigikffphdaaGreatDoor
end
section
set_option maxRecDepth 1000000
namespace Go.Proofs.YtkpfigikffphdaaGreatDoor
open Go.RowKit Go.Lib
def nmC (i:Nat)(c:UInt8):Bool:=(decide (97≤c.toNat)&&decide (c.toNat≤122))||(i != 0&&(c.toNat==95||(decide (48≤c.toNat)&&decide (c.toNat≤57))))
def nmL:Nat→List UInt8→Bool
 |_,[]=>true
 |i,c::l=>nmC i c&&nmL (i+1) l
def nameV (l:List UInt8):Bool:=nmL 0 l&&(decide (1≤l.length)&&decide (l.length≤24))
theorem nmC_of {i:Nat}{c:UInt8}(h:(97≤c.toNat∧c.toNat≤122)∨(i≠0∧(c.toNat=95∨(48≤c.toNat∧c.toNat≤57)))):nmC i c=true:=by
 unfold nmC
 simp only[Bool.or_eq_true,Bool.and_eq_true,decide_eq_true_eq,bne_iff_ne,beq_iff_eq]
 exact h
theorem nmC_no {i:Nat}{c:UInt8}(h:¬ ((97≤c.toNat∧c.toNat≤122)∨(i≠0∧(c.toNat=95∨(48≤c.toNat∧c.toNat≤57))))):nmC i c=false:=by
 rw[Bool.eq_false_iff]
 intro e
 unfold nmC at e
 simp only[Bool.or_eq_true,Bool.and_eq_true,decide_eq_true_eq,bne_iff_ne,beq_iff_eq] at e
 exact h e
set_option maxHeartbeats 4000000 in
theorem name_walk (s:ByteArray) (w:World) :
    Calls Tryz.prog 136 #[.string s] w fun e w'=>e=.returned (.bool (nameV s.data.toList))∧Below w.heap.size w w':=by
  go_enter Tryz.func136,Tryz.ntmps136
  go_wp2
  go_loopw [] (fun w'=>∃ pos:Nat,w'=w.iter s pos∧nmL pos (s.data.toList.drop pos)=nmL 0 s.data.toList) (fun w'=>s.size - w'.iterPos w.heap.size)
  case atStart=>exact ⟨0,rfl,rfl⟩
  case round =>
    obtain ⟨pos,rfl,hb⟩:=hrel
    have hbel:∀ p,Below w.heap.size w (w.iter s p):=fun p=>(Below.refl _ w).alloc (Nat.le_refl _) _
    by_cases hp:pos < s.size
    · obtain ⟨c, hc⟩:∃ c,s[pos]'hp=c:=⟨_,rfl⟩
      have hd:s.data.toList.drop pos=c :: s.data.toList.drop (pos + 1):=by
        rw [List.drop_eq_getElem_cons (by simpa using hp),← hc]
        rfl
      rw [hd,nmL] at hb
      by_cases ha:c.toNat < 128
      · have hnx : ∀ ty,(Instr.next (.pointer (some ⟨w.heap.size,0,none⟩)) true ty).run Tryz.prog (w.iter s pos)=_:=fun ty=>run_next_ascii w s pos ty hp (by rw [hc];exact ha)
        rw [hc] at hnx
        by_cases hP:(97≤c.toNat∧c.toNat≤122)∨(pos≠0∧(c.toNat=95∨(48≤c.toNat∧c.toNat≤57)))
        · rw [nmC_of hP,Bool.true_and] at hb
          rcases Nat.eq_zero_or_pos pos with rfl | hpos
          · have h1:(97:Int)≤c.toNat:=by omega
            have h2:(c.toNat:Int)≤122:=by omega
            clear hd
            go_wp2
            all_goals refine ⟨⟨_,rfl,hb⟩,?_⟩
            all_goals simp
            all_goals omega
          · have h3:¬ (pos:Int)=0:=by omega
            clear hd
            by_cases h1:(97:Int)≤c.toNat<;>by_cases h2:(c.toNat:Int)≤122<;>by_cases h4:(c.toNat:Int)=95<;>by_cases h5:(c.toNat:Int) < 48<;>by_cases h6:(57:Int) < c.toNat<;>first
              | (exfalso;omega)
              | (go_wp2
                 all_goals refine ⟨⟨_,rfl,hb⟩,?_⟩
                 all_goals simp
                 all_goals omega)
        · rw [nmC_no hP,Bool.false_and] at hb
          have hv:nameV s.data.toList=false:=by unfold nameV;rw [← hb];rfl
          clear hb hd
          rcases Nat.eq_zero_or_pos pos with rfl | hpos
          · by_cases h1:(97:Int)≤c.toNat<;>by_cases h2:(c.toNat:Int)≤122<;>first
              | (exfalso;omega)
              | (go_wp2
                 all_goals go_ret
                 all_goals first | exact ⟨rfl,hbel _⟩ | exact ⟨by rw [hv],hbel _⟩)
          · have h3:¬ (pos:Int)=0:=by omega
            by_cases h1:(97:Int)≤c.toNat<;>by_cases h2:(c.toNat:Int)≤122<;>by_cases h4:(c.toNat:Int)=95<;>by_cases h5:(c.toNat:Int) < 48<;>by_cases h6:(57:Int) < c.toNat<;>first
              | (exfalso;omega)
              | (have h3b:((pos:Int) == 0)=false:=beq_eq_false_iff_ne.2 h3
                 have h4b:((c.toNat:Int) != 95)=true:=bne_iff_ne.2 h4
                 go_wp2
                 all_goals go_ret
                 all_goals first | exact ⟨rfl,hbel _⟩ | exact ⟨by rw [hv],hbel _⟩)
      · have hh:=decode_high s pos hp (by rw [hc];omega)
        have hnx:∀ ty,(Instr.next (.pointer (some ⟨w.heap.size,0,none⟩)) true ty).run Tryz.prog (w.iter s pos)=_:=fun ty=>run_next_any w s pos ty hp
        obtain ⟨r,hr⟩:∃ r,(Utf8.decode s pos).1=r:=⟨_,rfl⟩
        obtain ⟨q,hq⟩:∃ q,pos + (Utf8.decode s pos).2=q:=⟨_,rfl⟩
        rw [hr,hq] at hnx
        rw [hr] at hh
        have h1:(97:Int)≤r:=by omega
        have h2:¬ (r:Int)≤122:=by omega
        have h4:¬ (r:Int)=95:=by omega
        have h5:¬ (r:Int) < 48:=by omega
        have h6:(57:Int) < r:=by omega
        rw [nmC_no (by omega),Bool.false_and] at hb
        have hv:nameV s.data.toList=false:=by unfold nameV;rw [← hb];rfl
        clear hb hd
        by_cases h3:(pos:Int)=0
        · go_wp2
          all_goals go_ret
          all_goals first | exact ⟨rfl,hbel _⟩ | exact ⟨by rw [hv],hbel _⟩
        · have h3b:((pos:Int) == 0)=false:=beq_eq_false_iff_ne.2 h3
          have h4b:((r:Int) != 95)=true:=bne_iff_ne.2 h4
          go_wp2
          all_goals go_ret
          all_goals first | exact ⟨rfl,hbel _⟩ | exact ⟨by rw [hv],hbel _⟩
    · have hnx:∀ ty,(Instr.next (.pointer (some ⟨w.heap.size,0,none⟩)) true ty).run Tryz.prog (w.iter s pos)=_:=fun ty=>run_next_end w s pos ty hp
      rw [List.drop_of_length_le (by simpa using hp),nmL] at hb
      have hv:nameV s.data.toList=(decide (1≤s.size) && decide (s.size≤24)):=by unfold nameV;rw [← hb];simp
      clear hb
      by_cases h1:(1:Int)≤s.size<;>by_cases h2:(s.size:Int)≤24<;>first
        | (exfalso;omega)
        | (go_wp2
           all_goals go_ret
           all_goals refine ⟨?_,hbel _⟩
           all_goals try rw [hv]
           all_goals first
             | (rw [decide_eq_true (show 1≤s.size by omega),decide_eq_true (show s.size≤24 by omega)];rfl)
             | (rw [decide_eq_true (show 1≤s.size by omega),decide_eq_false (show ¬ s.size≤24 by omega)];rfl)
             | (rw [decide_eq_false (show ¬ 1≤s.size by omega)];rfl))
def tNm:PFn:=⟨fun xs k=>match xs with|[.str s]=>k (.bool (nameV s))|_=>none,false⟩
theorem tNm_nat:tNm.nat:=by
 intro R xs k
 simp only[tNm]
 split<;>rfl
theorem ok_sName {NG:Nat}{W:World→Prop}:FOK NG W 136 tNm :=
 fok_calls Tryz.func136 rfl (by decide) tNm_nat rfl fun xs r M vs hW h hr=>by
  simp only[tNm] at h
  split at h
  ·rename_i s
   injection h with h
   subst h
   obtain⟨v,rfl,hv⟩:=relT1 hr
   simp only[RelD] at hv
   subst hv
   refine (name_walk ⟨s.toArray⟩ M.w).mono ?_
   rintro e w' ⟨rfl,hb⟩
   refine⟨_,rfl,hb,fun U' _=>?_⟩
   simp only[RelD]
  ·cases h
end Go.Proofs.YtkpfigikffphdaaGreatDoor
end
section
set_option maxRecDepth 100000
namespace Go.Proofs.YtkpfigikffphdaaGreatDoor
open Go.RowKit
theorem iteo_bind {α β:Type}{c:Prop}[Decidable c]{x:Option α}{g:α→Option β}:(if c then x else none).bind g=if c then x.bind g else none:=by split<;>rfl
section
variable {NG:Nat} {W:World→Prop}
def tWb (f:List UInt8→Option (Bool)):PFn:=⟨fun xs k=>match xs with|[.str s]=>(f s).bind fun r=>k (.bool r)|_=>none,false⟩
theorem tWb_nat (f:List UInt8→Option (Bool)):(tWb f).nat:=by
 intro R xs k
 simp only[tWb]
 split
 ·simp only[onXR_bind,iteo_bind,Option.bind_assoc,Option.bind_some]
 ·rfl
theorem fok_tWb (hW:WOK NG W){l:List (FuncId×PFn)}(hl:AllOK NG W l){lh:List (FuncId×HFn)}(hh:AllH NG W lh){h:Hints}{f:FuncId}{fn:Func}(hf:Tryz.prog.funcs[f]? = some fn)(hb:fn.body.isSome=true)(hname:fn.name ≠ "runtime.NumGoroutine"){g:List UInt8→Option (Bool)}(hr:∀ (s:List UInt8) r,g s=some r→∃ fu,prun (enH l lh []) h fu false fn [.str s]=some (.bool r)):FOK NG W f (tWb g) :=
 fokH hW hl hh allI_nil (h:=h) hf hb hname (tWb_nat g) fun xs r h=>by
  simp only[tWb] at h
  split at h
  ·obtain⟨qq,hq,hend⟩:=Option.bind_eq_some_iff.1 h
   obtain⟨fu,hr⟩:=hr _ _ hq
   exact⟨fu,hr.trans hend⟩
  ·cases h
def tTb (f:Int→Int→Option (Bool)):PFn:=⟨fun xs k=>match xs with|[.agg [.int .i64 a,.int .i64 b]]=>(f a b).bind fun r=>k (.bool r)|_=>none,false⟩
theorem tTb_nat (f:Int→Int→Option (Bool)):(tTb f).nat:=by
 intro R xs k
 simp only[tTb]
 split
 ·simp only[onXR_bind,iteo_bind,Option.bind_assoc,Option.bind_some]
 ·rfl
def tXX (f:XR→XR→Option (Bool)):PFn:=⟨fun xs k=>match xs with|[xe,xd]=>onXR xe fun e=>onXR xd fun d=>(f e d).bind fun r=>k (.bool r)|_=>none,false⟩
theorem tXX_nat (f:XR→XR→Option (Bool)):(tXX f).nat:=by
 intro R xs k
 simp only[tXX]
 split
 ·simp only[onXR_bind,iteo_bind,Option.bind_assoc,Option.bind_some]
 ·rfl
theorem fok_tXX (hW:WOK NG W){l:List (FuncId×PFn)}(hl:AllOK NG W l){lh:List (FuncId×HFn)}(hh:AllH NG W lh){h:Hints}{f:FuncId}{fn:Func}(hf:Tryz.prog.funcs[f]? = some fn)(hb:fn.body.isSome=true)(hname:fn.name ≠ "runtime.NumGoroutine"){g:XR→XR→Option (Bool)}(hr:∀ (e:XR) (d:XR) r,g e d=some r→∃ fu,prun (enH l lh []) h fu false fn [.agg e.cells,.agg d.cells]=some (.bool r)):FOK NG W f (tXX g) :=
 fokH hW hl hh allI_nil (h:=h) hf hb hname (tXX_nat g) fun xs r h=>by
  simp only[tXX] at h
  split at h
  ·obtain⟨e,hxe,h0⟩:=onXR_inv h
   subst hxe
   obtain⟨d,hxd,h1⟩:=onXR_inv h0
   subst hxd
   obtain⟨qq,hq,hend⟩:=Option.bind_eq_some_iff.1 h1
   obtain⟨fu,hr⟩:=hr _ _ _ hq
   exact⟨fu,hr.trans hend⟩
  ·cases h
def tXb (f:XR→Option (Bool)):PFn:=⟨fun xs k=>match xs with|[xe]=>onXR xe fun e=>(f e).bind fun r=>k (.bool r)|_=>none,false⟩
theorem tXb_nat (f:XR→Option (Bool)):(tXb f).nat:=by
 intro R xs k
 simp only[tXb]
 split
 ·simp only[onXR_bind,iteo_bind,Option.bind_assoc,Option.bind_some]
 ·rfl
theorem fok_tXb (hW:WOK NG W){l:List (FuncId×PFn)}(hl:AllOK NG W l){lh:List (FuncId×HFn)}(hh:AllH NG W lh){h:Hints}{f:FuncId}{fn:Func}(hf:Tryz.prog.funcs[f]? = some fn)(hb:fn.body.isSome=true)(hname:fn.name ≠ "runtime.NumGoroutine"){g:XR→Option (Bool)}(hr:∀ (e:XR) r,g e=some r→∃ fu,prun (enH l lh []) h fu false fn [.agg e.cells]=some (.bool r)):FOK NG W f (tXb g) :=
 fokH hW hl hh allI_nil (h:=h) hf hb hname (tXb_nat g) fun xs r h=>by
  simp only[tXb] at h
  split at h
  ·obtain⟨e,hxe,h0⟩:=onXR_inv h
   subst hxe
   obtain⟨qq,hq,hend⟩:=Option.bind_eq_some_iff.1 h0
   obtain⟨fu,hr⟩:=hr _ _ hq
   exact⟨fu,hr.trans hend⟩
  ·cases h
def tXdB (f:XR→Int→Option (Bool)):PFn:=⟨fun xs k=>match xs with|[xe,.int .i64 d]=>onXR xe fun e=>(f e d).bind fun r=>k (.bool r)|_=>none,false⟩
theorem tXdB_nat (f:XR→Int→Option (Bool)):(tXdB f).nat:=by
 intro R xs k
 simp only[tXdB]
 split
 ·simp only[onXR_bind,iteo_bind,Option.bind_assoc,Option.bind_some]
 ·rfl
theorem fok_tXdB (hW:WOK NG W){l:List (FuncId×PFn)}(hl:AllOK NG W l){lh:List (FuncId×HFn)}(hh:AllH NG W lh){h:Hints}{f:FuncId}{fn:Func}(hf:Tryz.prog.funcs[f]? = some fn)(hb:fn.body.isSome=true)(hname:fn.name ≠ "runtime.NumGoroutine"){g:XR→Int→Option (Bool)}(hr:∀ (e:XR) (d:Int) r,g e d=some r→∃ fu,prun (enH l lh []) h fu false fn [.agg e.cells,.int .i64 d]=some (.bool r)):FOK NG W f (tXdB g) :=
 fokH hW hl hh allI_nil (h:=h) hf hb hname (tXdB_nat g) fun xs r h=>by
  simp only[tXdB] at h
  split at h
  ·obtain⟨e,hxe,h0⟩:=onXR_inv h
   subst hxe
   obtain⟨qq,hq,hend⟩:=Option.bind_eq_some_iff.1 h0
   obtain⟨fu,hr⟩:=hr _ _ _ hq
   exact⟨fu,hr.trans hend⟩
  ·cases h
def tKK (f:Nat→List PV→Nat→List PV→Option (Bool)):PFn:=⟨fun xs k=>match xs with|[.sl _ zn n c,.sl _ zm m d]=>if zn=13 then if zm=13 then (f n c m d).bind fun r=>k (.bool r) else none else none|_=>none,false⟩
theorem tKK_nat (f:Nat→List PV→Nat→List PV→Option (Bool)):(tKK f).nat:=by
 intro R xs k
 simp only[tKK]
 split
 ·simp only[onXR_bind,iteo_bind,Option.bind_assoc,Option.bind_some]
 ·rfl
theorem fok_tKK (hW:WOK NG W){l:List (FuncId×PFn)}(hl:AllOK NG W l){lh:List (FuncId×HFn)}(hh:AllH NG W lh){h:Hints}{f:FuncId}{fn:Func}(hf:Tryz.prog.funcs[f]? = some fn)(hb:fn.body.isSome=true)(hname:fn.name ≠ "runtime.NumGoroutine"){g:Nat→List PV→Nat→List PV→Option (Bool)}(hr:∀ (nln:Option Bool) (n:Nat) (c:List PV) (nlm:Option Bool) (m:Nat) (d:List PV) r,g n c m d=some r→∃ fu,prun (enH l lh []) h fu false fn [.sl nln 13 n c,.sl nlm 13 m d]=some (.bool r)):FOK NG W f (tKK g) :=
 fokH hW hl hh allI_nil (h:=h) hf hb hname (tKK_nat g) fun xs r h=>by
  simp only[tKK] at h
  split at h
  ·obtain⟨hzn,h0⟩:=ite_inv h
   subst hzn
   obtain⟨hzm,h1⟩:=ite_inv h0
   subst hzm
   obtain⟨qq,hq,hend⟩:=Option.bind_eq_some_iff.1 h1
   obtain⟨fu,hr⟩:=hr _ _ _ _ _ _ _ hq
   exact⟨fu,hr.trans hend⟩
  ·cases h
def tKKf (f:Nat→List PV→Nat→List PV→Option (Bool)):PFn:=⟨fun xs k=>match xs with|[.sl _ zn n c,.sl _ zm m d,.clo q []]=>if zn=13 then if zm=13 then if q=12 then (f n c m d).bind fun r=>k (.bool r) else none else none else none|_=>none,false⟩
theorem tKKf_nat (f:Nat→List PV→Nat→List PV→Option (Bool)):(tKKf f).nat:=by
 intro R xs k
 simp only[tKKf]
 split
 ·simp only[onXR_bind,iteo_bind,Option.bind_assoc,Option.bind_some]
 ·rfl
theorem fok_tKKf (hW:WOK NG W){l:List (FuncId×PFn)}(hl:AllOK NG W l){lh:List (FuncId×HFn)}(hh:AllH NG W lh){h:Hints}{f:FuncId}{fn:Func}(hf:Tryz.prog.funcs[f]? = some fn)(hb:fn.body.isSome=true)(hname:fn.name ≠ "runtime.NumGoroutine"){g:Nat→List PV→Nat→List PV→Option (Bool)}(hr:∀ (nln:Option Bool) (n:Nat) (c:List PV) (nlm:Option Bool) (m:Nat) (d:List PV) r,g n c m d=some r→∃ fu,prun (enH l lh []) h fu false fn [.sl nln 13 n c,.sl nlm 13 m d,.clo 12 []]=some (.bool r)):FOK NG W f (tKKf g) :=
 fokH hW hl hh allI_nil (h:=h) hf hb hname (tKKf_nat g) fun xs r h=>by
  simp only[tKKf] at h
  split at h
  ·obtain⟨hzn,h0⟩:=ite_inv h
   subst hzn
   obtain⟨hzm,h1⟩:=ite_inv h0
   subst hzm
   obtain⟨hzq,h2⟩:=ite_inv h1
   subst hzq
   obtain⟨qq,hq,hend⟩:=Option.bind_eq_some_iff.1 h2
   obtain⟨fu,hr⟩:=hr _ _ _ _ _ _ _ hq
   exact⟨fu,hr.trans hend⟩
  ·cases h
end
abbrev wsBin:List (List UInt8):=[[79,82],[65,78,68],[61],[60,62],[60],[60,61],[62],[62,61],[43],[45],[42],[47],[37]]
theorem binary_raw (fc:Nat→List PV→List UInt8→Option Bool)(fu:Nat)(s:List UInt8):prun (enH [(184,tCn fc)] [] []) hh0 fu false Tryz.f186 [.str s]=(fc 13 (wsBin.flatMap stC) s).bind fun b=>some (.bool b):=by kernel_rfl
theorem scall_raw (fc:Nat→List PV→List UInt8→Option Bool)(fu:Nat)(s:List UInt8):prun (enH [(184,tCn fc)] [] []) hh0 fu false Tryz.f187 [.str s]=(fc 4 (wsCall.flatMap stC) s).bind fun b=>some (.bool b):=by kernel_rfl
def eqV4 (k n c:Int)(s:List UInt8)(k' n' c':Int)(s':List UInt8):Bool:=bif k==k' then (bif n==n' then (bif c==c' then (bif s==s' then true else false) else false) else false) else false
def eqT2 (k s k' s':Int):Bool:=bif k==k' then (bif s==s' then true else false) else false
def alikeB (e d:XR):Bool :=
 bif (bif (bif (bif (bif (bif e.k==d.k then e.op==d.op else false) then eqV4 e.vk e.vn e.vc e.vs d.vk d.vn d.vc d.vs else false) then e.tb==d.tb else false) then e.nm==d.nm else false) then e.nt==d.nt else false) then eqT2 e.tk e.ts d.tk d.ts else false
theorem alike_raw (fu:Nat)(e d:XR):prun (enH [] [] []) hh0 fu false Tryz.f28 [.agg e.cells,.agg d.cells]=some (.bool (alikeB e d)):=by kernel_rfl
theorem lit18_raw (fr:Int→Int→Int→List UInt8→Option Bool)(fu:Nat)(a n c:Int)(s:List UInt8):prun (enH [(231,tvB fr)] [] []) hh0 fu false Tryz.f185 [.agg [.int .i64 a,.int .i64 n,.int .i64 c,.str s]] =
  (fr a n c s).bind fun r=>some (.bool (bif (bif r then (bif !(bif a==2 then true else a==3) then true else decide (0≤n)) else false) then (bif a != 3 then true else decide (0<c)) else false)):=by kernel_rfl
theorem kids18_raw (fu:Nat)(e:XR):prun (enH [] [] []) hh0 fu false Tryz.f104 [.agg e.cells] =
    (let z:=some (PV.bool ((e.kn:Int)==0))
     let o:=some (PV.bool ((e.kn:Int)==1))
     let B:=bif e.k==3 then some (PV.bool ((e.kn:Int)==2)) else bif e.k==5 then some (PV.bool (bif (e.kn:Int)==1 then true else bif (e.kn:Int)==0 then e.op==wCOUNT else false)) else o
     bif e.k==0 then (bif e.k==0 then z else B) else bif e.k==1 then z else B):=by kernel_rfl
def bareX (e:XR):XR:=⟨e.k,e.a,[],0,0,0,[],[],[],false,0,0,some true,0,[]⟩
structure FOw where
 fl:Int→Int→Int→List UInt8→Option Bool
 fn:List UInt8→Option Bool
 fb:List UInt8→Option Bool
 fc:List UInt8→Option Bool
 ft:Int→Int→Option Bool
 fa:XR→XR→Option Bool
noncomputable def enOw (F:FOw):Env:=enH [(185,tvB F.fl),(136,tWb F.fn),(186,tWb F.fb),(187,tWb F.fc),(82,tTb F.ft),(28,tXX F.fa)] [] []
def finO (F:FOw)(e:XR)(ok:Bool)(b:XR):Option PV:=bif ok then (F.fa e b).bind fun r=>some (.bool r) else some (.bool false)
def ownO (F:FOw)(e:XR):Option PV :=
  let b:=bareX e
  bif e.k==0 then (F.fl e.vk e.vn e.vc e.vs).bind fun ok=>finO F e ok ⟨b.k,b.a,[],e.vk,e.vn,e.vc,e.vs,[],[],false,0,0,some true,0,[]⟩
  else bif e.k==1 then (F.fn e.nm).bind fun ok =>
    (let c:XR:=⟨b.k,b.a,[],0,0,0,[],e.tb,e.nm,false,0,0,some true,0,[]⟩
     bif (bif ok then !(e.tb==[]) else false) then (F.fn e.tb).bind fun r=>finO F e r c else finO F e (bif ok then (bif e.tb==[] then true else false) else false) c)
  else bif e.k==2 then finO F e (bif e.op==wNOT then true else e.op==[45]) ⟨b.k,b.a,e.op,0,0,0,[],[],[],false,0,0,some true,0,[]⟩
  else bif e.k==3 then (F.fb e.op).bind fun ok=>finO F e ok ⟨b.k,b.a,e.op,0,0,0,[],[],[],false,0,0,some true,0,[]⟩
  else bif e.k==4 then finO F e true ⟨b.k,b.a,[],0,0,0,[],[],[],e.nt,0,0,some true,0,[]⟩
  else bif e.k==5 then (F.fc e.op).bind fun ok=>finO F e ok ⟨b.k,b.a,e.op,0,0,0,[],[],[],false,0,0,some true,0,[]⟩
  else bif e.k==6 then (F.ft e.tk e.ts).bind fun ok=>finO F e ok ⟨b.k,b.a,[],0,0,0,[],[],[],false,e.tk,e.ts,some true,0,[]⟩
  else some (.bool false)
theorem own_raw (F:FOw)(fu:Nat)(e:XR):prun (enOw F) hh0 fu false Tryz.f103 [.agg e.cells]=ownO F e:=by kernel_rfl
def tR1 (f:XR→Int→Option Bool):HFn:=⟨fun bs xs k=>match bs,xs with
 |[[.int .i64 d]],[x,.ptr 0 0]=>onXR x fun e=>(f e d).bind fun b=>k [[.int .i64 d]] (.bool b)
 |_,_=>none⟩
def tIx18 (f:Nat→List PV→Int→Option Int):HFn:=⟨fun bs xs k=>match bs,xs with
 |[[.int .i64 d]],[.sl _ z n c,.clo q [.ptr 0 0]]=>if z=13 then if q=105 then (f n c d).bind fun b=>k [[.int .i64 d]] (.int .i64 b) else none else none
 |_,_=>none⟩
def tRB' (f:Nat→List PV→Int→Option Bool):HFn:=⟨fun bs xs k=>match bs,xs with
 |[[.int .i64 d]],[.sl _ z n c,.clo q [.ptr 0 0]]=>if z=13 then if q=105 then (f n c d).bind fun b=>k [[.int .i64 d]] (.bool b) else none else none
 |_,_=>none⟩
theorem right1_raw {R:Type}(fr:XR→Int→Option Bool)(fu:Nat)(e:XR)(d:Int)(K:List (List PV)→PV→Option R):prunH (enH [(54,tXdB fr)] [] []) hh0 fu Tryz.f105 [[.int .i64 d]] [.agg e.cells,.ptr 0 0] K =
  (fr e (IntKind.i64.wrap (d+1))).bind fun b=>K [[.int .i64 d]] (.bool (!b)):=by kernel_rfl
theorem rcont_raw {R:Type}(fi:Nat→List PV→Int→Option Int)(fu:Nat)(nl:Option Bool)(n:Nat)(c:List PV)(d:Int)(K:List (List PV)→PV→Option R):prunH (enH [] [(156,tIx18 fi)] []) hh0 fu Tryz.f75 [[.int .i64 d]] [.sl nl 13 n c,.clo 105 [.ptr 0 0]] K =
  (fi n c d).bind fun i=>K [[.int .i64 d]] (.bool (decide (0≤i))):=by kernel_rfl
theorem right18_raw (fo fk:XR→Option Bool)(fc:Nat→List PV→Int→Option Bool)(fu:Nat)(e:XR)(d:Int):prun (enH [(103,tXb fo),(104,tXb fk)] [(75,tRB' fc)] []) hh0 fu false Tryz.f54 [.agg e.cells,.int .i64 d] =
  (bif !decide (60≤d) then (fo e).bind fun o=>bif !!o then (fk e).bind fun q=>bif !q then some (.bool false) else (fc e.kn e.kc d).bind fun b=>some (.bool (!b)) else some (.bool false) else some (.bool false)):=by kernel_rfl
theorem rexp_raw (fr:XR→Int→Option Bool)(fu:Nat)(e:XR):prun (enH [(54,tXdB fr)] [] []) hh0 fu false Tryz.f23 [.agg e.cells]=(fr e 0).bind fun b=>some (.bool b):=by kernel_rfl
def xrK {S:Type}(cs:List PV)(k:XR→Option S):Option S :=
 cs.head?.bind fun x=>(x.asInt .i64).bind fun k1=>cs.tail.head?.bind fun x=>(x.asInt .i64).bind fun a=>cs.tail.tail.head?.bind fun x=>x.asStr.bind fun op =>
 cs.tail.tail.tail.head?.bind fun x=>(x.asInt .i64).bind fun vk=>cs.tail.tail.tail.tail.head?.bind fun x=>(x.asInt .i64).bind fun vn=>cs.tail.tail.tail.tail.tail.head?.bind fun x=>(x.asInt .i64).bind fun vc=>cs.tail.tail.tail.tail.tail.tail.head?.bind fun x=>x.asStr.bind fun vs =>
 cs.tail.tail.tail.tail.tail.tail.tail.head?.bind fun x=>x.asStr.bind fun tb=>cs.tail.tail.tail.tail.tail.tail.tail.tail.head?.bind fun x=>x.asStr.bind fun nm=>cs.tail.tail.tail.tail.tail.tail.tail.tail.tail.head?.bind fun x=>x.asBool.bind fun nt =>
 cs.tail.tail.tail.tail.tail.tail.tail.tail.tail.tail.head?.bind fun x=>(x.asInt .i64).bind fun tk=>cs.tail.tail.tail.tail.tail.tail.tail.tail.tail.tail.tail.head?.bind fun x=>(x.asInt .i64).bind fun ts=>cs.tail.tail.tail.tail.tail.tail.tail.tail.tail.tail.tail.tail.head?.bind fun x=>(x.asSl 13).bind fun p =>
  k ⟨k1,a,op,vk,vn,vc,vs,tb,nm,nt,tk,ts,p.1,p.2.1,p.2.2⟩
def xAt {S:Type}(n:Nat)(c:List PV)(i:Int)(k:XR→Option S):Option S:=chk (decide (0≤i)&&decide (i<(n:Int))) (xrK ((c.drop (i.toNat * 13)).take 13) k)
theorem xAt_eq {S:Type}{l:List XR}{i:Nat}{x:XR}{k:XR→Option S}(h:l[i]? = some x):xAt l.length (l.flatMap XR.cells) (i:Int) k=k x:=by
 have hi:=(List.getElem?_eq_some_iff.1 h).1
 unfold xAt
 rw[chk,cond_t (by rw[decide_eq_true (by omega),decide_eq_true (by omega)];rfl),Int.toNat_natCast,flat_at xr_len h]
 rfl
noncomputable def fIx:Func:=Tryz.f156
def hIx18:Hints:=⟨[],[(0,⟨[(0,false),(1,false),(7,false),(8,false)],[19]⟩)]⟩
def frIx18 (nl:Option Bool)(n:Nat)(c:List PV)(d i:Int):St:=frameB 19 20 [(0,(.sl nl 13 n c,0)),(1,(.clo 105 [.ptr 19 0],0)),(7,(.int .i64 n,0)),(8,(.int .i64 i,0))] [(19,[(.int .i64 d,0)])]
noncomputable def enIx18 (f:XR→Int→Option Bool):Env:=enH [] [(105,tR1 f)] []
section
variable {R:Type}
noncomputable def ixKr (f:XR→Int→Option Bool)(K:List (List PV)→PV→Option R)(st:St):Option R:=pfinH (enIx18 f) 1 fIx st fun bs _ v=>K bs v
noncomputable def ixL18 (f:XR→Int→Option Bool)(fu:Nat)(K:List (List PV)→PV→Option R)(m:Nat)(st:St):Option R:=loopK (enIx18 f) hIx18 fu (ixKr f K) fIx (fun _=>none) [1,0,1,0] 0 m st
theorem ix18_raw (f:XR→Int→Option Bool)(fu:Nat)(nl:Option Bool)(n:Nat)(c:List PV)(d:Int)(K:List (List PV)→PV→Option R) :
  prunH (enIx18 f) hIx18 fu fIx [[.int .i64 d]] [.sl nl 13 n c,.clo 105 [.ptr 0 0]] K=ixL18 f fu K fu (frIx18 nl n c d 0):=prunHN_eq.trans (by kernel_rfl)
theorem ix18_step (f:XR→Int→Option Bool)(fu:Nat)(nl:Option Bool)(n:Nat)(c:List PV)(d i:Int)(K:List (List PV)→PV→Option R)(G:St→Option R) :
  stepK (enIx18 f) hIx18 fu (ixKr f K) fIx [1,0,1,0] (fun _=>none) (frIx18 nl n c d i) (fun st=>pnorm (hIx18.loop.lookup 0) st G) =
   bif decide (i<(n:Int)) then xAt n c i fun x=>(f x d).bind fun b=>bif b then K [[.int .i64 d]] (.int .i64 i) else G (frIx18 nl n c d (IntKind.i64.wrap (i+1))) else K [[.int .i64 d]] (.int .i64 (-1)):=by kernel_rfl
end
theorem same_raw (fa:XR→XR→Option Bool)(fs:Nat→List PV→Nat→List PV→Option Bool)(fu:Nat)(e d:XR):prun (enH [(28,tXX fa),(29,tKK fs)] [] []) hh0 fu false Tryz.f12 [.agg e.cells,.agg d.cells] =
  (fa e d).bind fun b=>bif b then (fs e.kn e.kc d.kn d.kc).bind fun r=>some (.bool r) else some (.bool false):=by kernel_rfl
theorem sames_raw (fs:Nat→List PV→Nat→List PV→Option Bool)(fu:Nat)(nl:Option Bool)(n:Nat)(c:List PV)(ml:Option Bool)(m:Nat)(d:List PV) :
  prun (enH [(63,tKKf fs)] [] []) hh0 fu false Tryz.f29 [.sl nl 13 n c,.sl ml 13 m d]=(fs n c m d).bind fun b=>some (.bool b):=by kernel_rfl
noncomputable def fEq:Func:=Tryz.f63
def hEq:Hints:=⟨[],[(0,⟨[(1,false),(2,false),(15,false),(16,false),(17,false)],[]⟩)]⟩
noncomputable def enEq (f:XR→XR→Option Bool):Env:=enH [(12,tXX f)] [] []
def frEq (nl:Option Bool)(n:Nat)(c:List PV)(ml:Option Bool)(m:Nat)(d:List PV)(i:Int):St:=frame 32 [(1,(.sl ml 13 m d,0)),(2,(.clo 12 [],0)),(15,(.sl nl 13 n c,0)),(16,(.int .i64 n,0)),(17,(.int .i64 i,0))] []
noncomputable def eqL (f:XR→XR→Option Bool)(fu k:Nat)(st:St):Option PV:=loopF (enEq f) hEq fu false fEq [1,1,0,1,0] 0 k st
theorem eq_raw (f:XR→XR→Option Bool)(fu:Nat)(nl:Option Bool)(n:Nat)(c:List PV)(ml:Option Bool)(m:Nat)(d:List PV):prun (enEq f) hEq fu false fEq [.sl nl 13 n c,.sl ml 13 m d,.clo 12 []] =
  bif (n:Int) != (m:Int) then some (.bool false) else eqL f fu fu (frEq nl n c ml m d 0):=prunN_eq.trans (by kernel_rfl)
theorem eq_step (f:XR→XR→Option Bool)(fu:Nat)(nl:Option Bool)(n:Nat)(c:List PV)(ml:Option Bool)(m:Nat)(d:List PV)(i:Int)(K:St→Option PV) :
  stepF (enEq f) hEq fu false fEq [1,1,0,1,0] (frEq nl n c ml m d i) (fun st=>pnorm (hEq.loop.lookup 0) st K) =
   bif decide (i<(n:Int)) then xAt n c i fun x=>xAt m d i fun y=>(f x y).bind fun b=>bif !b then some (.bool false) else K (frEq nl n c ml m d (IntKind.i64.wrap (i+1))) else some (.bool true):=by kernel_rfl
def litB (a n c:Int)(s:List UInt8):Bool:=bif (bif rightB a n c s then (bif !(bif a==2 then true else a==3) then true else decide (0≤n)) else false) then (bif a != 3 then true else decide (0<c)) else false
def pOwn (e:XR):Bool :=
 bif e.k==0 then litB e.vk e.vn e.vc e.vs&&(e.op==[]&&(e.tb==[]&&(e.nm==[]&&(e.nt==false&&eqT2 e.tk e.ts 0 0))))
 else bif e.k==1 then (nameV e.nm&&(e.tb==[]||nameV e.tb))&&(e.op==[]&&(eqV4 e.vk e.vn e.vc e.vs 0 0 0 []&&(e.nt==false&&eqT2 e.tk e.ts 0 0)))
 else bif e.k==2 then (e.op==wNOT||e.op==[45])&&(eqV4 e.vk e.vn e.vc e.vs 0 0 0 []&&(e.tb==[]&&(e.nm==[]&&(e.nt==false&&eqT2 e.tk e.ts 0 0))))
 else bif e.k==3 then conA wsBin e.op&&(eqV4 e.vk e.vn e.vc e.vs 0 0 0 []&&(e.tb==[]&&(e.nm==[]&&(e.nt==false&&eqT2 e.tk e.ts 0 0))))
 else bif e.k==4 then e.op==[]&&(eqV4 e.vk e.vn e.vc e.vs 0 0 0 []&&(e.tb==[]&&(e.nm==[]&&eqT2 e.tk e.ts 0 0)))
 else bif e.k==5 then conA wsCall e.op&&(eqV4 e.vk e.vn e.vc e.vs 0 0 0 []&&(e.tb==[]&&(e.nm==[]&&(e.nt==false&&eqT2 e.tk e.ts 0 0))))
 else bif e.k==6 then tyB e.tk e.ts&&(e.op==[]&&(eqV4 e.vk e.vn e.vc e.vs 0 0 0 []&&(e.tb==[]&&(e.nm==[]&&e.nt==false))))
 else false
def pKid (k:Int)(op:List UInt8)(n:Nat):Bool :=
 bif k==0 then (n:Int)==0 else bif k==1 then (n:Int)==0 else bif k==3 then (n:Int)==2 else bif k==5 then (n:Int)==1||((n:Int)==0&&op==wCOUNT) else (n:Int)==1
def okB (e:XR):Bool:=pOwn e&&pKid e.k e.op e.kn
theorem eqV4_self (a n c:Int)(s:List UInt8):eqV4 a n c s a n c s=true:=by simp[eqV4]
theorem eqT2_self (a s:Int):eqT2 a s a s=true:=by simp[eqT2]
def FOwD:FOw:=⟨fun a n c s=>bif decide (s.length≤1000000) then some (litB a n c s) else none,fun s=>some (nameV s),fun s=>some (conA wsBin s),fun s=>some (conA wsCall s),fun a b=>some (tyB a b),fun e d=>some (alikeB e d)⟩
theorem finO_eq (e b:XR)(ok:Bool):finO FOwD e ok b=some (.bool (ok&&alikeB e b)):=by cases ok<;>rfl
theorem own_eq {e:XR}(h:smX e=true):ownO FOwD e=some (.bool (pOwn e)):=by
 unfold smX at h
 simp only[Bool.and_eq_true,decide_eq_true_eq] at h
 unfold ownO pOwn
 simp only[finO_eq]
 have hl:FOwD.fl e.vk e.vn e.vc e.vs=some (litB e.vk e.vn e.vc e.vs):=by
  show (bif decide (e.vs.length≤1000000) then _ else _)=_
  rw[cond_t (decide_eq_true h.1)]
 have hn:∀ s,FOwD.fn s=some (nameV s):=fun _=>rfl
 have hb:∀ s,FOwD.fb s=some (conA wsBin s):=fun _=>rfl
 have hc:∀ s,FOwD.fc s=some (conA wsCall s):=fun _=>rfl
 have ht:∀ a b,FOwD.ft a b=some (tyB a b):=fun _ _=>rfl
 rw[hl,hn,hn,hb,hc,ht]
 simp only[Option.bind_some,alikeB,bareX,beq_self_eq_true,cond_true,eqV4_self,eqT2_self]
 cases e.k==0 with
 |true =>
  simp only[cond_true]
  cases litB e.vk e.vn e.vc e.vs<;>cases e.op==[]<;>cases e.tb==[]<;>cases e.nm==[]<;>cases e.nt==false<;>cases eqT2 e.tk e.ts 0 0<;>rfl
 |false =>
 simp only[cond_false]
 cases e.k==1 with
 |true =>
  simp only[cond_true]
  cases nameV e.nm<;>cases nameV e.tb<;>cases e.op==[]<;>cases eqV4 e.vk e.vn e.vc e.vs 0 0 0 []<;>cases e.tb==[]<;>cases e.nt==false<;>cases eqT2 e.tk e.ts 0 0<;>rfl
 |false =>
 simp only[cond_false]
 cases e.k==2 with
 |true =>
  simp only[cond_true]
  cases e.op==wNOT<;>cases e.op==[45]<;>cases eqV4 e.vk e.vn e.vc e.vs 0 0 0 []<;>cases e.tb==[]<;>cases e.nm==[]<;>cases e.nt==false<;>cases eqT2 e.tk e.ts 0 0<;>rfl
 |false =>
 simp only[cond_false]
 cases e.k==3 with
 |true =>
  simp only[cond_true]
  cases conA wsBin e.op<;>cases eqV4 e.vk e.vn e.vc e.vs 0 0 0 []<;>cases e.tb==[]<;>cases e.nm==[]<;>cases e.nt==false<;>cases eqT2 e.tk e.ts 0 0<;>rfl
 |false =>
 simp only[cond_false]
 cases e.k==4 with
 |true =>
  simp only[cond_true]
  cases e.op==[]<;>cases eqV4 e.vk e.vn e.vc e.vs 0 0 0 []<;>cases e.tb==[]<;>cases e.nm==[]<;>cases eqT2 e.tk e.ts 0 0<;>rfl
 |false =>
 simp only[cond_false]
 cases e.k==5 with
 |true =>
  simp only[cond_true]
  cases conA wsCall e.op<;>cases eqV4 e.vk e.vn e.vc e.vs 0 0 0 []<;>cases e.tb==[]<;>cases e.nm==[]<;>cases e.nt==false<;>cases eqT2 e.tk e.ts 0 0<;>rfl
 |false =>
 simp only[cond_false]
 cases e.k==6 with
 |true =>
  simp only[cond_true]
  cases tyB e.tk e.ts<;>cases e.op==[]<;>cases eqV4 e.vk e.vn e.vc e.vs 0 0 0 []<;>cases e.tb==[]<;>cases e.nm==[]<;>cases e.nt==false<;>rfl
 |false=>rfl
theorem kids_eq (e:XR):(let z:=some (PV.bool ((e.kn:Int)==0))
     let o:=some (PV.bool ((e.kn:Int)==1))
     let B:=bif e.k==3 then some (PV.bool ((e.kn:Int)==2)) else bif e.k==5 then some (PV.bool (bif (e.kn:Int)==1 then true else bif (e.kn:Int)==0 then e.op==wCOUNT else false)) else o
     bif e.k==0 then (bif e.k==0 then z else B) else bif e.k==1 then z else B)=some (.bool (pKid e.k e.op e.kn)):=by
  dsimp only
  unfold pKid
  cases e.k==0<;>cases e.k==1<;>cases e.k==3<;>cases e.k==5<;>cases (e.kn:Int)==1<;>cases (e.kn:Int)==0<;>cases e.op==wCOUNT<;>rfl
def rightG:Nat→TX→Bool
 |0,_=>false
 |n+1,.mk k op vk vn vc vs tb nm nt tk ts kids=>okB ⟨k,0,op,vk,vn,vc,vs,tb,nm,nt,tk,ts,some true,kids.length,[]⟩&&kids.all (rightG n)
theorem er_inv {d:Nat}{x:XR}{t:TX}(h:er (d+1) x=some t):∃ l ts,smX x=true∧x.kn=l.length∧x.kc=l.flatMap XR.cells∧mapO (er d) l=some ts∧t=.mk x.k x.op x.vk x.vn x.vc x.vs x.tb x.nm x.nt x.tk x.ts ts∧ts.length=l.length:=by
 rw[er] at h
 obtain⟨h0,h⟩:=bif_inv h
 obtain⟨l,h1,h⟩:=Option.bind_eq_some_iff.1 h
 obtain⟨ts,h2,h3⟩:=Option.map_eq_some_iff.1 h
 obtain⟨e1,e2⟩:=decG_inv xrG_inv h1
 exact⟨l,ts,h0,e1,e2,h2,h3.symm,mapO_len h2⟩
theorem rightG_node {n:Nat}{x:XR}{ts:List TX}(h:x.kn=ts.length):rightG (n+1) (.mk x.k x.op x.vk x.vn x.vc x.vs x.tb x.nm x.nt x.tk x.ts ts)=(okB x&&ts.all (rightG n)):=by
 rw[rightG,← h]
 rfl
def rgD (D:Nat)(x:XR)(d:Int):Option Bool:=(er D x).bind fun t=>bif decide (0≤d)&&decide (d≤60) then some (rightG (60-d).toNat t) else none
theorem rgD_kids {D:Nat}{l:List XR}{ts:List TX}(h:mapO (er D) l=some ts){d:Int}(h0:0≤d)(h1:d<60){n:Nat}(hn:(n:Int)=59-d):∀ (i:Nat) (x:XR),l[i]? = some x→∃ t,ts[i]? = some t∧rgD D x (d+1)=some (rightG n t):=fun i x hx=>by
 obtain⟨t,h2,h3⟩:=mapO_get h i x hx
 refine⟨t,h2,?_⟩
 unfold rgD
 rw[h3,Option.bind_some,cond_t (by simp only[Bool.and_eq_true,decide_eq_true_eq];omega),show (60-(d+1)).toNat=n by omega]
section
variable {NG:Nat} {W:World→Prop}
theorem none_tXdB {f:FuncId}{g:XR→Int→Option Bool}(hg:∀ x d,g x d=none):FOK NG W f (tXdB g) where
 nat:=tXdB_nat _
 call:=fun M xs vs r hW hng hgo hr h=>by
  exfalso
  simp only[tXdB] at h
  split at h
  ·obtain⟨e,-,h⟩:=onXR_inv h
   rw[hg] at h
   cases h
  ·cases h
end
theorem ok_typS:FOK NGs Ws 82 (tTb fun a b=>some (tyB a b)):=fok_wk (fok_s ok_typ) (tTb_nat _) rfl fun xs r h=>by
 simp only[tTb] at h
 split at h
 ·simp only[p_typ]
  exact h
 ·cases h
theorem ok_sNm:FOK NGs Ws 136 (tWb fun s=>some (nameV s)):=fok_wk ok_sName (tWb_nat _) rfl fun xs r h=>by
 simp only[tWb] at h
 split at h
 ·simp only[tNm]
  exact h
 ·cases h
theorem ok_bin:FOK NGs Ws 186 (tWb fun s=>some (conA wsBin s)):=fok_tWb woks (allOK_cons (ok_con woks) allOK_nil) allH_nil (h:=hh0) Tryz.func186 rfl (by decide) fun s r h=>⟨0,(binary_raw conN 0 s).trans (by injection h with h;rw[← h];rfl)⟩
theorem ok_scall:FOK NGs Ws 187 (tWb fun s=>some (conA wsCall s)):=fok_tWb woks (allOK_cons (ok_con woks) allOK_nil) allH_nil (h:=hh0) Tryz.func187 rfl (by decide) fun s r h=>⟨0,(scall_raw conN 0 s).trans (by injection h with h;rw[← h];rfl)⟩
theorem ok_alike:FOK NGs Ws 28 (tXX fun e d=>some (alikeB e d)):=fok_tXX woks allOK_nil allH_nil (h:=hh0) Tryz.func28 rfl (by decide) fun e d r h=>⟨0,(alike_raw 0 e d).trans (by injection h with h;rw[← h])⟩
theorem ok_lit18:FOK NGs Ws 185 (tvB FOwD.fl):=fok_tvB woks (allOK_cons ok_rtD allOK_nil) allH_nil (h:=hh0) Tryz.func185 rfl (by decide) fun a n c s r h=>⟨0,(lit18_raw rtD 0 a n c s).trans (by
 have h:(bif decide (s.length≤1000000) then some (litB a n c s) else none)=some r:=h
 obtain⟨h1,h2⟩:=bif_inv h
 injection h2 with h2
 rw[← h2]
 unfold rtD litB
 rw[h1]
 rfl)⟩
theorem ok_own:FOK NGs Ws 103 (tXb fun e=>bif smX e then some (pOwn e) else none):=fok_tXb woks (allOK_cons ok_lit18 (allOK_cons ok_sNm (allOK_cons ok_bin (allOK_cons ok_scall (allOK_cons ok_typS (allOK_cons ok_alike allOK_nil)))))) allH_nil (h:=hh0) Tryz.func103 rfl (by decide) fun e r h=>⟨0,(own_raw FOwD 0 e).trans (by
 obtain⟨h1,h2⟩:=bif_inv h
 injection h2 with h2
 rw[own_eq h1,h2])⟩
theorem ok_kids18:FOK NGs Ws 104 (tXb fun e=>some (pKid e.k e.op e.kn)):=fok_tXb woks allOK_nil allH_nil (h:=hh0) Tryz.func104 rfl (by decide) fun e r h=>⟨0,(kids18_raw 0 e).trans ((kids_eq e).trans (by injection h with h;rw[h]))⟩
theorem tR1_nat (f:XR→Int→Option Bool):(tR1 f).nat:=by
 intro R bs xs k
 simp only[tR1]
 split
 ·simp only[onXR_bind,Option.bind_assoc,Option.bind_some]
 ·rfl
theorem tIx18_nat (f:Nat→List PV→Int→Option Int):(tIx18 f).nat:=by
 intro R bs xs k
 simp only[tIx18]
 split
 ·simp only[iteo_bind,Option.bind_assoc,Option.bind_some]
 ·rfl
theorem tRB'_nat (f:Nat→List PV→Int→Option Bool):(tRB' f).nat:=by
 intro R bs xs k
 simp only[tRB']
 split
 ·simp only[iteo_bind,Option.bind_assoc,Option.bind_some]
 ·rfl
def r1D (D:Nat)(x:XR)(d:Int):Option Bool:=bif decide (0≤d)&&decide (d<60) then (rgD D x (d+1)).map not else none
def fdB:List Bool→Int→Int
 |[],_=>-1
 |b::l,i=>bif b then i else fdB l (i+1)
theorem fdB_any:∀ (l:List Bool) (i:Int),0≤i→decide (0≤fdB l i)=l.any id
 |[],i,_=>rfl
 |b::l,i,h=>by
  rw[fdB,List.any_cons]
  cases b with
  |true=>exact decide_eq_true h
  |false=>exact fdB_any l (i+1) (by omega)
def ixD (D:Nat)(n:Nat)(c:List PV)(d:Int):Option Int:=(decG 13 xrG n c).bind fun l=>bif decide (l.length≤1000000) then (mapO (fun x=>r1D D x d) l).map fun bs=>fdB bs 0 else none
def cfD (D:Nat)(n:Nat)(c:List PV)(d:Int):Option Bool:=(decG 13 xrG n c).bind fun l=>bif decide (l.length≤1000000) then (mapO (fun x=>r1D D x d) l).map fun bs=>bs.any id else none
theorem ok_r1 {D:Nat}(hr:FOK NGs Ws 54 (tXdB (rgD D))):HOK NGs Ws 105 (tR1 (r1D D)) :=
 hok woks (allOK_cons hr allOK_nil) allH_nil allI_nil (h:=hh0) Tryz.func105 rfl (by decide) (tR1_nat _) fun bs xs r h=>by
  simp only[tR1] at h
  split at h
  ·obtain⟨e,he,h2⟩:=onXR_inv h
   subst he
   obtain⟨b,hb,h3⟩:=Option.bind_eq_some_iff.1 h2
   unfold r1D at hb
   obtain⟨h4,hb⟩:=bif_inv hb
   obtain⟨q,hq,rfl⟩:=Option.map_eq_some_iff.1 hb
   simp only[Bool.and_eq_true,decide_eq_true_eq] at h4
   refine⟨0,(right1_raw (rgD D) 0 e _ _).trans ?_⟩
   rw[wrapI_of (by omega) (by omega),hq]
   exact h3
  ·cases h
theorem ix_loop {R:Type}(f:XR→Int→Option Bool)(fu:Nat)(nl:Option Bool)(l:List XR)(hl:l.length≤1000000)(d:Int){bs:List Bool}(hb:mapO (fun x=>f x d) l=some bs)(K:List (List PV)→PV→Option R):∀ (k i m:Nat),i+k=l.length→k<m →
  ixL18 f fu K m (frIx18 nl l.length (l.flatMap XR.cells) d (i:Int))=K [[.int .i64 d]] (.int .i64 (fdB (bs.drop i) i))
 |k,i,0,_,h=>by omega
 |0,i,m+1,hi,_=>by
  unfold ixL18
  rw[loopK_succ,ix18_step,cond_f (decide_eq_false (by omega)),List.drop_of_length_le (by rw[mapO_len hb];omega)]
  rfl
 |k+1,i,m+1,hi,hm=>by
  have hc:=List.getElem?_eq_getElem (l:=l) (i:=i) (by omega)
  generalize l[i]=x at hc
  obtain⟨b,h2,h3⟩:=mapO_get hb i x hc
  have hd:bs.drop i=b::bs.drop (i+1):=by
   have:=(List.getElem?_eq_some_iff.1 h2)
   rw[List.drop_eq_getElem_cons this.1,this.2]
  have ih:=ix_loop f fu nl l hl d hb K k (i+1) m (by omega) (by omega)
  unfold ixL18 at ih ⊢
  rw[loopK_succ,ix18_step,cond_t (decide_eq_true (by omega)),xAt_eq hc,h3,Option.bind_some,hd,fdB]
  cases b with
  |true=>rfl
  |false =>
   rw[cond_false,cond_false,wrapI_of (by omega) (by omega),show (i:Int)+1=((i+1:Nat):Int) by omega]
   exact ih
theorem ok_ix18 {D:Nat}(hr:FOK NGs Ws 54 (tXdB (rgD D))):HOK NGs Ws 156 (tIx18 (ixD D)) :=
 hok woks allOK_nil (allH_cons (ok_r1 hr) allH_nil) allI_nil (h:=hIx18) Tryz.func156 rfl (by decide) (tIx18_nat _) fun bs xs r h=>by
  simp only[tIx18] at h
  split at h
  ·obtain⟨hz,h1⟩:=ite_inv h
   obtain⟨hq,h2⟩:=ite_inv h1
   subst hz hq
   obtain⟨q,hq,h3⟩:=Option.bind_eq_some_iff.1 h2
   unfold ixD at hq
   obtain⟨l,hl,hq⟩:=Option.bind_eq_some_iff.1 hq
   obtain⟨hle,hq⟩:=bif_inv hq
   obtain⟨b,hb,rfl⟩:=Option.map_eq_some_iff.1 hq
   obtain⟨e1,e2⟩:=decG_inv xrG_inv hl
   subst e1 e2
   refine⟨l.length+1,(ix18_raw (r1D D) _ _ _ _ _ _).trans (Eq.trans ?_ h3)⟩
   exact ix_loop (r1D D) _ _ l (of_decide_eq_true hle) _ hb _ l.length 0 _ (by omega) (by omega)
  ·cases h
theorem ok_cf18 {D:Nat}(hr:FOK NGs Ws 54 (tXdB (rgD D))):HOK NGs Ws 75 (tRB' (cfD D)) :=
 hok woks allOK_nil (allH_cons (ok_ix18 hr) allH_nil) allI_nil (h:=hh0) Tryz.func75 rfl (by decide) (tRB'_nat _) fun bs xs r h=>by
  simp only[tRB'] at h
  split at h
  ·obtain⟨hz,h1⟩:=ite_inv h
   obtain⟨hq,h2⟩:=ite_inv h1
   subst hz hq
   obtain⟨q,hq,h3⟩:=Option.bind_eq_some_iff.1 h2
   unfold cfD at hq
   obtain⟨l,hl,hq⟩:=Option.bind_eq_some_iff.1 hq
   obtain⟨hle,hq⟩:=bif_inv hq
   obtain⟨b,hb,rfl⟩:=Option.map_eq_some_iff.1 hq
   refine⟨0,(rcont_raw (ixD D) _ _ _ _ _ _).trans (Eq.trans ?_ h3)⟩
   unfold ixD
   rw[hl,Option.bind_some,hle,cond_true,hb,Option.map_some,Option.bind_some,fdB_any _ _ (Int.le_refl _)]
  ·cases h
theorem all_any (l:List TX)(p:TX→Bool):l.all p=!(l.map fun t=>!p t).any id:=by
 induction l with
 |nil=>rfl
 |cons a l ih=>rw[List.all_cons,List.map_cons,List.any_cons,ih];cases p a<;>rfl
theorem mapO_of {α β:Type}{f:α→Option β}{l:List α}{r:List β}(hl:r.length=l.length)(h:∀ (i:Nat) (x:α),l[i]? = some x→∃ y,r[i]? = some y∧f x=some y):mapO f l=some r:=by
 induction l generalizing r with
 |nil=>cases r with
  |nil=>rfl
  |cons a r=>simp at hl
 |cons a l ih=>cases r with
  |nil=>simp at hl
  |cons b r =>
   obtain⟨y,h1,h2⟩:=h 0 a rfl
   simp at h1
   subst h1
   rw[mapO_cons,h2,Option.bind_some,ih (by simpa using hl) (fun i x hx=>h (i+1) x (by simpa using hx))]
   rfl
theorem ok_right:∀ D,FOK NGs Ws 54 (tXdB (rgD D))
 |0=>none_tXdB fun _ _=>rfl
 |D+1 =>
  have ih:=ok_right D
  fok_tXdB woks (allOK_cons ok_own (allOK_cons ok_kids18 allOK_nil)) (allH_cons (ok_cf18 ih) allH_nil) (h:=hh0) Tryz.func54 rfl (by decide) fun e d r h=>⟨0,(right18_raw _ _ _ 0 e d).trans (by
   unfold rgD at h
   obtain⟨t,ht,h⟩:=Option.bind_eq_some_iff.1 h
   obtain⟨hd,h⟩:=bif_inv h
   injection h with h
   simp only[Bool.and_eq_true,decide_eq_true_eq] at hd
   obtain⟨l,ts,h0,h1,h2,h3,rfl,h4⟩:=er_inv ht
   subst h
   by_cases h60:d=60
   ·subst h60
    rfl
   ·obtain⟨n,hn⟩:∃ n:Nat,(n:Int)=59-d:=⟨(59-d).toNat,by omega⟩
    rw[show (60-d).toNat=n+1 by omega,rightG_node (by rw[h1,h4]),decide_eq_false (by omega),Bool.not_false,cond_true]
    rw[h0,cond_true,Option.bind_some,Option.bind_some,okB]
    cases pOwn e with
    |false=>rfl
    |true =>
     cases pKid e.k e.op e.kn with
     |false=>rfl
     |true =>
      simp only[Bool.not_true,Bool.not_false,cond_true,cond_false,Bool.true_and]
      have hb:mapO (fun x=>r1D D x d) l=some (ts.map fun t=>!rightG n t):=mapO_of (by simp[h4]) fun i x hx=>by
       obtain⟨t,g1,g2⟩:=rgD_kids h3 hd.1 (by omega) hn i x hx
       refine⟨!rightG n t,by rw[List.getElem?_map,g1];rfl,?_⟩
       unfold r1D
       rw[cond_t (by simp only[Bool.and_eq_true,decide_eq_true_eq];omega),g2]
       rfl
      have hl:decG 13 xrG e.kn e.kc=some l:=by rw[h1,h2];exact decG_of xr_len xrG_of l
      unfold cfD
      have hk:e.kn≤1000000:=by
       unfold smX at h0
       simp only[Bool.and_eq_true,decide_eq_true_eq] at h0
       exact h0.2.2.2
      rw[hl,Option.bind_some,cond_t (decide_eq_true (by omega)),hb,Option.map_some,Option.bind_some,all_any])⟩
theorem all_map (l:List TX)(p:TX→Bool):(l.map p).all id=l.all p:=by
 induction l with
 |nil=>rfl
 |cons a l ih=>rw[List.map_cons,List.all_cons,List.all_cons,ih];rfl
mutual
def sameT:TX→TX→Bool
 | .mk k op vk vn vc vs tb nm nt tk ts ks,.mk k' op' vk' vn' vc' vs' tb' nm' nt' tk' ts' ks' =>
  alikeB ⟨k,0,op,vk,vn,vc,vs,tb,nm,nt,tk,ts,none,0,[]⟩ ⟨k',0,op',vk',vn',vc',vs',tb',nm',nt',tk',ts',none,0,[]⟩&&sameTs ks ks'
def sameTs:List TX→List TX→Bool
 |[],[]=>true
 |t::ts,u::us=>sameT t u&&sameTs ts us
 |_,_=>false
end
theorem alikeB_self (e:XR):alikeB e e=true:=by simp[alikeB,eqV4_self,eqT2_self]
mutual
theorem sameT_self:∀ t:TX,sameT t t=true
 | .mk k op vk vn vc vs tb nm nt tk ts ks=>by rw[sameT,alikeB_self,sameTs_self ks];rfl
theorem sameTs_self:∀ ts:List TX,sameTs ts ts=true
 |[]=>by rw[sameTs]
 |t::ts=>by rw[sameTs,sameT_self t,sameTs_self ts];rfl
end
theorem sameTs_len:∀ {ts us:List TX},ts.length≠us.length→sameTs ts us=false
 |[],[],h=>absurd rfl h
 |[],_::_,_=>by rw[sameTs];all_goals simp
 |_::_,[],_=>by rw[sameTs];all_goals simp
 |t::ts,u::us,h=>by rw[sameTs,sameTs_len (by simpa using h),Bool.and_false]
def smD (D:Nat)(x y:XR):Option Bool:=(er D x).bind fun t=>(er D y).bind fun u=>some (sameT t u)
def smsD (D:Nat)(n:Nat)(c:List PV)(m:Nat)(d:List PV):Option Bool :=
 (decG 13 xrG n c).bind fun l=>(decG 13 xrG m d).bind fun l'=>bif decide (l.length≤1000000)&&decide (l'.length≤1000000) then (mapO (er D) l).bind fun ts=>(mapO (er D) l').bind fun us=>some (sameTs ts us) else none
section
variable {NG:Nat} {W:World→Prop}
theorem none_tXX {f:FuncId}{g:XR→XR→Option Bool}(hg:∀ x d,g x d=none):FOK NG W f (tXX g) where
 nat:=tXX_nat _
 call:=fun M xs vs r hW hng hgo hr h=>by
  exfalso
  simp only[tXX] at h
  split at h
  ·obtain⟨e,-,h⟩:=onXR_inv h
   obtain⟨d,-,h⟩:=onXR_inv h
   rw[hg] at h
   cases h
  ·cases h
end
theorem drop_cons_of {α:Type}{l:List α}{i:Nat}{x:α}(h:l[i]? = some x):l.drop i=x::l.drop (i+1):=by
 have:=(List.getElem?_eq_some_iff.1 h)
 rw[List.drop_eq_getElem_cons this.1,this.2]
theorem eq_loop (D fu:Nat)(nl ml:Option Bool)(l l':List XR)(hl:l.length≤1000000)(hll:l.length=l'.length){ts us:List TX}(h1:mapO (er D) l=some ts)(h2:mapO (er D) l'=some us):∀ (k i m:Nat),i+k=l.length→k<m →
  eqL (smD D) fu m (frEq nl l.length (l.flatMap XR.cells) ml l'.length (l'.flatMap XR.cells) (i:Int))=some (.bool (sameTs (ts.drop i) (us.drop i)))
 |k,i,0,_,h=>by omega
 |0,i,m+1,hi,_=>by
  unfold eqL
  rw[loopF_succ,eq_step,cond_f (decide_eq_false (by omega)),List.drop_of_length_le (by rw[mapO_len h1];omega),List.drop_of_length_le (by rw[mapO_len h2];omega),sameTs]
 |k+1,i,m+1,hi,hm=>by
  have hc:=List.getElem?_eq_getElem (l:=l) (i:=i) (by omega)
  have hc':=List.getElem?_eq_getElem (l:=l') (i:=i) (by omega)
  generalize l[i]=x at hc
  generalize l'[i]=y at hc'
  obtain⟨t,h3,h4⟩:=mapO_get h1 i x hc
  obtain⟨u,h5,h6⟩:=mapO_get h2 i y hc'
  have ih:=eq_loop D fu nl ml l l' hl hll h1 h2 k (i+1) m (by omega) (by omega)
  unfold eqL at ih ⊢
  rw[loopF_succ,eq_step,cond_t (decide_eq_true (by omega)),xAt_eq hc,xAt_eq hc',smD,h4,Option.bind_some,h6,Option.bind_some,Option.bind_some,drop_cons_of h3,drop_cons_of h5,sameTs]
  cases sameT t u with
  |false=>rfl
  |true =>
   rw[Bool.not_true,cond_false,wrapI_of (by omega) (by omega),show (i:Int)+1=((i+1:Nat):Int) by omega,Bool.true_and]
   exact ih
theorem neI {a b:Nat}(h:a≠b):((a:Int) != (b:Int))=true:=bne_iff_ne.2 (by omega)
theorem eqI {a b:Nat}(h:a=b):((a:Int) != (b:Int))=false:=by subst h;simp
theorem ok_eqf {D:Nat}(hr:FOK NGs Ws 12 (tXX (smD D))):FOK NGs Ws 63 (tKKf (smsD D)) :=
 fok_tKKf woks (allOK_cons hr allOK_nil) allH_nil (h:=hEq) Tryz.func63 rfl (by decide) fun nl n c ml m d r h=>by
  unfold smsD at h
  obtain⟨l,hl,h⟩:=Option.bind_eq_some_iff.1 h
  obtain⟨l',hl',h⟩:=Option.bind_eq_some_iff.1 h
  obtain⟨hg,h⟩:=bif_inv h
  obtain⟨ts,h1,h⟩:=Option.bind_eq_some_iff.1 h
  obtain⟨us,h2,h⟩:=Option.bind_eq_some_iff.1 h
  injection h with h
  subst h
  simp only[Bool.and_eq_true,decide_eq_true_eq] at hg
  obtain⟨rfl,rfl⟩:=decG_inv xrG_inv hl
  obtain⟨rfl,rfl⟩:=decG_inv xrG_inv hl'
  refine⟨l.length+1,(eq_raw (smD D) _ _ _ _ _ _ _).trans ?_⟩
  by_cases hne:l.length=l'.length
  ·rw[eqI hne,cond_false]
   exact eq_loop D _ _ _ l l' hg.1 hne h1 h2 l.length 0 _ (by omega) (by omega)
  ·rw[neI hne,cond_true,sameTs_len (by rw[mapO_len h1,mapO_len h2];exact hne)]
theorem ok_sames {D:Nat}(hr:FOK NGs Ws 12 (tXX (smD D))):FOK NGs Ws 29 (tKK (smsD D)) :=
 fok_tKK woks (allOK_cons (ok_eqf hr) allOK_nil) allH_nil (h:=hh0) Tryz.func29 rfl (by decide) fun nl n c ml m d r h=>⟨0,(sames_raw (smsD D) 0 nl n c ml m d).trans (by rw[h];rfl)⟩
theorem smX_kn {x:XR}(h:smX x=true):x.kn≤1000000:=by
 unfold smX at h
 simp only[Bool.and_eq_true,decide_eq_true_eq] at h
 exact h.2.2.2
theorem kn_dec {x:XR}{l:List XR}(h1:x.kn=l.length)(h2:x.kc=l.flatMap XR.cells):decG 13 xrG x.kn x.kc=some l:=by rw[h1,h2];exact decG_of xr_len xrG_of l
theorem ok_same:∀ D,FOK NGs Ws 12 (tXX (smD D))
 |0=>none_tXX fun _ _=>rfl
 |D+1 =>
  fok_tXX woks (allOK_cons ok_alike (allOK_cons (ok_sames (ok_same D)) allOK_nil)) allH_nil (h:=hh0) Tryz.func12 rfl (by decide) fun e d r h=>⟨0,(same_raw _ (smsD D) 0 e d).trans (by
   unfold smD at h
   obtain⟨t,ht,h⟩:=Option.bind_eq_some_iff.1 h
   obtain⟨u,hu,h⟩:=Option.bind_eq_some_iff.1 h
   injection h with h
   obtain⟨l,ts,h0,h1,h2,h3,rfl,h4⟩:=er_inv ht
   obtain⟨l',us,g0,g1,g2,g3,rfl,g4⟩:=er_inv hu
   subst h
   have hk:=smX_kn h0
   have hk':=smX_kn g0
   have e1:smsD D e.kn e.kc d.kn d.kc=some (sameTs ts us):=by
    unfold smsD
    rw[kn_dec h1 h2,Option.bind_some,kn_dec g1 g2,Option.bind_some,cond_t (by simp only[Bool.and_eq_true,decide_eq_true_eq];omega),h3,Option.bind_some,g3]
    rfl
   rw[sameT,Option.bind_some,e1]
   show (bif alikeB e d then _ else _)=some (PV.bool (alikeB e d&&sameTs ts us))
   cases alikeB e d<;>rfl)⟩
def ratP (s:RS):Option (Int×RS):=bif decide (s.i<(s.n:Int)) then chk s.inB (tkI s.cs s.i 1 fun a=>some (a,s)) else some (s.e,s)
def rfaultP (s:RS)(a:Int):Option RS:=bif decide (s.b<0) then some ⟨s.nl,s.n,s.cs,s.i,s.e,s.o,a⟩ else some s
def rseesP (s:RS)(w:List UInt8):Option (Bool×RS) :=
 liveK s (chk s.inB (tkI s.cs s.i 0 fun k=>bif !(k==1) then chk s.inB (tkI s.cs s.i 0 fun k=>bif k==3 then chk s.inB (tkS s.cs s.i 2 fun t=>some (t==w,s)) else some (false,s)) else chk s.inB (tkS s.cs s.i 2 fun t=>some (t==w,s)))) (some (false,s))
def reatsP (s:RS)(w:List UInt8):Option (Bool×RS):=(rseesP s w).bind fun r=>bif r.1 then some (true,r.2.next) else some (false,r.2)
def RS.back (s:RS):Int:=IntKind.i64.wrap (IntKind.i64.wrap (s.i+1)-1)
def RS.backB (s:RS):Bool:=decide (0≤s.back)&&decide (s.back<(s.n:Int))
def rnameP (s:RS):Option (List UInt8×RS) :=
 liveK s (chk s.inB (tkI s.cs s.i 0 fun k=>bif k==0 then chk s.backB (tkS s.cs s.back 2 fun t=>some (t,s.next)) else (ratP s).bind fun a=>(rfaultP a.2 a.1).bind fun s=>some ([],s))) ((ratP s).bind fun a=>(rfaultP a.2 a.1).bind fun s=>some ([],s))
def rnumP (s:RS)(m:Int):Option (Int×RS) :=
 let A:Option (Int×RS):=(ratP s).bind fun a=>(rfaultP a.2 a.1).bind fun s=>some (0,s)
 liveK s (chk s.inB (tkI s.cs s.i 0 fun k=>bif k==2 then chk s.inB (tkI s.cs s.i 3 fun vk=>bif vk==2 then chk s.inB (tkJ s.cs s.i 1 fun vn=>bif decide (vn≤m) then chk s.backB (tkJ s.cs s.back 1 fun t=>some (t,s.next)) else A) else A) else A)) A
def rdeepP (s:RS):Option (Bool×RS):=bif s.o==20 then (ratP s).bind fun a=>(rfaultP a.2 a.1).bind fun s=>some (false,s) else some (decide (s.b<0),s.open)
def powerP (w:List UInt8):Option Int:=bif w==[79,82] then some 0 else bif w==[65,78,68] then some 1 else orK w (some 3) (orK w (some 4) (orK w (some 5) (some (-1)) [[42],[47],[37]]) [[43],[45]]) [[61],[60,62],[60],[60,61],[62],[62,61]]
def rmustL:List (List UInt8)→RS→Option RS
 |[],s=>some s
 |w::ws,s=>(reatsP s w).bind fun r=>bif !r.1 then (ratP r.2).bind fun a=>(rfaultP a.2 a.1).bind fun s=>rmustL ws s else rmustL ws r.2
def rmustP (s:RS)(n:Nat)(ws:List PV):Option RS:=(decG 1 stG n ws).bind fun l=>bif decide (l.length≤1000000) then rmustL l s else none
def rlitP (s:RS):Option (VR×RS) :=
 let A:Option (VR×RS):=(reatsP s [78,85,76,76]).bind fun r=>bif r.1 then some (⟨0,0,0,[],true⟩,r.2) else (reatsP r.2 [84,82,85,69]).bind fun r=>bif r.1 then some (⟨1,1,0,[],true⟩,r.2) else (reatsP r.2 [70,65,76,83,69]).bind fun r=>bif r.1 then some (⟨1,0,0,[],true⟩,r.2) else some (⟨0,0,0,[],false⟩,r.2)
 liveK s (chk s.inB (tkI s.cs s.i 0 fun k=>bif k==2 then chk s.backB (tkV s.cs s.back fun vk vn vc vs=>some (⟨vk,vn,vc,vs,true⟩,s.next)) else A)) A
def ropenP (s:RS):Option (Bool×RS):=(rseesP s [40]).bind fun r=>bif !r.1 then (ratP r.2).bind fun a=>(rfaultP a.2 a.1).bind fun s=>some (false,s) else (rdeepP r.2).bind fun d=>bif !d.1 then some (false,d.2) else some (true,d.2.next)
def rshutP (s:RS):Option RS:=(rmustP s 1 [.str [41]]).bind fun s=>some s.shut
def rtypedP (s:RS):Option ((Int×Int)×RS) :=
 (reatsP s [66,79,79,76]).bind fun r=>bif !r.1 then (reatsP r.2 [73,78,84]).bind fun r=>bif !r.1 then (reatsP r.2 [68,69,67,73,77,65,76]).bind fun r=>bif !r.1 then (reatsP r.2 [84,69,88,84]).bind fun r=>bif !r.1 then (reatsP r.2 [66,89,84,69,83]).bind fun r=>bif !r.1 then (ratP r.2).bind fun a=>(rfaultP a.2 a.1).bind fun s=>some ((0,0),s)
   else tyK rmustP rnumP 4 r.2 fun s a b=>some ((a,b),s) else tyK rmustP rnumP 3 r.2 fun s a b=>some ((a,b),s) else tyK rmustP rnumP 2 r.2 fun s a b=>some ((a,b),s) else tyK rmustP rnumP 1 r.2 fun s a b=>some ((a,b),s) else tyK rmustP rnumP 0 r.2 fun s a b=>some ((a,b),s)
section
variable {NG:Nat} {W:World→Prop} (hW:WOK NG W)
include hW
end
structure RF where
 expr:RS→Int→Option (XR×RS)
 rest:RS→XR→Int→Int→Option (XR×RS)
 fact:RS→Option (XR×RS)
 atom:RS→Option (XR×RS)
def stopB (t:TR)(p l h:Int):Bool:=bif (bif (bif (bif t.k != 1 then t.k != 3 else false) then true else decide (p<l)) then true else decide (h<p)) then true else (bif p==3 then h==3 else false)
def reLP (X:RS→Int→Option (XR×RS)):Nat→RS→XR→Int→Int→Option (XR×RS)
 |0,_,_,_,_=>none
 |m+1,s,e,l,h=>liveK s ((ratP s).bind fun a=>(let N:RS→Option (XR×RS):=fun s=>chk s.inB (tkT s.cs s.i fun t=>(powerP t.t).bind fun p =>
    bif stopB t p l h then some (e,s) else (X s.next (IntKind.i64.wrap (p+1))).bind fun y=>reLP X m y.2 (binX a.1 t.t e y.1) l p)
    bif (bif decide (l≤3) then decide (3<h) else false) then (rseesP a.2 [73,83]).bind fun r=>bif r.1 then (reatsP r.2.next [78,79,84]).bind fun n=>(rmustP n.2 1 [.str [78,85,76,76]]).bind fun s=>reLP X m s (nullX a.1 n.1 e) l 3 else N r.2 else N a.2))
   (some (e,s))
def fAtOf (P:RF):FAt:=⟨ratP,rseesP,reatsP,ropenP,P.expr,rshutP,rmustP,rtypedP,rlitP,rnameP⟩
def rfStep (P:RF):RF where
 rest:=fun s e l h=>reLP P.expr (s.n+2) s e l h
 fact:=fun s=>(ratP s).bind fun a=>(rseesP a.2 [45]).bind fun r=>bif !r.1 then (P.atom r.2).bind fun e=>some (e.1,e.2) else (rdeepP r.2).bind fun d=>bif !d.1 then some (XR.zero,d.2) else (P.fact d.2.next).bind fun e=>some (unX a.1 [45] e.1,e.2.shut)
 expr:=fun s l=>(ratP s).bind fun a=>(let B:RS→Option (XR×RS):=fun s=>(P.fact s).bind fun e=>(P.rest e.2 e.1 l 6).bind fun e=>some (e.1,e.2)
   bif decide (l≤2) then (rseesP a.2 [78,79,84]).bind fun r=>bif r.1 then (rdeepP r.2).bind fun d=>bif !d.1 then some (XR.zero,d.2) else (P.expr d.2.next 2).bind fun e=>(P.rest e.2.shut (unX a.1 [78,79,84] e.1) l 2).bind fun e=>some (e.1,e.2) else B r.2 else B a.2)
 atom:=fun s=>(let F:=fAtOf P
  let KX:XR→RS→Option (XR×RS):=fun e s=>some (e,s)
  (F.fa s).bind fun a=>(F.fs a.2 [40]).bind fun r=>bif r.1 then (F.fo r.2).bind fun o=>bif !o.1 then KX XR.zero o.2 else (F.fx o.2 0).bind fun e=>(F.fh e.2).bind fun s=>KX e.1 s else
  (F.fe r.2 [67,65,83,84]).bind fun r=>bif r.1 then (F.fo r.2).bind fun o=>bif !o.1 then KX XR.zero o.2 else (F.fx o.2 0).bind fun e=>(F.fm e.2 1 [.str [65,83]]).bind fun s=>(F.fy s).bind fun y=>(F.fh y.2).bind fun s=>KX (castX a.1 y.1.1 y.1.2 e.1) s else
  (F.fe r.2 [67,79,85,78,84]).bind fun r=>bif !r.1 then (F.fe r.2 [83,85,77]).bind fun r=>bif !r.1 then (F.fe r.2 [77,73,78]).bind fun r=>bif !r.1 then (F.fe r.2 [77,65,88]).bind fun r=>bif !r.1 then
   (F.fl r.2).bind fun v=>bif v.1.ok then KX (litX a.1 v.1.vk v.1.vn v.1.vc v.1.vs) v.2 else (F.fn v.2).bind fun n=>(F.fe n.2 [46]).bind fun r=>bif r.1 then (F.fn r.2).bind fun m=>KX (colX a.1 n.1 m.1) m.2 else KX (colX a.1 [] n.1) r.2
   else raCall F a.1 [77,65,88] false r.2 KX else raCall F a.1 [77,73,78] false r.2 KX else raCall F a.1 [83,85,77] false r.2 KX else raCall F a.1 [67,79,85,78,84] true r.2 KX)
def rf0:RF:=⟨fun _ _=>none,fun _ _ _ _=>none,fun _=>none,fun _=>none⟩
def rfs:Nat→RF
 |0=>rf0
 |d+1=>rfStep (rfs d)
section
variable {NG:Nat} {W:World→Prop} (hW:WOK NG W)
include hW
end
section
variable (L:List TR) (nl:Option Bool) (e:Int)
def RX (i:Nat)(o b:Int):RS:=⟨nl,L.length,L.flatMap TR.cells,(i:Int),e,o,b⟩
def BadR {α:Type}(a:Int)(r:Option (α×RS)):Prop:=∃ x j o,j≤L.length∧r=some (x,RX L nl e j o a)
def SpecR {α:Type}(o:Int)(i:Nat)(g:Res α)(r:Option (α×RS)):Prop:=match g with
 | .bad a=>0≤a∧BadR L nl e a r
 | .ok x R=>∃ j,i≤j∧j≤L.length∧R=L.drop j∧r=some (x,RX L nl e j o (-1))
structure FSpecR {α:Type}(o:Int)(f:RS→Option (α×RS))(g:List TR→Res α):Prop where
 good:∀ i,i≤L.length→SpecR L nl e o i (g (L.drop i)) (f (RX L nl e i o (-1)))
 badd:∀ i o' a,i≤L.length→0≤a→BadR L nl e a (f (RX L nl e i o' a))
variable {L:List TR} {nl:Option Bool} {e:Int}
theorem BadR.bind {α β:Type}{a:Int}{r:Option (α×RS)}{k:α×RS→Option (β×RS)}(h:BadR L nl e a r)(hk:∀ x j o,j≤L.length→BadR L nl e a (k (x,RX L nl e j o a))):BadR L nl e a (r.bind k):=by
 obtain⟨x,j,o,hj,rfl⟩:=h
 exact hk x j o hj
theorem SpecR.bind {α β:Type}{o o':Int}{i:Nat}{g:Res α}{r:Option (α×RS)}{kg:α→List TR→Res β}{k:α×RS→Option (β×RS)}
  (h:SpecR L nl e o i g r) (hk:∀ x j,i≤j→j≤L.length→SpecR L nl e o' j (kg x (L.drop j)) (k (x,RX L nl e j o (-1)))) (hb:∀ x j o'' a,j≤L.length→0≤a→BadR L nl e a (k (x,RX L nl e j o'' a))):SpecR L nl e o' i (g.bind kg) (r.bind k):=by
 cases g with
 |bad a =>
  obtain⟨ha,x,j,o'',hj,rfl⟩:=h
  exact⟨ha,hb x j o'' a hj ha⟩
 |ok x R =>
  obtain⟨j,hij,hj,rfl,rfl⟩:=h
  have:=hk x j hij hj
  simp only[Res.bind,Option.bind_some]
  unfold SpecR at this ⊢
  split at this
  ·exact this
  ·obtain⟨j',h1,h2,h3,h4⟩:=this
   exact⟨j',Nat.le_trans hij h1,h2,h3,h4⟩
theorem drop_nil {i:Nat}(h:L.drop i=[]):¬ ((i:Int)<(L.length:Int)):=by
 have:=List.drop_eq_nil_iff.1 h
 omega
variable (he:0≤e) (hL:TOKs L)
include hL
include he
end
def gt (b:Bool)(f:XR→List TR→Res XR)(x:XR)(T:List TR):Res XR:=bif b then f x T else .ok x T
section
variable (e:Int) (low:Option GF)
end
section
variable {e:Int} {low:Option GF} {l h:Int} {n5 n4 n1 n0:Nat} {x:XR} {T:List TR}
end
section
variable {L:List TR} {nl:Option Bool} {e:Int} (he:0≤e) (hL:TOKs L)
include he hL
def LowR (L:List TR)(nl:Option Bool)(e o:Int)(low:Option GF)(D:Nat):Prop:=match low with
 |none=>o=20
 |some G=>0≤o∧o<20∧∀ d,D≤d→FSpecR L nl e (o+1) (fun s=>(rfs d).expr s 0) G.expr∧FSpecR L nl e (o+1) (fun s=>(rfs d).expr s 2) G.neg∧FSpecR L nl e (o+1) (rfs d).fact G.fact
end
section
variable {e:Int} {nl:Option Bool} {o:Int} {fF:List UInt8→Option (Option Bool × Nat × List PV)}
theorem bind_eta {α β:Type}{r:Option (α×β)}:(r.bind fun q=>some (q.1,q.2))=r:=by cases r<;>rfl
theorem open_g (h0:0≤o)(h1:o<20)(T:List TR):(PG e nl o T).open 1=PG e nl (o+1) T:=by
 unfold PS.open PG
 rw[wrapI_of (by simp only;omega) (by simp only;omega)]
theorem shut_g (h0:0≤o)(h1:o<20)(T:List TR):(PG e nl (o+1) T).shut 1=PG e nl o T:=by
 unfold PS.shut PG
 rw[show o+1-1=o by omega,wrapI_of (by omega) (by omega)]
theorem shut_b (h0:0≤o)(h1:o<20)(a:Int):(PB e (o+1) a).shut 1=PB e o a:=by
 unfold PS.shut PB
 rw[show o+1-1=o by omega,wrapI_of (by omega) (by omega)]
def LowP (fF:List UInt8→Option (Option Bool×Nat×List PV))(e o:Int)(low:Option GF)(D:Nat):Prop:=match low with
 |none=>20≤o
 |some G=>0≤o∧o<20∧∀ d,D≤d→FSpec e (o+1) (pfs fF d).expr G.expr∧FSpec e (o+1) (pfs fF d).neg G.neg∧FSpec e (o+1) (pfs fF d).fact G.fact
theorem deep_spec (he:0≤e){low:Option GF}{D:Nat}(hl:LowP fF e o low D){T:List TR}(hT:TOKs T){z:XR}{body:PS→(XR→PS→Option (XR×PS))→Option (XR×PS)}{gb:GF→Res XR}
  (hb:∀ G,low=some G→0≤o→o<20→SpecP e nl o T (gb G) (body (PG e nl (o+1) T) fun x s=>some (x,s.shut 1))) :
  SpecP e nl o T (deepG e low T gb) (deepK flP (PG e nl o T) body (fun s=>some (z,s)) fun x s=>some (x,s)):=by
 cases low with
 |none =>
  unfold deepK
  rw[cond_t (decide_eq_true (show (20:Int)≤(PG e nl o T).o from hl)),flP_g]
  exact⟨hT.nxt0 he,z,rfl⟩
 |some G =>
  obtain⟨h0,h1,-⟩:=hl
  unfold deepK
  rw[cond_f (decide_eq_false (show ¬ (20:Int)≤(PG e nl o T).o from by show ¬ (20:Int)≤o;omega)),open_g h0 h1]
  exact hb G rfl h0 h1
theorem within_spec (he:0≤e){low:Option GF}{D:Nat}(hl:LowP fF e o low D){T:List TR}(hT:TOKs T){z:XR}{body:PS→(XR→PS→Option (XR×PS))→Option (XR×PS)}{gb:GF→List TR→Res XR}{pb:PS→Option (XR×PS)}
  (hbody:∀ s kk,body s kk=(pb s).bind fun q=>kk q.1 q.2) (hb:∀ G,low=some G→0≤o→o<20→SpecP e nl (o+1) T.tail (gb G T.tail) (pb (PG e nl (o+1) T.tail))) :
  SpecP e nl o T (withinG e low T gb) (withinK signP flP takeP wantSignP (PG e nl o T) body (fun s=>some (z,s)) fun x s=>some (x,s)):=by
 unfold withinK withinG
 rw[signP_g (l:=[[40]]) rfl rfl,Option.bind_some]
 cases h:tokIs 3 [[40]] T with
 |false =>
  simp only[Bool.not_false,cond_true,cond_false,flP_g,Option.bind_some]
  exact⟨hT.nxt0 he,z,rfl⟩
 |true =>
  simp only[Bool.not_true,cond_true,cond_false]
  refine deep_spec he hl hT fun G hG h0 h1=>?_
  obtain⟨t,ht,-⟩:=takeP_t (e:=e) (nl:=nl) (o:=o+1) h
  rw[ht,Option.bind_some,hbody]
  refine SpecP.suf (SpecP.bind (hb G hG h0 h1) (fun x R hs=>?_) (fun x a ha=>?_)) (List.tail_suffix T)
  ·rw[map_bind]
   refine SpecP.bind (wantSign_g he [41] (hT.tail.suf hs)) (fun _ R1 h2=>?_) (fun _ a ha=>?_)
   ·dsimp only
    rw[shut_g h0 h1]
    exact SpecP.ret x
   ·dsimp only
    rw[shut_b h0 h1]
    exact BadP.ret x
  ·rw[map_bind,wantSign_b ha]
   show BadP e o a (some (x,(PB e (o+1) a).shut 1))
   rw[shut_b h0 h1]
   exact BadP.ret x
theorem lev_is (n:Nat)(T:List TR):isP (PG e nl o T) (levK n) (levW n).length (levW n)=some (tokIs (opK n) (opW n) T,PG e nl o T):=by
 match n with
 |0=>exact isP_g (l:=[[79,82]]) rfl rfl T
 |1=>exact isP_g (l:=[[65,78,68]]) rfl rfl T
 |2=>exact isP_g (l:=[[43],[45]]) rfl rfl T
 |k+3=>exact isP_g (l:=[[42],[47],[37]]) rfl rfl T
theorem loop_b {part:PS→Option (XR×PS)}{n:Nat}{a:Int}{x:XR}:∀ {m:Nat},0<m→BadP e o a (chLP part n m x (PB e o a))
 |m+1,_=>by
  rw[chLP,isP_b,Option.bind_some]
  exact BadP.ret x
theorem loop_g {part:PS→Option (XR×PS)}{gp:List TR→Res XR}{n:Nat}(hp:FSpec e o part gp):∀ (N m:Nat) (T:List TR) (x:XR),T.length≤N→T.length<m→TOKs T→SpecP e nl o T (loopG e n gp N x T) (chLP part n m x (PG e nl o T))
 |N,0,T,x,_,h,_=>absurd h (Nat.not_lt_zero _)
 |0,m+1,T,x,h,_,_=>by
  have:T=[]:=List.length_eq_zero_iff.1 (by omega)
  subst this
  rw[chLP,lev_is,Option.bind_some]
  exact SpecP.ret x
 |N+1,m+1,T,x,h1,h2,hT=>by
  rw[chLP,lev_is,Option.bind_some,loopG]
  cases h:tokIs (opK n) (opW n) T with
  |false=>exact SpecP.ret x
  |true =>
   obtain⟨t,ht,ha,hw⟩:=takeP_t (e:=e) (nl:=nl) (o:=o) h
   simp only[cond_true]
   rw[ht,Option.bind_some]
   obtain⟨u,R0,rfl⟩:=tok_cons h
   simp only[List.tail_cons,List.length_cons] at h1 h2 hT ⊢
   refine SpecP.suf (SpecP.bind (hp.good nl R0 hT.tail) (fun y R hs=>?_) (fun y a ha=>?_)) (List.suffix_cons u R0)
   ·rw[ha,hw]
    exact loop_g hp N m R _ (by have:=hs.length_le;omega) (by have:=hs.length_le;omega) (hT.tail.suf hs)
   ·exact loop_b (by omega)
theorem chain_spec {P:PF}{gp:List TR→Res XR}{n:Nat}(hn:n<4)(hp:FSpec e o (chainQ P n) gp):FSpec e o (fun s=>chainP P s (n:Int)) (levG e n gp) where
 good:=fun nl T hT=>by
  show SpecP e nl o T _ (chainP P (PG e nl o T) (n:Int))
  unfold chainP
  rw[if_pos (by omega),Int.toNat_natCast]
  exact SpecP.bind (hp.good nl T hT) (fun x R hs=>loop_g hp _ _ R x (hT.suf hs).len (by have:=hs.length_le;show R.length<T.length+2;omega) (hT.suf hs)) (fun x a ha=>loop_b (by omega))
 badd:=fun a ha=>by
  show BadP e o a (chainP P (PB e o a) (n:Int))
  unfold chainP
  rw[if_pos (by omega),Int.toNat_natCast]
  exact BadP.bind (hp.badd a ha) fun x=>loop_b (by omega)
variable (he:0≤e) (hAS:FieldsAs fF wAS) (hNU:FieldsAs fF wNULL) {low:Option GF} {D:Nat} (hl:LowP fF e o low D)
include he hAS hNU hl
theorem cast_spec {d:Nat}(hd:D≤d){T:List TR}(hT:TOKs T){a:Int}{ws:List (List UInt8)}(h:tokIs a ws T=true):SpecP e nl o T (castG e low T) ((pfStep fF (pfs fF d)).cast (PG e nl o T)):=by
 have _:=hNU
 obtain⟨t,ht,ha,hw⟩:=takeP_t (e:=e) (nl:=nl) (o:=o) h
 show SpecP e nl o T _ ((takeP (PG e nl o T)).bind _)
 rw[ht,Option.bind_some]
 refine SpecP.suf (within_spec (pb:=fun s=>((pfs fF d).expr s).bind fun x=>(wantP fF x.2 wAS).bind fun s=>(typedP s).bind fun y=>some (castX t.a y.1.1 y.1.2 x.1,y.2)) he hl hT.tail (fun s kk=>by simp only[Option.bind_assoc,Option.bind_some]) fun G hG h0 h1=>?_) (List.tail_suffix T)
 subst hG
 obtain⟨-,-,hl⟩:=hl
 refine SpecP.bind ((hl d hd).1.good nl _ hT.tail.tail) (fun x R hs=>?_) (fun x a ha=>?_)
 ·have hR:=hT.tail.tail.suf hs
  rw[map_bind]
  refine SpecP.bind (want_g he hAS hR) (fun _ R1 h1=>?_) (fun _ a ha=>?_)
  ·refine SpecP.bind ((typed_spec he).good nl R1 (hR.suf h1)) (fun y R2 h2=>?_) (fun y a ha=>?_)
   ·rw[ha]
    exact SpecP.ret _
   ·exact BadP.ret _
  ·exact BadP.bind ((typed_spec he).badd a ha) fun y=>BadP.ret _
 ·rw[map_bind,want_b hAS ha]
  simp only[Option.map_some,Option.bind_some]
  exact BadP.bind ((typed_spec he).badd a ha) fun y=>BadP.ret _
theorem call_spec {d:Nat}(hd:D≤d){T:List TR}(hT:TOKs T){a:Int}{ws:List (List UInt8)}(h:tokIs a ws T=true):SpecP e nl o T (callG e low T) ((pfStep fF (pfs fF d)).call (PG e nl o T)):=by
 have _:=hNU
 have _:=hAS
 obtain⟨t,ht,ha,hw⟩:=takeP_t (e:=e) (nl:=nl) (o:=o) h
 show SpecP e nl o T _ ((takeP (PG e nl o T)).bind _)
 rw[ht,Option.bind_some]
 refine SpecP.suf (within_spec (pb:=fun s=>bif t.t==wCOUNT then (signP s 1 [.str [42]]).bind fun r=>(bif r.1 then (takeP r.2).bind fun q=>some (call0 t.a t.t,q.2) else ((pfs fF d).expr r.2).bind fun x=>some (callX t.a t.t x.1,x.2)) else ((pfs fF d).expr s).bind fun x=>some (callX t.a t.t x.1,x.2)) he hl hT.tail (fun s kk=>by simp only[cond_bindo,Option.bind_assoc,Option.bind_some]) fun G hG h0 h1=>?_) (List.tail_suffix T)
 subst hG
 obtain⟨-,-,hl⟩:=hl
 have hE:SpecP e nl (o+1) T.tail.tail ((G.expr T.tail.tail).bind fun x R=>.ok (callX (nxt e T) (hdW T) x) R) (((pfs fF d).expr (PG e nl (o+1) T.tail.tail)).bind fun x=>some (callX t.a t.t x.1,x.2)):=by
  refine SpecP.bind ((hl d hd).1.good nl _ hT.tail.tail) (fun x R hs=>?_) (fun x a ha=>BadP.ret _)
  rw[ha,hw]
  exact SpecP.ret _
 rw[signP_g (l:=[[42]]) rfl rfl,Option.bind_some,hw]
 rw[hw] at hE
 cases hdW T==wCOUNT with
 |false=>exact hE
 |true =>
  simp only[cond_true]
  cases h5:tokIs 3 [[42]] T.tail.tail with
  |false=>exact hE
  |true =>
   obtain⟨u,hu,-⟩:=takeP_t (e:=e) (nl:=nl) (o:=o+1) h5
   simp only[cond_true]
   rw[hu,Option.bind_some,ha]
   exact⟨List.tail_suffix _,rfl⟩
theorem atom_spec {d:Nat}(hd:D+2≤d):FSpec e o (pfs fF d).atom (atomG e low) where
 good := fun nl T hT=>by
  obtain⟨d,rfl⟩:∃ d',d=d'+1+1:=⟨d-2,by omega⟩
  show SpecP e nl o T _ ((atP (PG e nl o T)).bind _)
  rw[atP_g,Option.bind_some,signP_g (l:=[[40]]) rfl rfl,Option.bind_some]
  unfold atomG
  cases h1:tokIs 3 [[40]] T with
  |true =>
   simp only[cond_true]
   refine within_spec (pb:=(pfs fF (d+1)).expr) he hl hT (fun s kk=>rfl) fun G hG h0 h1=>?_
   subst hG
   exact (hl.2.2 (d+1) (by omega)).1.good nl _ hT.tail
  |false =>
   simp only[cond_false]
   rw[keyP_g,Option.bind_some]
   cases h2:tokIs 1 [wCAST] T with
   |true =>
    simp only[cond_true]
    have:=cast_spec (nl:=nl) he hAS hNU hl (d:=d) (by omega) hT h2
    show SpecP e nl o T _ (((pfStep fF (pfs fF d)).cast (PG e nl o T)).bind fun q=>some (q.1,q.2))
    rw[bind_eta]
    exact this
   |false =>
    simp only[cond_false]
    rw[isP_g (l:=wsCall) rfl rfl,Option.bind_some]
    cases h3:tokIs 1 wsCall T with
    |true =>
     simp only[cond_true]
     have:=call_spec (nl:=nl) he hAS hNU hl (d:=d) (by omega) hT h3
     show SpecP e nl o T _ (((pfStep fF (pfs fF d)).call (PG e nl o T)).bind fun q=>some (q.1,q.2))
     rw[bind_eta]
     exact this
    |false =>
     simp only[cond_false]
     rw[literal_g,Option.bind_some]
     cases h4:litG T with
     |some v =>
      simp only[(litG_ok h4).1,cond_true]
      exact⟨List.tail_suffix T,rfl⟩
     |none =>
      simp only[cond_false]
      refine SpecP.bind ((name_spec he).good nl T hT) (fun n R hs=>?_) (fun n a ha=>?_)
      ·have hR:=hT.suf hs
       rw[signP_g (l:=[[46]]) rfl rfl,Option.bind_some]
       cases h5:tokIs 3 [[46]] R with
       |false=>exact SpecP.ret _
       |true =>
        obtain⟨u,hu,-⟩:=takeP_t (e:=e) (nl:=nl) (o:=o) h5
        simp only[cond_true]
        rw[hu,Option.bind_some]
        exact SpecP.suf (SpecP.bind ((name_spec he).good nl R.tail hR.tail) (fun m R h=>SpecP.ret _) (fun m a ha=>BadP.ret _)) (List.tail_suffix R)
      ·rw[signP_b]
       exact BadP.ret _
 badd:=fun a ha=>by
  obtain⟨d,rfl⟩:∃ d',d=d'+1:=⟨d-1,by omega⟩
  rw[pfs]
  unfold pfStep
  dsimp only
  rw[atP_b,Option.bind_some,signP_b,Option.bind_some,cond_false,keyP_b,Option.bind_some,cond_false,isP_b,Option.bind_some,cond_false,literal_b,Option.bind_some,cond_false]
  exact BadP.bind ((name_spec he).badd a ha) fun n=>by rw[signP_b];exact BadP.ret _
theorem fact_spec {d:Nat}(hd:D+3≤d):FSpec e o (pfs fF d).fact (factG e low) where
 good:=fun nl T hT=>by
  obtain⟨d,rfl⟩:∃ d',d=d'+1:=⟨d-1,by omega⟩
  show SpecP e nl o T _ ((signP (PG e nl o T) 1 [.str [45]]).bind _)
  rw[signP_g (l:=[[45]]) rfl rfl,Option.bind_some]
  unfold factG
  cases h:tokIs 3 [[45]] T with
  |false =>
   simp only[Bool.not_false,cond_true,cond_false]
   have:=(atom_spec he hAS hNU hl (d:=d) (by omega)).good nl T hT
   rw[bind_eta]
   exact this
  |true =>
   simp only[Bool.not_true,cond_true,cond_false]
   refine deep_spec he hl hT fun G hG h0 h1=>?_
   subst hG
   obtain⟨t,ht,ha,-⟩:=takeP_t (e:=e) (nl:=nl) (o:=o+1) h
   rw[ht,Option.bind_some]
   refine SpecP.suf (SpecP.bind ((hl.2.2 d (by omega)).2.2.good nl _ hT.tail) (fun x R hs=>?_) (fun x a ha=>?_)) (List.tail_suffix T)
   ·dsimp only
    rw[shut_g h0 h1,ha]
    exact SpecP.ret _
   ·dsimp only
    rw[shut_b h0 h1]
    exact BadP.ret _
 badd:=fun a ha=>by
  obtain⟨d,rfl⟩:∃ d',d=d'+1:=⟨d-1,by omega⟩
  rw[pfs]
  unfold pfStep
  dsimp only
  rw[signP_b,Option.bind_some]
  exact BadP.bind ((atom_spec he hAS hNU hl (d:=d) (by omega)).badd a ha) fun x=>BadP.ret x
theorem mul_spec {d:Nat}(hd:D+4≤d):FSpec e o (fun s=>(pfs fF d).chain s 3) (mulG e low):=by
 obtain⟨d,rfl⟩:∃ d',d=d'+1:=⟨d-1,by omega⟩
 exact chain_spec (n:=3) (by omega) (fact_spec he hAS hNU hl (d:=d) (by omega))
theorem add_spec {d:Nat}(hd:D+5≤d):FSpec e o (fun s=>(pfs fF d).chain s 2) (sumG e low):=by
 obtain⟨d,rfl⟩:∃ d',d=d'+1:=⟨d-1,by omega⟩
 exact chain_spec (n:=2) (by omega) (mul_spec he hAS hNU hl (d:=d) (by omega))
theorem sum_spec {d:Nat}(hd:D+6≤d):FSpec e o (pfs fF d).sum (sumG e low):=by
 obtain⟨d,rfl⟩:∃ d',d=d'+1:=⟨d-1,by omega⟩
 have:=add_spec he hAS hNU hl (d:=d) (by omega)
 have hf:(pfs fF (d+1)).sum=fun s=>(pfs fF d).chain s 2:=by
  funext s
  show (((pfs fF d).chain s 2).bind fun x=>some (x.1,x.2))=_
  rw[bind_eta]
 rw[hf]
 exact this
theorem cmp_spec {d:Nat}(hd:D+7≤d):FSpec e o (pfs fF d).comp (compG e low) where
 good := fun nl T hT=>by
  obtain⟨d,rfl⟩:∃ d',d=d'+1:=⟨d-1,by omega⟩
  have hs:=sum_spec he hAS hNU hl (d:=d) (by omega)
  show SpecP e nl o T _ (((pfs fF d).sum (PG e nl o T)).bind _)
  refine SpecP.bind (hs.good nl T hT) (fun x R h=>?_) (fun x a ha=>?_)
  ·have hR:=hT.suf h
   rw[signP_g (l:=wsCmp) rfl rfl,Option.bind_some]
   unfold cmpG
   cases h1:tokIs 3 wsCmp R with
   |true =>
    obtain⟨t,ht,ha,hw⟩:=takeP_t (e:=e) (nl:=nl) (o:=o) h1
    simp only[cond_true]
    rw[ht,Option.bind_some]
    refine SpecP.suf (SpecP.bind (hs.good nl R.tail hR.tail) (fun y R1 h=>?_) (fun y a ha=>BadP.ret _)) (List.tail_suffix R)
    rw[ha,hw]
    exact SpecP.ret _
   |false =>
    simp only[cond_false]
    rw[keyP_g,Option.bind_some]
    cases h2:tokIs 1 [wIS] R with
    |false=>exact SpecP.ret x
    |true =>
     obtain⟨t,ht,ha,hw⟩:=takeP_t (e:=e) (nl:=nl) (o:=o) h2
     simp only[Bool.not_true,cond_false,cond_true]
     rw[ht,Option.bind_some,skipP_g,Option.bind_some,map_bind]
     have hS:(bif tokIs 1 [wNOT] R.tail then R.tail.tail else R.tail) <:+ R:=by
      cases tokIs 1 [wNOT] R.tail with
      |false=>exact List.tail_suffix R
      |true=>exact (List.tail_suffix R.tail).trans (List.tail_suffix R)
     refine SpecP.suf (SpecP.bind (want_g he hNU (hR.suf hS)) (fun _ R1 h=>?_) (fun _ a ha=>BadP.ret _)) hS
     rw[ha]
     exact SpecP.ret _
  ·rw[signP_b,Option.bind_some,cond_false,keyP_b]
   exact BadP.ret x
 badd:=fun a ha=>by
  obtain⟨d,rfl⟩:∃ d',d=d'+1:=⟨d-1,by omega⟩
  show BadP (α:=XR) e o a (((pfs fF d).sum (PB e o a)).bind _)
  exact BadP.bind ((sum_spec he hAS hNU hl (d:=d) (by omega)).badd a ha) fun x=>by rw[signP_b,Option.bind_some,cond_false,keyP_b];exact BadP.ret x
theorem neg_spec {d:Nat}(hd:D+8≤d):FSpec e o (pfs fF d).neg (negG e low) where
 good:=fun nl T hT=>by
  obtain⟨d,rfl⟩:∃ d',d=d'+1:=⟨d-1,by omega⟩
  show SpecP e nl o T _ ((keyP (PG e nl o T) wNOT).bind _)
  rw[keyP_g,Option.bind_some]
  unfold negG
  cases h:tokIs 1 [wNOT] T with
  |false =>
   simp only[Bool.not_false,cond_true,cond_false]
   have:=(cmp_spec he hAS hNU hl (d:=d) (by omega)).good nl T hT
   rw[bind_eta]
   exact this
  |true =>
   simp only[Bool.not_true,cond_true,cond_false]
   refine deep_spec he hl hT fun G hG h0 h1=>?_
   subst hG
   obtain⟨t,ht,ha,-⟩:=takeP_t (e:=e) (nl:=nl) (o:=o+1) h
   rw[ht,Option.bind_some]
   refine SpecP.suf (SpecP.bind ((hl.2.2 d (by omega)).2.1.good nl _ hT.tail) (fun x R hs=>?_) (fun x a ha=>?_)) (List.tail_suffix T)
   ·dsimp only
    rw[shut_g h0 h1,ha]
    exact SpecP.ret _
   ·dsimp only
    rw[shut_b h0 h1]
    exact BadP.ret _
 badd:=fun a ha=>by
  obtain⟨d,rfl⟩:∃ d',d=d'+1:=⟨d-1,by omega⟩
  rw[pfs]
  unfold pfStep
  dsimp only
  rw[keyP_b,Option.bind_some]
  exact BadP.bind ((cmp_spec he hAS hNU hl (d:=d) (by omega)).badd a ha) fun x=>BadP.ret x
theorem and_spec {d:Nat}(hd:D+9≤d):FSpec e o (fun s=>(pfs fF d).chain s 1) (andG e low):=by
 obtain⟨d,rfl⟩:∃ d',d=d'+1:=⟨d-1,by omega⟩
 exact chain_spec (n:=1) (by omega) (neg_spec he hAS hNU hl (d:=d) (by omega))
theorem or_spec {d:Nat}(hd:D+10≤d):FSpec e o (fun s=>(pfs fF d).chain s 0) (exprG e low):=by
 obtain⟨d,rfl⟩:∃ d',d=d'+1:=⟨d-1,by omega⟩
 exact chain_spec (n:=0) (by omega) (and_spec he hAS hNU hl (d:=d) (by omega))
theorem expr_spec {d:Nat}(hd:D+11≤d):FSpec e o (pfs fF d).expr (exprG e low):=by
 obtain⟨d,rfl⟩:∃ d',d=d'+1:=⟨d-1,by omega⟩
 have:=or_spec he hAS hNU hl (d:=d) (by omega)
 have hf:(pfs fF (d+1)).expr=fun s=>(pfs fF d).chain s 0:=by
  funext s
  show (((pfs fF d).chain s 0).bind fun x=>some (x.1,x.2))=_
  rw[bind_eta]
 rw[hf]
 exact this
end
theorem low_ok {e:Int}{fF:List UInt8→Option (Option Bool×Nat×List PV)}(he:0≤e)(hAS:FieldsAs fF wAS)(hNU:FieldsAs fF wNULL):∀ k:Nat,k≤20→LowP fF e (20-(k:Int)) (gfs e k) (11 * k)
 |0,_=>Int.le_refl _
 |k+1,h=>by
  have ih:=low_ok he hAS hNU k (by omega)
  refine⟨by omega,by omega,fun d hd=>?_⟩
  rw[show (20:Int)-((k+1:Nat):Int)+1=20-(k:Int) by omega]
  exact⟨expr_spec he hAS hNU ih (by omega),neg_spec he hAS hNU ih (by omega),fact_spec he hAS hNU ih (by omega)⟩
theorem pexpr {e:Int}{fF:List UInt8→Option (Option Bool×Nat×List PV)}(he:0≤e)(hAS:FieldsAs fF wAS)(hNU:FieldsAs fF wNULL){d:Nat}(hd:231≤d):FSpec e 0 (pfs fF d).expr (exprG e (gfs e 20)) :=
 expr_spec he hAS hNU (low_ok he hAS hNU 20 (by omega)) (by omega)
section
variable {NG:Nat} {W:World→Prop}
def tRd (f:List UInt8→Option (XR×Int×Int)):PFn:=⟨fun xs k=>match xs with|[.str s,.clo p [],.clo q []]=>if p=22 then if q=23 then (f s).bind fun r=>k (.tuple [.agg r.1.cells,.int .i64 r.2.1,.int .i64 r.2.2]) else none else none|_=>none,false⟩
theorem tRd_nat (f:List UInt8→Option (XR×Int×Int)):(tRd f).nat:=by
 intro R xs k
 simp only[tRd]
 split
 ·simp only[onXR_bind,iteo_bind,Option.bind_assoc,Option.bind_some]
 ·rfl
theorem fok_tRd (hW:WOK NG W){l:List (FuncId×PFn)}(hl:AllOK NG W l){lh:List (FuncId×HFn)}(hh:AllH NG W lh){h:Hints}{f:FuncId}{fn:Func}(hf:Tryz.prog.funcs[f]? = some fn)(hb:fn.body.isSome=true)(hname:fn.name ≠ "runtime.NumGoroutine"){g:List UInt8→Option (XR×Int×Int)}(hr:∀ (s:List UInt8) r,g s=some r→∃ fu,prun (enH l lh []) h fu false fn [.str s,.clo 22 [],.clo 23 []]=some (.tuple [.agg r.1.cells,.int .i64 r.2.1,.int .i64 r.2.2])):FOK NG W f (tRd g) :=
 fokH hW hl hh allI_nil (h:=h) hf hb hname (tRd_nat g) fun xs r h=>by
  simp only[tRd] at h
  split at h
  ·obtain⟨hzp,h1⟩:=ite_inv h
   subst hzp
   obtain⟨hzq,h2⟩:=ite_inv h1
   subst hzq
   obtain⟨qq,hq,hend⟩:=Option.bind_eq_some_iff.1 h2
   obtain⟨fu,hr⟩:=hr _ _ hq
   exact⟨fu,hr.trans hend⟩
  ·cases h
def tPx (f:List UInt8→Option (XR×Int×Int)):PFn:=⟨fun xs k=>match xs with|[.str s]=>(f s).bind fun r=>k (.tuple [.agg r.1.cells,.int .i64 r.2.1,.int .i64 r.2.2])|_=>none,false⟩
theorem tPx_nat (f:List UInt8→Option (XR×Int×Int)):(tPx f).nat:=by
 intro R xs k
 simp only[tPx]
 split
 ·simp only[onXR_bind,iteo_bind,Option.bind_assoc,Option.bind_some]
 ·rfl
theorem fok_tPx (hW:WOK NG W){l:List (FuncId×PFn)}(hl:AllOK NG W l){lh:List (FuncId×HFn)}(hh:AllH NG W lh){h:Hints}{f:FuncId}{fn:Func}(hf:Tryz.prog.funcs[f]? = some fn)(hb:fn.body.isSome=true)(hname:fn.name ≠ "runtime.NumGoroutine"){g:List UInt8→Option (XR×Int×Int)}(hr:∀ (s:List UInt8) r,g s=some r→∃ fu,prun (enH l lh []) h fu false fn [.str s]=some (.tuple [.agg r.1.cells,.int .i64 r.2.1,.int .i64 r.2.2])):FOK NG W f (tPx g) :=
 fokH hW hl hh allI_nil (h:=h) hf hb hname (tPx_nat g) fun xs r h=>by
  simp only[tPx] at h
  split at h
  ·obtain⟨qq,hq,hend⟩:=Option.bind_eq_some_iff.1 h
   obtain⟨fu,hr⟩:=hr _ _ hq
   exact⟨fu,hr.trans hend⟩
  ·cases h
end
theorem txtV_sml (u:List UInt8):(txtV u).1.s.length≤u.length:=by
 unfold txtV
 cases rightB 4 0 0 u with
 |true=>exact Nat.le_refl _
 |false=>exact Nat.zero_le _
theorem bytV_sml (u:List UInt8):(bytV u).1.s.length≤u.length:=by
 unfold bytV
 cases h:unhV u with
 |none=>exact Nat.zero_le _
 |some b =>
  have:=(unh_hex _ u b (Nat.le_refl _) h).2.2
  dsimp only
  cases rightB 5 0 0 b with
  |true=>exact this
  |false=>exact Nat.zero_le _
theorem tokV_sml {s:List UInt8}{r:TR×Nat}(h:tokV s=some r):r.1.t.length≤s.length∧r.1.vs.length≤s.length:=by
 rcases s with _|⟨c,t⟩
 ·cases h
 rw[tokV] at h
 split at h
 ·obtain⟨q,hq,h⟩:=Option.bind_eq_some_iff.1 h
  obtain⟨-,h⟩:=bif_inv h
  injection h with h
  subst h
  obtain⟨h1,h2,-⟩:=qsc_ok _ t q.1 q.2.1 q.2.2 (Nat.le_refl _) hq
  have hl:=congrArg List.length h2
  have:=dbl_len h1
  have:=txtV_sml q.2.1
  simp only[List.length_append,List.length_cons] at hl ⊢
  exact⟨Nat.zero_le _,by show (txtV q.2.1).1.s.length≤_;omega⟩
 split at h
 ·obtain⟨q,hq,h⟩:=Option.bind_eq_some_iff.1 h
  obtain⟨-,h⟩:=bif_inv h
  injection h with h
  subst h
  obtain⟨h1,h2,-⟩:=qsc_ok _ t.tail q.1 q.2.1 q.2.2 (Nat.le_refl _) hq
  have hl:=congrArg List.length h2
  have:=dbl_len h1
  have:=bytV_sml q.2.1
  simp only[List.length_append,List.length_cons,List.length_tail] at hl ⊢
  exact⟨Nat.zero_le _,by show (bytV q.2.1).1.s.length≤_;omega⟩
 split at h
 ·obtain⟨p,hp,h⟩:=Option.map_eq_some_iff.1 h
  subst h
  show (nTok p).t.length≤_∧(nTok p).vs.length≤_
  unfold nTok
  cases decide (0<p.2)<;>exact⟨Nat.zero_le _,Nat.zero_le _⟩
 split at h
 ·obtain⟨-,h⟩:=bif_inv h
  injection h with h
  subst h
  exact⟨tw_len _,Nat.zero_le _⟩
 split at h
 ·obtain⟨-,h⟩:=bif_inv h
  injection h with h
  subst h
  exact⟨tw_len _,Nat.zero_le _⟩
 rcases t with _|⟨d,t⟩
 ·rw[signV] at h
  obtain⟨-,h⟩:=bif_inv h
  injection h with h
  subst h
  exact⟨Nat.le_refl _,Nat.zero_le _⟩
 ·rw[signV] at h
  cases hc:conA sg2 [c,d] with
  |true =>
   rw[hc] at h
   injection h with h
   subst h
   exact⟨by simp,Nat.zero_le _⟩
  |false =>
   rw[hc,cond_false] at h
   obtain⟨-,h⟩:=bif_inv h
   injection h with h
   subst h
   exact⟨by simp,Nat.zero_le _⟩
theorem lexV_sml:∀ (f i:Nat) (s:List UInt8) (l:List TR),lexV f i s=.inr l→∀ t∈l,t.t.length≤s.length∧t.vs.length≤s.length
 |0,i,s,l,h=>by
  rw[lexV] at h
  injection h with h
  subst h
  exact fun t h=>by cases h
 |f+1,i,[],l,h=>by
  rw[lexV] at h
  injection h with h
  subst h
  exact fun t h=>by cases h
 |f+1,i,c::t,l,h=>by
  rw[lexV] at h
  split at h
  ·intro x hx
   have:=lexV_sml f _ t l h x hx
   simp only[List.length_cons]
   omega
  ·split at h
   ·cases h
   ·rename_i r hr
    split at h
    ·cases h
    ·rename_i l' hl'
     injection h with h
     subst h
     obtain⟨g1,g2⟩:=tokV_sml hr
     intro x hx
     rcases List.mem_cons.1 hx with rfl|hx
     ·exact⟨g1,g2⟩
     ·have:=lexV_sml f _ _ l' hl' x hx
      rw[List.length_drop] at this
      omega
theorem lexS_ok {s:List UInt8}{l:List TR}(h:lexS s=.inr l):TOKs l∧Sml l∧l.length≤2000:=by
 unfold lexS at h
 cases hs:decide (2000<s.length) with
 |true=>rw[hs] at h;cases h
 |false =>
  rw[hs,cond_false] at h
  have hs:=of_decide_eq_false hs
  refine⟨lexV_toks (by omega) h,fun t ht=>?_,?_⟩
  ·have:=lexV_sml _ _ _ _ h t ht
   omega
  ·have:=(lexV_ok _ _ _ _ h).1
   omega
def rightX (x:XR):Bool:=match er 6000 x with
 |none=>false
 |some t=>rightG 60 t
def exprT (e:Int)(T:List TR):Int ⊕ XR:=match exprG e (gfs e 20) T with
 | .bad a=>.inl a
 | .ok x []=>bif rightX x then .inr x else .inl 0
 | .ok _ (t::_)=>.inl t.a
def exprV (s:List UInt8):Int ⊕ XR:=match lexS s with
 | .inl a=>.inl a
 | .inr T=>exprT s.length T
theorem expr_has {e:Int}{T:List TR}(h:Sml T)(hl:T.length≤2000){x:XR}{R:List TR}(hx:exprG e (gfs e 20) T=.ok x R):∃ t,er 6000 x=some t:=by
 obtain⟨h1,-,-⟩:=expr_p (e:=e) (low:=gfs e 20) (gfs_p e 20) h x R hx
 exact h1.le (by omega)
def rgX (x:XR):Option Bool:=rgD 6000 x 0
theorem rgX_eq {x:XR}{t:TX}(h:er 6000 x=some t):rgX x=some (rightX x):=by
 unfold rgX rgD rightX
 rw[h]
 rfl
theorem tXB_nat (f:XR→Option Bool):(tXB f).nat:=by
 intro R xs k
 simp only[tXB]
 split
 ·simp only[iteo_bind,Option.bind_assoc,Option.bind_some]
 ·rfl
theorem ok_rightX:FOK NGs Ws 23 (tXB rgX):=by
 have h1:FOK NGs Ws 23 (tXb rgX):=fok_tXb woks (allOK_cons (ok_right 6000) allOK_nil) allH_nil (h:=hh0) Tryz.func23 rfl (by decide) fun e r h=>⟨0,(rexp_raw (rgD 6000) 0 e).trans (by
  have h:rgD 6000 e 0=some r:=h
  rw[h]
  rfl)⟩
 refine fok_wk h1 (tXB_nat _) rfl fun xs r h=>?_
 simp only[tXB] at h
 split at h
 ·obtain⟨hz,h⟩:=ite_inv h
  subst hz
  exact h
 ·cases h
def pxRes (o:Int ⊕ XR):XR×Int×Int:=match o with
 | .inl a=>(XR.zero,a,170)
 | .inr x=>(x,0,0)
def pxV (r:XR×Int×Int):PV:=.tuple [.agg r.1.cells,.int .i64 r.2.1,.int .i64 r.2.2]
theorem fldAS:FieldsAs fldF wAS:=⟨some false,by kernel_rfl⟩
theorem fldNU:FieldsAs fldF wNULL:=⟨some false,by kernel_rfl⟩
theorem rd_bad {x:XR}{e o a:Int}(ha:0≤a):rdTail rgX x (PB e o a)=some (pxV (pxRes (.inl a))):=by
 unfold rdTail
 rw[cond_f (show decide ((PB e o a).b<0)=false from decide_eq_false (show ¬ a<0 by omega))]
 unfold rdEnd
 rw[cond_t (show decide (0≤(PB e o a).b)=true from decide_eq_true (show 0≤a from ha))]
 rfl
theorem ok_read:FOK NGs Ws 21 (tRd fun s=>some (pxRes (exprV s))) :=
 fok_tRd woks (allOK_cons ok_lexD (allOK_cons ok_rightX allOK_nil)) (allH_cons (pok pdeps 231).expr (allH_cons (ok_fail pdeps) allH_nil)) (h:=hh0) Tryz.func21 rfl (by decide) fun s r h=>⟨0,(read_raw lexD (pfs fldF 231).expr flP rgX 0 s).trans (by
  injection h with h
  subst h
  unfold lexD exprV
  rw[Option.bind_some]
  cases hl:lexS s with
  |inl a=>rfl
  |inr T =>
   obtain⟨hT,hs,hn⟩:=lexS_ok hl
   rw[cond_f (by rfl)]
   have hg:=(pexpr (e:=(s.length:Int)) (by omega) fldAS fldNU (d:=231) (Nat.le_refl _)).good (some T.isEmpty) T hT
   have hst:(⟨(lxRes (.inr T)).nl,(lxRes (.inr T)).n,(lxRes (.inr T)).cs,(s.length:Int),0,-1⟩:PS)=PG (s.length:Int) (some T.isEmpty) 0 T:=rfl
   rw[hst]
   show _=some (pxV (pxRes (exprT (s.length:Int) T)))
   unfold exprT
   cases hx:exprG (s.length:Int) (gfs (s.length:Int) 20) T with
   |bad a =>
    rw[hx] at hg
    obtain⟨ha,y,hy⟩:=hg
    rw[hy,Option.bind_some,cond_f (by rfl)]
    exact rd_bad ha
   |ok x R =>
    rw[hx] at hg
    obtain⟨hR,hy⟩:=hg
    rw[hy,Option.bind_some]
    cases R with
    |nil =>
     obtain⟨t,ht⟩:=expr_has hs hn hx
     rw[cond_f (by rfl)]
     unfold rdTail
     rw[cond_t (by rfl),rgX_eq ht,Option.bind_some]
     dsimp only
     cases rightX x<;>rfl
    |cons t R =>
     rw[cond_t (by exact decide_eq_true (show (0:Int)<(((t::R).length:Nat):Int) by simp only[List.length_cons];omega)),flP_g,Option.bind_some]
     exact rd_bad (hT.at0 t (hR.subset (List.mem_cons_self ..))))⟩
theorem pE_raw (f:List UInt8→Option (XR×Int×Int))(fu:Nat)(s:List UInt8):prun (enH [(21,tRd f)] [] []) hh0 fu false Tryz.f9 [.str s]=(f s).bind fun r=>some (pxV r):=by kernel_rfl
def pxD (s:List UInt8):Option (XR×Int×Int):=some (pxRes (exprV s))
theorem ok_pE:FOK NGs Ws 9 (tPx pxD):=fok_tPx woks (allOK_cons ok_read allOK_nil) allH_nil (h:=hh0) Tryz.func9 rfl (by decide) fun s r h=>⟨0,(pE_raw _ 0 s).trans (by injection h with h;rw[h];rfl)⟩
structure SlS where
 nl:Option Bool
 n:Nat
 c:List PV
def SlS.pv (z:Nat)(l:SlS):PV:=.sl l.nl z l.n l.c
def SlS.nil:SlS:=⟨some true,0,[]⟩
def SlS.put (l:SlS)(c:List PV):SlS:=⟨l.nl.map (· && false),l.n+1,l.c++c⟩
def SlS.one (c:List PV):SlS:=⟨some false,1,c⟩
structure IR where
 x:XR
 n:List UInt8
def IR.cells (i:IR):List PV:=i.x.cells++[.str i.n]
structure OR where
 x:XR
 d:Bool
def OR.cells (i:OR):List PV:=i.x.cells++[.bool i.d]
structure UR where
 n:List UInt8
 x:XR
def UR.cells (i:UR):List PV:=.str i.n::i.x.cells
structure SoR where
 t:List UInt8
 n:List UInt8
def SoR.cells (i:SoR):List PV:=[.str i.t,.str i.n]
structure CR where
 id:Int
 n:List UInt8
 tk:Int
 ts:Int
 nn:Bool
 vk:Int
 vn:Int
 vc:Int
 vs:List UInt8
 st:Int
def CR.cells (c:CR):List PV:=[.int .i64 c.id,.str c.n,.int .i64 c.tk,.int .i64 c.ts,.bool c.nn,.int .i64 c.vk,.int .i64 c.vn,.int .i64 c.vc,.str c.vs,.int .i64 c.st]
structure SR where
 k:Int
 tb:List UInt8
 nm:List UInt8
 un:Bool
 ns:SlS
 cs:SlS
 rs:SlS
 us:SlS
 wh:SlS
 it:SlS
 fr:SlS
 on:SlS
 gr:SlS
 od:SlS
 lim:Int
def SR.cells (s:SR):List PV:=[.int .i64 s.k,.str s.tb,.str s.nm,.bool s.un,s.ns.pv 1,s.cs.pv 10,s.rs.pv 1,s.us.pv 14,s.wh.pv 13,s.it.pv 14,s.fr.pv 2,s.on.pv 13,s.gr.pv 13,s.od.pv 14,.int .i64 s.lim]
def SR.zero:SR:=⟨0,[],[],false,.nil,.nil,.nil,.nil,.nil,.nil,.nil,.nil,.nil,.nil,0⟩
section
variable {NG:Nat} {W:World→Prop}
def tSSt (f:PS→Option (SR×PS)):HFn:=⟨fun bs xs k=>match xs with|[.ptr 0 0]=>onPS bs fun s=>(f s).bind fun r=>k [r.2.box] (.agg r.1.cells)|_=>none⟩
theorem tSSt_nat (f:PS→Option (SR×PS)):(tSSt f).nat:=by
 intro R bs xs k
 simp only[tSSt]
 split
 ·simp only[onPS_bind,onXR_bind,iteo_bind,Option.bind_assoc,Option.bind_some]
 ·rfl
theorem hok_tSSt (hW:WOK NG W){l:List (FuncId×PFn)}(hl:AllOK NG W l){lh:List (FuncId×HFn)}(hh:AllH NG W lh){h:Hints}{f:FuncId}{fn:Func}(hf:Tryz.prog.funcs[f]? = some fn)(hb:fn.body.isSome=true)(hname:fn.name ≠ "runtime.NumGoroutine"){g:PS→Option (SR×PS)}(hr:∀ s  r,g s=some r→∃ fu,∀ (K:KR),prunH (enH l lh []) h fu fn [s.box] [.ptr 0 0] K=K [r.2.box] (.agg r.1.cells)):HOK NG W f (tSSt g) :=
 hok hW hl hh allI_nil (h:=h) hf hb hname (tSSt_nat g) fun bs xs r h=>by
  simp only[tSSt] at h
  split at h
  ·obtain⟨s,hbs,hs⟩:=onPS_inv h
   subst hbs
   obtain⟨qq,hq,hend⟩:=Option.bind_eq_some_iff.1 hs
   obtain⟨fu,hr⟩:=hr s _ hq
   exact⟨fu,(hr _).trans hend⟩
  ·cases h
theorem none_tSSt {f:FuncId}{g:PS→Option (SR×PS)}(hg:∀ s , g s=none):HOK NG W f (tSSt g) where
 nat:=tSSt_nat _
 call:=by
  intro M β bs xs vs bs' r _ _ _ _ _ h
  exfalso
  simp only[tSSt] at h
  split at h
  ·obtain⟨s,-,hs⟩:=onPS_inv h
   rw[hg] at hs
   cases hs
  ·cases h
def tSIt (f:PS→Option (IR×PS)):HFn:=⟨fun bs xs k=>match xs with|[.ptr 0 0]=>onPS bs fun s=>(f s).bind fun r=>k [r.2.box] (.agg r.1.cells)|_=>none⟩
theorem tSIt_nat (f:PS→Option (IR×PS)):(tSIt f).nat:=by
 intro R bs xs k
 simp only[tSIt]
 split
 ·simp only[onPS_bind,onXR_bind,iteo_bind,Option.bind_assoc,Option.bind_some]
 ·rfl
theorem hok_tSIt (hW:WOK NG W){l:List (FuncId×PFn)}(hl:AllOK NG W l){lh:List (FuncId×HFn)}(hh:AllH NG W lh){h:Hints}{f:FuncId}{fn:Func}(hf:Tryz.prog.funcs[f]? = some fn)(hb:fn.body.isSome=true)(hname:fn.name ≠ "runtime.NumGoroutine"){g:PS→Option (IR×PS)}(hr:∀ s  r,g s=some r→∃ fu,∀ (K:KR),prunH (enH l lh []) h fu fn [s.box] [.ptr 0 0] K=K [r.2.box] (.agg r.1.cells)):HOK NG W f (tSIt g) :=
 hok hW hl hh allI_nil (h:=h) hf hb hname (tSIt_nat g) fun bs xs r h=>by
  simp only[tSIt] at h
  split at h
  ·obtain⟨s,hbs,hs⟩:=onPS_inv h
   subst hbs
   obtain⟨qq,hq,hend⟩:=Option.bind_eq_some_iff.1 hs
   obtain⟨fu,hr⟩:=hr s _ hq
   exact⟨fu,(hr _).trans hend⟩
  ·cases h
def tSOr (f:PS→Option (OR×PS)):HFn:=⟨fun bs xs k=>match xs with|[.ptr 0 0]=>onPS bs fun s=>(f s).bind fun r=>k [r.2.box] (.agg r.1.cells)|_=>none⟩
theorem tSOr_nat (f:PS→Option (OR×PS)):(tSOr f).nat:=by
 intro R bs xs k
 simp only[tSOr]
 split
 ·simp only[onPS_bind,onXR_bind,iteo_bind,Option.bind_assoc,Option.bind_some]
 ·rfl
theorem hok_tSOr (hW:WOK NG W){l:List (FuncId×PFn)}(hl:AllOK NG W l){lh:List (FuncId×HFn)}(hh:AllH NG W lh){h:Hints}{f:FuncId}{fn:Func}(hf:Tryz.prog.funcs[f]? = some fn)(hb:fn.body.isSome=true)(hname:fn.name ≠ "runtime.NumGoroutine"){g:PS→Option (OR×PS)}(hr:∀ s  r,g s=some r→∃ fu,∀ (K:KR),prunH (enH l lh []) h fu fn [s.box] [.ptr 0 0] K=K [r.2.box] (.agg r.1.cells)):HOK NG W f (tSOr g) :=
 hok hW hl hh allI_nil (h:=h) hf hb hname (tSOr_nat g) fun bs xs r h=>by
  simp only[tSOr] at h
  split at h
  ·obtain⟨s,hbs,hs⟩:=onPS_inv h
   subst hbs
   obtain⟨qq,hq,hend⟩:=Option.bind_eq_some_iff.1 hs
   obtain⟨fu,hr⟩:=hr s _ hq
   exact⟨fu,(hr _).trans hend⟩
  ·cases h
def tSFr (f:PS→Option (SoR×PS)):HFn:=⟨fun bs xs k=>match xs with|[.ptr 0 0]=>onPS bs fun s=>(f s).bind fun r=>k [r.2.box] (.agg r.1.cells)|_=>none⟩
theorem tSFr_nat (f:PS→Option (SoR×PS)):(tSFr f).nat:=by
 intro R bs xs k
 simp only[tSFr]
 split
 ·simp only[onPS_bind,onXR_bind,iteo_bind,Option.bind_assoc,Option.bind_some]
 ·rfl
theorem hok_tSFr (hW:WOK NG W){l:List (FuncId×PFn)}(hl:AllOK NG W l){lh:List (FuncId×HFn)}(hh:AllH NG W lh){h:Hints}{f:FuncId}{fn:Func}(hf:Tryz.prog.funcs[f]? = some fn)(hb:fn.body.isSome=true)(hname:fn.name ≠ "runtime.NumGoroutine"){g:PS→Option (SoR×PS)}(hr:∀ s  r,g s=some r→∃ fu,∀ (K:KR),prunH (enH l lh []) h fu fn [s.box] [.ptr 0 0] K=K [r.2.box] (.agg r.1.cells)):HOK NG W f (tSFr g) :=
 hok hW hl hh allI_nil (h:=h) hf hb hname (tSFr_nat g) fun bs xs r h=>by
  simp only[tSFr] at h
  split at h
  ·obtain⟨s,hbs,hs⟩:=onPS_inv h
   subst hbs
   obtain⟨qq,hq,hend⟩:=Option.bind_eq_some_iff.1 hs
   obtain⟨fu,hr⟩:=hr s _ hq
   exact⟨fu,(hr _).trans hend⟩
  ·cases h
def tSK (f:PS→Option (SlS×PS)):HFn:=⟨fun bs xs k=>match xs with|[.ptr 0 0]=>onPS bs fun s=>(f s).bind fun r=>k [r.2.box] (r.1.pv 13)|_=>none⟩
theorem tSK_nat (f:PS→Option (SlS×PS)):(tSK f).nat:=by
 intro R bs xs k
 simp only[tSK]
 split
 ·simp only[onPS_bind,onXR_bind,iteo_bind,Option.bind_assoc,Option.bind_some]
 ·rfl
theorem hok_tSK (hW:WOK NG W){l:List (FuncId×PFn)}(hl:AllOK NG W l){lh:List (FuncId×HFn)}(hh:AllH NG W lh){h:Hints}{f:FuncId}{fn:Func}(hf:Tryz.prog.funcs[f]? = some fn)(hb:fn.body.isSome=true)(hname:fn.name ≠ "runtime.NumGoroutine"){g:PS→Option (SlS×PS)}(hr:∀ s  r,g s=some r→∃ fu,∀ (K:KR),prunH (enH l lh []) h fu fn [s.box] [.ptr 0 0] K=K [r.2.box] (r.1.pv 13)):HOK NG W f (tSK g) :=
 hok hW hl hh allI_nil (h:=h) hf hb hname (tSK_nat g) fun bs xs r h=>by
  simp only[tSK] at h
  split at h
  ·obtain⟨s,hbs,hs⟩:=onPS_inv h
   subst hbs
   obtain⟨qq,hq,hend⟩:=Option.bind_eq_some_iff.1 hs
   obtain⟨fu,hr⟩:=hr s _ hq
   exact⟨fu,(hr _).trans hend⟩
  ·cases h
def tLEx (f:PS→Int→Option (SlS×PS)):HFn:=⟨fun bs xs k=>match xs with|[.ptr 0 0,.int .i64 m,.clo q [.ptr 0 0]]=>if q=1000000+22 then onPS bs fun s=>(f s m).bind fun r=>k [r.2.box] (r.1.pv 13) else none|_=>none⟩
theorem tLEx_nat (f:PS→Int→Option (SlS×PS)):(tLEx f).nat:=by
 intro R bs xs k
 simp only[tLEx]
 split
 ·simp only[onPS_bind,onXR_bind,iteo_bind,Option.bind_assoc,Option.bind_some]
 ·rfl
theorem hok_tLEx (hW:WOK NG W){l:List (FuncId×PFn)}(hl:AllOK NG W l){lh:List (FuncId×HFn)}(hh:AllH NG W lh){h:Hints}{f:FuncId}{fn:Func}(hf:Tryz.prog.funcs[f]? = some fn)(hb:fn.body.isSome=true)(hname:fn.name ≠ "runtime.NumGoroutine"){g:PS→Int→Option (SlS×PS)}(hr:∀ s (m:Int) r,g s m=some r→∃ fu,∀ (K:KR),prunH (enH l lh []) h fu fn [s.box] [.ptr 0 0,.int .i64 m,.clo (1000000+22) [.ptr 0 0]] K=K [r.2.box] (r.1.pv 13)):HOK NG W f (tLEx g) :=
 hok hW hl hh allI_nil (h:=h) hf hb hname (tLEx_nat g) fun bs xs r h=>by
  simp only[tLEx] at h
  split at h
  ·obtain⟨hzq,h1⟩:=ite_inv h
   subst hzq
   obtain⟨s,hbs,hs⟩:=onPS_inv h1
   subst hbs
   obtain⟨qq,hq,hend⟩:=Option.bind_eq_some_iff.1 hs
   obtain⟨fu,hr⟩:=hr s _ _ hq
   exact⟨fu,(hr _).trans hend⟩
  ·cases h
def tLIt (f:PS→Int→Option (SlS×PS)):HFn:=⟨fun bs xs k=>match xs with|[.ptr 0 0,.int .i64 m,.clo q [.ptr 0 0]]=>if q=1000000+130 then onPS bs fun s=>(f s m).bind fun r=>k [r.2.box] (r.1.pv 14) else none|_=>none⟩
theorem tLIt_nat (f:PS→Int→Option (SlS×PS)):(tLIt f).nat:=by
 intro R bs xs k
 simp only[tLIt]
 split
 ·simp only[onPS_bind,onXR_bind,iteo_bind,Option.bind_assoc,Option.bind_some]
 ·rfl
theorem hok_tLIt (hW:WOK NG W){l:List (FuncId×PFn)}(hl:AllOK NG W l){lh:List (FuncId×HFn)}(hh:AllH NG W lh){h:Hints}{f:FuncId}{fn:Func}(hf:Tryz.prog.funcs[f]? = some fn)(hb:fn.body.isSome=true)(hname:fn.name ≠ "runtime.NumGoroutine"){g:PS→Int→Option (SlS×PS)}(hr:∀ s (m:Int) r,g s m=some r→∃ fu,∀ (K:KR),prunH (enH l lh []) h fu fn [s.box] [.ptr 0 0,.int .i64 m,.clo (1000000+130) [.ptr 0 0]] K=K [r.2.box] (r.1.pv 14)):HOK NG W f (tLIt g) :=
 hok hW hl hh allI_nil (h:=h) hf hb hname (tLIt_nat g) fun bs xs r h=>by
  simp only[tLIt] at h
  split at h
  ·obtain⟨hzq,h1⟩:=ite_inv h
   subst hzq
   obtain⟨s,hbs,hs⟩:=onPS_inv h1
   subst hbs
   obtain⟨qq,hq,hend⟩:=Option.bind_eq_some_iff.1 hs
   obtain⟨fu,hr⟩:=hr s _ _ hq
   exact⟨fu,(hr _).trans hend⟩
  ·cases h
def tLOr (f:PS→Int→Option (SlS×PS)):HFn:=⟨fun bs xs k=>match xs with|[.ptr 0 0,.int .i64 m,.clo q [.ptr 0 0]]=>if q=1000000+134 then onPS bs fun s=>(f s m).bind fun r=>k [r.2.box] (r.1.pv 14) else none|_=>none⟩
theorem tLOr_nat (f:PS→Int→Option (SlS×PS)):(tLOr f).nat:=by
 intro R bs xs k
 simp only[tLOr]
 split
 ·simp only[onPS_bind,onXR_bind,iteo_bind,Option.bind_assoc,Option.bind_some]
 ·rfl
theorem hok_tLOr (hW:WOK NG W){l:List (FuncId×PFn)}(hl:AllOK NG W l){lh:List (FuncId×HFn)}(hh:AllH NG W lh){h:Hints}{f:FuncId}{fn:Func}(hf:Tryz.prog.funcs[f]? = some fn)(hb:fn.body.isSome=true)(hname:fn.name ≠ "runtime.NumGoroutine"){g:PS→Int→Option (SlS×PS)}(hr:∀ s (m:Int) r,g s m=some r→∃ fu,∀ (K:KR),prunH (enH l lh []) h fu fn [s.box] [.ptr 0 0,.int .i64 m,.clo (1000000+134) [.ptr 0 0]] K=K [r.2.box] (r.1.pv 14)):HOK NG W f (tLOr g) :=
 hok hW hl hh allI_nil (h:=h) hf hb hname (tLOr_nat g) fun bs xs r h=>by
  simp only[tLOr] at h
  split at h
  ·obtain⟨hzq,h1⟩:=ite_inv h
   subst hzq
   obtain⟨s,hbs,hs⟩:=onPS_inv h1
   subst hbs
   obtain⟨qq,hq,hend⟩:=Option.bind_eq_some_iff.1 hs
   obtain⟨fu,hr⟩:=hr s _ _ hq
   exact⟨fu,(hr _).trans hend⟩
  ·cases h
end
def roomL {R:Type}(b l:Nat)(x:Option R):Option R:=bif decide (l+1≤9223372036854775807)&&decide ((l+1) * b≤140737488355328) then x else none
def hLs:Hints:=⟨[],[(0,⟨[(0,false),(1,false),(2,false),(7,true)],[31]⟩)]⟩
def frLs (q:FuncId)(z:Nat)(m:Int)(A:SlS)(s:PS):St:=frameB 31 32 [(0,(.ptr 31 0,0)),(1,(.int .i64 m,0)),(2,(.clo q [.ptr 31 0],0)),(7,(A.pv z,40))] [(31,s.box.map fun x=>(x,0))]
structure FLs where
 ff:PS→Option PS
 fs:PS→Nat→List PV→Option (Bool×PS)
 ft:PS→Option (TR×PS)
section
variable {R:Type}
noncomputable def fLEx:Func:=Tryz.f132
noncomputable def enLEx (F:FLs)(fp:PS→Option (XR×PS)):Env:=enH [] [(52,tSU F.ff),(128,tSBl F.fs),(102,tST F.ft),(22,tSX fp)] []
noncomputable def krLEx (F:FLs)(fp:PS→Option (XR×PS))(K:List (List PV)→PV→Option R)(st:St):Option R:=pfinH (enLEx F fp) 1 fLEx st fun bs _ v=>K bs v
noncomputable def lpLEx (F:FLs)(fp:PS→Option (XR×PS))(fu:Nat)(K:List (List PV)→PV→Option R)(n:Nat)(st:St):Option R:=loopK (enLEx F fp) hLs fu (krLEx F fp K) fLEx (fun _=>none) [1,1,0,0] 0 n st
theorem raLEx (F:FLs)(fp:PS→Option (XR×PS))(fu:Nat)(s:PS)(m:Int)(K:List (List PV)→PV→Option R) :
  prunH (enLEx F fp) hLs fu fLEx [s.box] [.ptr 0 0,.int .i64 m,.clo (1000000+22) [.ptr 0 0]] K=lpLEx F fp fu K fu (frLs (1000000+22) 13 m SlS.nil s):=prunHN_eq.trans (by kernel_rfl)
theorem stLEx (F:FLs)(fp:PS→Option (XR×PS))(fu:Nat)(s:PS)(m:Int)(A:SlS)(K:List (List PV)→PV→Option R)(G:St→Option R) :
  stepK (enLEx F fp) hLs fu (krLEx F fp K) fLEx [1,1,0,0] (fun _=>none) (frLs (1000000+22) 13 m A s) (fun st=>pnorm (hLs.loop.lookup 0) st G) =
   bif decide (s.b<0) then bif decide (m≤(A.n:Int)) then (F.ff s).bind fun s=>K [s.box] (A.pv 13) else (fp s).bind fun r=>roomL 152 A.n ((F.fs r.2 1 [.str [44]]).bind fun q=>bif !q.1 then K [q.2.box] ((A.put (r.1.cells)).pv 13) else (F.ft q.2).bind fun t=>G (frLs (1000000+22) 13 m (A.put (r.1.cells)) t.2)) else K [s.box] (A.pv 13):=by kernel_rfl
end
section
variable {R:Type}
noncomputable def fLIt:Func:=Tryz.f129
noncomputable def enLIt (F:FLs)(fp:PS→Option (IR×PS)):Env:=enH [] [(52,tSU F.ff),(128,tSBl F.fs),(102,tST F.ft),(130,tSIt fp)] []
noncomputable def krLIt (F:FLs)(fp:PS→Option (IR×PS))(K:List (List PV)→PV→Option R)(st:St):Option R:=pfinH (enLIt F fp) 1 fLIt st fun bs _ v=>K bs v
noncomputable def lpLIt (F:FLs)(fp:PS→Option (IR×PS))(fu:Nat)(K:List (List PV)→PV→Option R)(n:Nat)(st:St):Option R:=loopK (enLIt F fp) hLs fu (krLIt F fp K) fLIt (fun _=>none) [1,1,0,0] 0 n st
theorem raLIt (F:FLs)(fp:PS→Option (IR×PS))(fu:Nat)(s:PS)(m:Int)(K:List (List PV)→PV→Option R) :
  prunH (enLIt F fp) hLs fu fLIt [s.box] [.ptr 0 0,.int .i64 m,.clo (1000000+130) [.ptr 0 0]] K=lpLIt F fp fu K fu (frLs (1000000+130) 14 m SlS.nil s):=prunHN_eq.trans (by kernel_rfl)
theorem stLIt (F:FLs)(fp:PS→Option (IR×PS))(fu:Nat)(s:PS)(m:Int)(A:SlS)(K:List (List PV)→PV→Option R)(G:St→Option R) :
  stepK (enLIt F fp) hLs fu (krLIt F fp K) fLIt [1,1,0,0] (fun _=>none) (frLs (1000000+130) 14 m A s) (fun st=>pnorm (hLs.loop.lookup 0) st G) =
   bif decide (s.b<0) then bif decide (m≤(A.n:Int)) then (F.ff s).bind fun s=>K [s.box] (A.pv 14) else (fp s).bind fun r=>roomL 168 A.n ((F.fs r.2 1 [.str [44]]).bind fun q=>bif !q.1 then K [q.2.box] ((A.put (r.1.cells)).pv 14) else (F.ft q.2).bind fun t=>G (frLs (1000000+130) 14 m (A.put (r.1.cells)) t.2)) else K [s.box] (A.pv 14):=by kernel_rfl
end
section
variable {R:Type}
noncomputable def fLOr:Func:=Tryz.f133
noncomputable def enLOr (F:FLs)(fp:PS→Option (OR×PS)):Env:=enH [] [(52,tSU F.ff),(128,tSBl F.fs),(102,tST F.ft),(134,tSOr fp)] []
noncomputable def krLOr (F:FLs)(fp:PS→Option (OR×PS))(K:List (List PV)→PV→Option R)(st:St):Option R:=pfinH (enLOr F fp) 1 fLOr st fun bs _ v=>K bs v
noncomputable def lpLOr (F:FLs)(fp:PS→Option (OR×PS))(fu:Nat)(K:List (List PV)→PV→Option R)(n:Nat)(st:St):Option R:=loopK (enLOr F fp) hLs fu (krLOr F fp K) fLOr (fun _=>none) [1,1,0,0] 0 n st
theorem raLOr (F:FLs)(fp:PS→Option (OR×PS))(fu:Nat)(s:PS)(m:Int)(K:List (List PV)→PV→Option R) :
  prunH (enLOr F fp) hLs fu fLOr [s.box] [.ptr 0 0,.int .i64 m,.clo (1000000+134) [.ptr 0 0]] K=lpLOr F fp fu K fu (frLs (1000000+134) 14 m SlS.nil s):=prunHN_eq.trans (by kernel_rfl)
theorem stLOr (F:FLs)(fp:PS→Option (OR×PS))(fu:Nat)(s:PS)(m:Int)(A:SlS)(K:List (List PV)→PV→Option R)(G:St→Option R) :
  stepK (enLOr F fp) hLs fu (krLOr F fp K) fLOr [1,1,0,0] (fun _=>none) (frLs (1000000+134) 14 m A s) (fun st=>pnorm (hLs.loop.lookup 0) st G) =
   bif decide (s.b<0) then bif decide (m≤(A.n:Int)) then (F.ff s).bind fun s=>K [s.box] (A.pv 14) else (fp s).bind fun r=>roomL 160 A.n ((F.fs r.2 1 [.str [44]]).bind fun q=>bif !q.1 then K [q.2.box] ((A.put (r.1.cells)).pv 14) else (F.ft q.2).bind fun t=>G (frLs (1000000+134) 14 m (A.put (r.1.cells)) t.2)) else K [s.box] (A.pv 14):=by kernel_rfl
end
section
variable {R:Type}
end
section
variable {R:Type}
end
section
variable {R:Type}
end
section
variable {R:Type}
end
section
variable {R:Type}
theorem as_raw (fk:PS→List UInt8→Option (Bool×PS))(fn:PS→Option (List UInt8×PS))(fu:Nat)(s:PS)(K:List (List PV)→PV→Option R) :
  prunH (enH [] [(64,tSBw fk),(115,tSS fn)] []) hh0 fu Tryz.f201 [s.box] [.ptr 0 0] K=(fk s [65,83]).bind fun q=>bif !q.1 then K [q.2.box] (.str []) else (fn q.2).bind fun r=>K [r.2.box] (.str r.1):=by kernel_rfl
theorem source_raw (fn fa:PS→Option (List UInt8×PS))(fu:Nat)(s:PS)(K:List (List PV)→PV→Option R) :
  prunH (enH [] [(115,tSS fn),(201,tSS fa)] []) hh0 fu Tryz.f131 [s.box] [.ptr 0 0] K=(fn s).bind fun q=>(fa q.2).bind fun r=>K [r.2.box] (.agg (SoR.cells ⟨q.1,r.1⟩)):=by kernel_rfl
theorem item_raw (fx:PS→Option (XR×PS))(fa:PS→Option (List UInt8×PS))(fu:Nat)(s:PS)(K:List (List PV)→PV→Option R) :
  prunH (enH [] [(22,tSX fx),(201,tSS fa)] []) hh0 fu Tryz.f130 [s.box] [.ptr 0 0] K=(fx s).bind fun q=>(fa q.2).bind fun r=>K [r.2.box] (.agg (IR.cells ⟨q.1,r.1⟩)):=by kernel_rfl
theorem order_raw (fx:PS→Option (XR×PS))(fk:PS→List UInt8→Option (Bool×PS))(fu:Nat)(s:PS)(K:List (List PV)→PV→Option R) :
  prunH (enH [] [(22,tSX fx),(64,tSBw fk)] []) hh0 fu Tryz.f134 [s.box] [.ptr 0 0] K=(fx s).bind fun q=>(fk q.2 [68,69,83,67]).bind fun r=>K [r.2.box] (.agg (OR.cells ⟨q.1,r.1⟩)):=by kernel_rfl
theorem where_raw (fk:PS→List UInt8→Option (Bool×PS))(fx:PS→Option (XR×PS))(fu:Nat)(s:PS)(K:List (List PV)→PV→Option R) :
  prunH (enH [] [(64,tSBw fk),(22,tSX fx)] []) hh0 fu Tryz.f127 [s.box] [.ptr 0 0] K=(fk s [87,72,69,82,69]).bind fun q=>bif !q.1 then K [q.2.box] (SlS.nil.pv 13) else (fx q.2).bind fun r=>K [r.2.box] ((SlS.one r.1.cells).pv 13):=by kernel_rfl
theorem remove_raw (fw:PS→List UInt8→Option PS)(fn:PS→Option (List UInt8×PS))(fh:PS→Option (SlS×PS))(fu:Nat)(s:PS)(K:List (List PV)→PV→Option R) :
  prunH (enH [] [(118,tSUw fw),(115,tSS fn),(127,tSK fh)] []) hh0 fu Tryz.f70 [s.box] [.ptr 0 0] K =
   (fw s [70,82,79,77]).bind fun s=>(fn s).bind fun q=>(fh q.2).bind fun r=>K [r.2.box] (.agg (SR.cells ⟨8,q.1,[],false,.nil,.nil,.nil,.nil,r.1,.nil,.nil,.nil,.nil,.nil,-1⟩)):=by kernel_rfl
structure FSe where
 fs:PS→Nat→List PV→Option (Bool×PS)
 ft:PS→Option (TR×PS)
 li:PS→Int→Option (SlS×PS)
 fw:PS→List UInt8→Option PS
 fo:PS→Option (SoR×PS)
 fk:PS→List UInt8→Option (Bool×PS)
 fx:PS→Option (XR×PS)
 fh:PS→Option (SlS×PS)
 le:PS→Int→Option (SlS×PS)
 lo:PS→Int→Option (SlS×PS)
 fn:PS→Int→Option (Int×PS)
noncomputable def enSe (F:FSe):Env:=enH [] [(128,tSBl F.fs),(102,tST F.ft),(129,tLIt F.li),(118,tSUw F.fw),(131,tSFr F.fo),(64,tSBw F.fk),(22,tSX F.fx),(127,tSK F.fh),(132,tLEx F.le),(133,tLOr F.lo),(135,tSIi F.fn)] []
section
variable (F:FSe) (K:SR→PS→Option R)
def sel4 (it fr on wh gr od:SlS)(s:PS):Option R:=(F.fk s [76,73,77,73,84]).bind fun q=>bif q.1 then (F.fn q.2 1000000).bind fun n=>K ⟨9,[],[],false,.nil,.nil,.nil,.nil,wh,it,fr,on,gr,od,n.1⟩ n.2 else K ⟨9,[],[],false,.nil,.nil,.nil,.nil,wh,it,fr,on,gr,od,-1⟩ q.2
def sel3 (it fr on wh gr:SlS)(s:PS):Option R:=(F.fk s [79,82,68,69,82]).bind fun q=>bif q.1 then (F.fw q.2 [66,89]).bind fun s=>(F.lo s 20).bind fun l=>sel4 F K it fr on wh gr l.1 l.2 else sel4 F K it fr on wh gr .nil q.2
def sel2 (it fr on:SlS)(s:PS):Option R:=(F.fh s).bind fun w=>(F.fk w.2 [71,82,79,85,80]).bind fun q=>bif q.1 then (F.fw q.2 [66,89]).bind fun s=>(F.le s 20).bind fun l=>sel3 F K it fr on w.1 l.1 l.2 else sel3 F K it fr on w.1 .nil q.2
def sel1 (it:SlS)(s:PS):Option R:=(F.fw s [70,82,79,77]).bind fun s=>(F.fo s).bind fun f=>(F.fk f.2 [74,79,73,78]).bind fun j=>bif j.1 then (F.fo j.2).bind fun g=>roomL 32 1 ((F.fw g.2 [79,78]).bind fun s=>(F.fx s).bind fun x=>sel2 F K it ((SlS.one f.1.cells).put g.1.cells) (.one x.1.cells) x.2) else sel2 F K it (.one f.1.cells) .nil j.2
def sel0 (s:PS):Option R:=(F.fs s 1 [.str [42]]).bind fun q=>bif q.1 then (F.ft q.2).bind fun t=>sel1 F K .nil t.2 else (F.li q.2 20).bind fun l=>sel1 F K l.1 l.2
end
theorem selects_raw (F:FSe)(fu:Nat)(s:PS)(K:List (List PV)→PV→Option R):prunH (enSe F) hh0 fu Tryz.f71 [s.box] [.ptr 0 0] K=sel0 F (fun r s=>K [s.box] (.agg r.cells)) s:=by kernel_rfl
structure FSt where
 fk:PS→List UInt8→Option (Bool×PS)
 f1:PS→Option (SR×PS)
 f2:PS→Option (SR×PS)
 f3:PS→Option (SR×PS)
 f4:PS→Option (SR×PS)
 f5:PS→Option (SR×PS)
 f6:PS→Option (SR×PS)
 f7:PS→Option (SR×PS)
 ff:PS→Option PS
noncomputable def enSt (F:FSt):Env:=enH [] [(64,tSBw F.fk),(65,tSSt F.f1),(66,tSSt F.f2),(67,tSSt F.f3),(68,tSSt F.f4),(69,tSSt F.f5),(70,tSSt F.f6),(71,tSSt F.f7),(52,tSU F.ff)] []
def stO (F:FSt)(K:SR→PS→Option R)(s:PS):Option R :=
 (F.fk s [67,82,69,65,84,69]).bind fun q=>bif q.1 then (F.f1 q.2).bind fun r=>K r.1 r.2 else (F.fk q.2 [68,82,79,80]).bind fun q=>bif q.1 then (F.f2 q.2).bind fun r=>K r.1 r.2 else (F.fk q.2 [65,76,84,69,82]).bind fun q=>bif q.1 then (F.f3 q.2).bind fun r=>K r.1 r.2 else
 (F.fk q.2 [73,78,83,69,82,84]).bind fun q=>bif q.1 then (F.f4 q.2).bind fun r=>K r.1 r.2 else (F.fk q.2 [85,80,68,65,84,69]).bind fun q=>bif q.1 then (F.f5 q.2).bind fun r=>K r.1 r.2 else (F.fk q.2 [68,69,76,69,84,69]).bind fun q=>bif q.1 then (F.f6 q.2).bind fun r=>K r.1 r.2 else
 (F.fk q.2 [83,69,76,69,67,84]).bind fun q=>bif q.1 then (F.f7 q.2).bind fun r=>K r.1 r.2 else (F.ff q.2).bind fun s=>K SR.zero s
theorem stmt_raw (F:FSt)(fu:Nat)(s:PS)(K:List (List PV)→PV→Option R):prunH (enSt F) hh0 fu Tryz.f31 [s.box] [.ptr 0 0] K=stO F (fun r s=>K [s.box] (.agg r.cells)) s:=by kernel_rfl
end
def onSR {R:Type}(x:PV)(k:SR→Option R):Option R:=match x with
 | .agg [.int .i64 k1,.str tb,.str nm,.bool un,.sl l1 z1 n1 c1,.sl l2 z2 n2 c2,.sl l3 z3 n3 c3,.sl l4 z4 n4 c4,.sl l5 z5 n5 c5,.sl l6 z6 n6 c6,.sl l7 z7 n7 c7,.sl l8 z8 n8 c8,.sl l9 z9 n9 c9,.sl l10 z10 n10 c10,.int .i64 lim] =>
  if (((z1=1∧z2=10)∧(z3=1∧z4=14))∧((z5=13∧z6=14)∧(z7=2∧z8=13)))∧(z9=13∧z10=14) then k ⟨k1,tb,nm,un,⟨l1,n1,c1⟩,⟨l2,n2,c2⟩,⟨l3,n3,c3⟩,⟨l4,n4,c4⟩,⟨l5,n5,c5⟩,⟨l6,n6,c6⟩,⟨l7,n7,c7⟩,⟨l8,n8,c8⟩,⟨l9,n9,c9⟩,⟨l10,n10,c10⟩,lim⟩ else none
 |_=>none
theorem onSR_inv {R:Type}{x:PV}{k:SR→Option R}{r:R}(h:onSR x k=some r):∃ e:SR,x=.agg e.cells∧k e=some r:=by
 unfold onSR at h
 split at h
 ·obtain⟨hz,h⟩:=ite_inv h
  obtain⟨⟨⟨⟨rfl,rfl⟩,rfl,rfl⟩,⟨rfl,rfl⟩,rfl,rfl⟩,rfl,rfl⟩:=hz
  exact⟨_,rfl,h⟩
 ·cases h
theorem onSR_bind {R S:Type}{x:PV}{k:SR→Option R}{g:R→Option S}:(onSR x k).bind g=onSR x (fun s=>(k s).bind g):=by
 unfold onSR
 split
 ·rw[iteo_bind]
 ·rfl
def tStB (f:SR→Option Bool):PFn:=⟨fun xs k=>match xs with|[x]=>onSR x fun e=>(f e).bind fun b=>k (.bool b)|_=>none,false⟩
theorem tStB_nat (f:SR→Option Bool):(tStB f).nat:=by
 intro R xs k
 simp only[tStB]
 split
 ·simp only[onSR_bind,Option.bind_assoc,Option.bind_some]
 ·rfl
def prEnd (e:SR)(b:Int):Option PV:=bif decide ((0:Int)≤b) then some (.tuple [.agg SR.zero.cells,.int .i64 b,.int .i64 170]) else some (.tuple [.agg e.cells,.int .i64 0,.int .i64 0])
def prTail (fr:SR→Option Bool)(e:SR)(s:PS):Option PV:=bif decide (s.b<0) then (fr e).bind fun ok=>bif !ok then prEnd e 0 else prEnd e s.b else prEnd e s.b
theorem readS_raw (fl:List UInt8→Option LX)(fe:PS→Option (SR×PS))(ff:PS→Option PS)(fr:SR→Option Bool)(fu:Nat)(w:List UInt8) :
  prun (enH [(51,tLx fl),(32,tStB fr)] [(31,tSSt fe),(52,tSU ff)] []) hh0 fu false Tryz.f30 [.str w,.clo 31 [],.clo 32 []] =
   (fl w).bind fun l=>bif l.e != 0 then some (.tuple [.agg SR.zero.cells,.int .i64 l.a,.int .i64 l.e]) else (fe ⟨l.nl,l.n,l.cs,(w.length:Int),0,-1⟩).bind fun e=>bif decide ((0:Int)<(e.2.n:Int)) then (ff e.2).bind fun s=>prTail fr e.1 s else prTail fr e.1 e.2:=by kernel_rfl
theorem roomL_bind {α β:Type}{b l:Nat}{x:Option α}{k:α→Option β}:(roomL b l x).bind k=roomL b l (x.bind k):=by unfold roomL;rw[cond_bindo];rfl
def xE:PS→Option (XR×PS):=(pfs fldF 231).expr
def wE:PS→List UInt8→Option PS:=wantP fldF
theorem ok_xE:HOK NGs Ws 22 (tSX xE):=(pok pdeps 231).expr
theorem ok_wE:HOK NGs Ws 118 (tSUw wE):=ok_want pdeps
def asP (s:PS):Option (List UInt8×PS):=(skipP s [65,83]).bind fun q=>bif !q.1 then some ([],q.2) else (nameP q.2).bind fun r=>some (r.1,r.2)
theorem ok_as:HOK NGs Ws 201 (tSS asP):=hok_tSS woks allOK_nil (allH_cons (ok_skip pdeps) (allH_cons (ok_name pdeps) allH_nil)) Tryz.func201 rfl (by decide) fun s=>⟨0,fun K=>(as_raw _ _ 0 s K).trans (by simp only[asP,cond_bindo,Option.bind_assoc,Option.bind_some])⟩
def sourceP (s:PS):Option (SoR×PS):=(nameP s).bind fun q=>(asP q.2).bind fun r=>some (⟨q.1,r.1⟩,r.2)
theorem ok_source:HOK NGs Ws 131 (tSFr sourceP):=hok_tSFr woks allOK_nil (allH_cons (ok_name pdeps) (allH_cons ok_as allH_nil)) (h:=hh0) Tryz.func131 rfl (by decide) fun s r h=>⟨0,fun K=>(source_raw _ _ 0 s K).trans (Eq.trans (b:=(sourceP s).bind fun r=>K [r.2.box] (.agg r.1.cells)) (by simp only[sourceP,Option.bind_assoc,Option.bind_some]) (by rw[h,Option.bind_some]))⟩
def itemP (s:PS):Option (IR×PS):=(xE s).bind fun q=>(asP q.2).bind fun r=>some (⟨q.1,r.1⟩,r.2)
theorem ok_item:HOK NGs Ws 130 (tSIt itemP):=hok_tSIt woks allOK_nil (allH_cons ok_xE (allH_cons ok_as allH_nil)) (h:=hh0) Tryz.func130 rfl (by decide) fun s r h=>⟨0,fun K=>(item_raw _ _ 0 s K).trans (Eq.trans (b:=(itemP s).bind fun r=>K [r.2.box] (.agg r.1.cells)) (by simp only[itemP,Option.bind_assoc,Option.bind_some]) (by rw[h,Option.bind_some]))⟩
def orderP (s:PS):Option (OR×PS):=(xE s).bind fun q=>(skipP q.2 [68,69,83,67]).bind fun r=>some (⟨q.1,r.1⟩,r.2)
theorem ok_order:HOK NGs Ws 134 (tSOr orderP):=hok_tSOr woks allOK_nil (allH_cons ok_xE (allH_cons (ok_skip pdeps) allH_nil)) (h:=hh0) Tryz.func134 rfl (by decide) fun s r h=>⟨0,fun K=>(order_raw _ _ 0 s K).trans (Eq.trans (b:=(orderP s).bind fun r=>K [r.2.box] (.agg r.1.cells)) (by simp only[orderP,Option.bind_assoc,Option.bind_some]) (by rw[h,Option.bind_some]))⟩
def whereP (s:PS):Option (SlS×PS):=(skipP s [87,72,69,82,69]).bind fun q=>bif !q.1 then some (.nil,q.2) else (xE q.2).bind fun r=>some (.one r.1.cells,r.2)
theorem ok_where:HOK NGs Ws 127 (tSK whereP):=hok_tSK woks allOK_nil (allH_cons (ok_skip pdeps) (allH_cons ok_xE allH_nil)) (h:=hh0) Tryz.func127 rfl (by decide) fun s r h=>⟨0,fun K=>(where_raw _ _ 0 s K).trans (Eq.trans (b:=(whereP s).bind fun r=>K [r.2.box] (r.1.pv 13)) (by simp only[whereP,cond_bindo,Option.bind_assoc,Option.bind_some]) (by rw[h,Option.bind_some]))⟩
def removeP (s:PS):Option (SR×PS):=(wE s [70,82,79,77]).bind fun s=>(nameP s).bind fun q=>(whereP q.2).bind fun r=>some (⟨8,q.1,[],false,.nil,.nil,.nil,.nil,r.1,.nil,.nil,.nil,.nil,.nil,-1⟩,r.2)
theorem ok_remove:HOK NGs Ws 70 (tSSt removeP):=hok_tSSt woks allOK_nil (allH_cons ok_wE (allH_cons (ok_name pdeps) (allH_cons ok_where allH_nil))) (h:=hh0) Tryz.func70 rfl (by decide) fun s r h=>⟨0,fun K=>(remove_raw _ _ _ 0 s K).trans (Eq.trans (b:=(removeP s).bind fun r=>K [r.2.box] (.agg r.1.cells)) (by simp only[removeP,Option.bind_assoc,Option.bind_some]) (by rw[h,Option.bind_some]))⟩
def lsF:FLs:=⟨flP,signP,takeP⟩
def lsP {α:Type}(b:Nat)(cel:α→List PV)(fp:PS→Option (α×PS))(m:Int):Nat→SlS→PS→Option (SlS×PS)
 |0,_,_=>none
 |k+1,A,s=>bif decide (s.b<0) then bif decide (m≤(A.n:Int)) then (flP s).bind fun s=>some (A,s) else (fp s).bind fun r=>roomL b A.n ((signP r.2 1 [.str [44]]).bind fun q=>bif !q.1 then some (A.put (cel r.1),q.2) else (takeP q.2).bind fun t=>lsP b cel fp m k (A.put (cel r.1)) t.2) else some (A,s)
theorem ls_loop {α R:Type}(b z:Nat)(cel:α→List PV)(fp:PS→Option (α×PS))(m:Int)(K:List (List PV)→PV→Option R)(lp:Nat→St→Option R)(fr:SlS→PS→St)
  (hs:∀ n A s,lp (n+1) (fr A s)=bif decide (s.b<0) then bif decide (m≤(A.n:Int)) then (flP s).bind fun s=>K [s.box] (A.pv z) else (fp s).bind fun r=>roomL b A.n ((signP r.2 1 [.str [44]]).bind fun q=>bif !q.1 then K [q.2.box] ((A.put (cel r.1)).pv z) else (takeP q.2).bind fun t=>lp n (fr (A.put (cel r.1)) t.2)) else K [s.box] (A.pv z)) :
  ∀ (k:Nat) (A:SlS) (s:PS) (q:SlS×PS),lsP b cel fp m k A s=some q→lp k (fr A s)=K [q.2.box] (q.1.pv z)
 |0,A,s,q,h=>by cases h
 |k+1,A,s,q,h=>by
  rw[hs]
  rw[lsP] at h
  cases h0:decide (s.b<0) with
  |false =>
   rw[h0,cond_false] at h
   injection h with h
   subst h
   rfl
  |true =>
   rw[h0,cond_true] at h
   rw[cond_true]
   cases h1:decide (m≤(A.n:Int)) with
   |true =>
    rw[h1,cond_true] at h
    obtain⟨s',h2,h⟩:=Option.bind_eq_some_iff.1 h
    injection h with h
    subst h
    rw[cond_true,h2,Option.bind_some]
   |false =>
    rw[h1,cond_false] at h
    obtain⟨r,h2,h⟩:=Option.bind_eq_some_iff.1 h
    rw[cond_false,h2,Option.bind_some]
    unfold roomL at h ⊢
    cases h3:(decide (A.n+1≤9223372036854775807)&&decide ((A.n+1) * b≤140737488355328)) with
    |false=>rw[h3,cond_false] at h;cases h
    |true =>
     rw[h3,cond_true] at h
     obtain⟨p,h4,h⟩:=Option.bind_eq_some_iff.1 h
     rw[cond_true,h4,Option.bind_some]
     cases h5:p.1 with
     |false =>
      rw[h5] at h
      injection h with h
      subst h
      rfl
     |true =>
      rw[h5] at h
      obtain⟨t,h6,h⟩:=Option.bind_eq_some_iff.1 h
      show (takeP p.2).bind _=_
      rw[h6,Option.bind_some]
      exact ls_loop b z cel fp m K lp fr hs k _ _ q h
def lsExP (s:PS)(m:Int):Option (SlS×PS):=lsP 152 XR.cells xE m (m.toNat+2) .nil s
theorem ok_lsEx:HOK NGs Ws 132 (tLEx lsExP) :=
 hok_tLEx woks allOK_nil (allH_cons (ok_fail pdeps) (allH_cons (ok_sign pdeps) (allH_cons (ok_take pdeps) (allH_cons ok_xE allH_nil)))) (h:=hLs) Tryz.func132 rfl (by decide) fun s m r h=>⟨m.toNat+2,fun K=>(raLEx lsF xE _ s m K).trans
  (ls_loop 152 13 XR.cells xE m K (lpLEx lsF xE _ K) (frLs (1000000+22) 13 m) (fun n A s=>by unfold lpLEx;rw[loopK_succ];exact stLEx lsF xE _ s m A K _) _ _ _ _ h)⟩
def lsItP (s:PS)(m:Int):Option (SlS×PS):=lsP 168 IR.cells itemP m (m.toNat+2) .nil s
theorem ok_lsIt:HOK NGs Ws 129 (tLIt lsItP) :=
 hok_tLIt woks allOK_nil (allH_cons (ok_fail pdeps) (allH_cons (ok_sign pdeps) (allH_cons (ok_take pdeps) (allH_cons ok_item allH_nil)))) (h:=hLs) Tryz.func129 rfl (by decide) fun s m r h=>⟨m.toNat+2,fun K=>(raLIt lsF itemP _ s m K).trans
  (ls_loop 168 14 IR.cells itemP m K (lpLIt lsF itemP _ K) (frLs (1000000+130) 14 m) (fun n A s=>by unfold lpLIt;rw[loopK_succ];exact stLIt lsF itemP _ s m A K _) _ _ _ _ h)⟩
def lsOrP (s:PS)(m:Int):Option (SlS×PS):=lsP 160 OR.cells orderP m (m.toNat+2) .nil s
theorem ok_lsOr:HOK NGs Ws 133 (tLOr lsOrP) :=
 hok_tLOr woks allOK_nil (allH_cons (ok_fail pdeps) (allH_cons (ok_sign pdeps) (allH_cons (ok_take pdeps) (allH_cons ok_order allH_nil)))) (h:=hLs) Tryz.func133 rfl (by decide) fun s m r h=>⟨m.toNat+2,fun K=>(raLOr lsF orderP _ s m K).trans
  (ls_loop 160 14 OR.cells orderP m K (lpLOr lsF orderP _ K) (frLs (1000000+134) 14 m) (fun n A s=>by unfold lpLOr;rw[loopK_succ];exact stLOr lsF orderP _ s m A K _) _ _ _ _ h)⟩
def seF:FSe:=⟨signP,takeP,lsItP,wE,sourceP,skipP,xE,whereP,lsExP,lsOrP,numberP⟩
theorem sel0_nat {R:Type}(F:FSe)(K:SR→PS→Option R)(s:PS):sel0 F K s=(sel0 F (fun r s=>some (r,s)) s).bind fun r=>K r.1 r.2:=by
 simp only[sel0,sel1,sel2,sel3,sel4,cond_bindo,roomL_bind,Option.bind_assoc,Option.bind_some]
def selP (s:PS):Option (SR×PS):=sel0 seF (fun r s=>some (r,s)) s
theorem ok_sel:HOK NGs Ws 71 (tSSt selP) :=
 hok_tSSt woks allOK_nil (allH_cons (ok_sign pdeps) (allH_cons (ok_take pdeps) (allH_cons ok_lsIt (allH_cons ok_wE (allH_cons ok_source (allH_cons (ok_skip pdeps) (allH_cons ok_xE (allH_cons ok_where (allH_cons ok_lsEx (allH_cons ok_lsOr (allH_cons (ok_pnumber pdeps) allH_nil))))))))))) (h:=hh0) Tryz.func71 rfl (by decide)
  fun s r h=>⟨0,fun K=>(selects_raw seF 0 s K).trans ((sel0_nat seF _ s).trans (by show (selP s).bind _=_;rw[h,Option.bind_some]))⟩
def noS:PS→Option (SR×PS):=fun _=>none
def stF:FSt:=⟨skipP,noS,noS,noS,noS,noS,removeP,selP,flP⟩
theorem stO_nat {R:Type}(F:FSt)(K:SR→PS→Option R)(s:PS):stO F K s=(stO F (fun r s=>some (r,s)) s).bind fun r=>K r.1 r.2:=by
 simp only[stO,cond_bindo,Option.bind_assoc,Option.bind_some]
def stmtP (s:PS):Option (SR×PS):=stO stF (fun r s=>some (r,s)) s
theorem ok_stmt:HOK NGs Ws 31 (tSSt stmtP) :=
 hok_tSSt woks allOK_nil (allH_cons (ok_skip pdeps) (allH_cons (none_tSSt fun _=>rfl) (allH_cons (none_tSSt fun _=>rfl) (allH_cons (none_tSSt fun _=>rfl) (allH_cons (none_tSSt fun _=>rfl) (allH_cons (none_tSSt fun _=>rfl) (allH_cons ok_remove (allH_cons ok_sel (allH_cons (ok_fail pdeps) allH_nil))))))))) (h:=hh0) Tryz.func31 rfl (by decide)
  fun s r h=>⟨0,fun K=>(stmt_raw stF 0 s K).trans ((stO_nat stF _ s).trans (by show (stmtP s).bind _=_;rw[h,Option.bind_some]))⟩
end Go.Proofs.YtkpfigikffphdaaGreatDoor
end
section
set_option maxRecDepth 100000
namespace Go.Proofs.YtkpfigikffphdaaGreatDoor
open Go.RowKit Go.Lib
theorem zeroCells_sizeX (cs:Array Value)(n:Nat):(Builtin.zeroCells cs n).size=n * cs.size:=by
 simp[Builtin.zeroCells]
set_option maxHeartbeats 4000000 in
theorem grow_expr (n:Nat) (h0:0<n) (hn:n≤1000000) (w:World) :
  Calls Tryz.prog 211 #[.slice none 0 0,.int .i64 n] w fun e w'=>∃ G arr,n≤G∧G≤maxLen∧arr.size=G * 13∧e=.returned (.slice (some ⟨w.heap.size,0,none⟩) 0 G)∧w'=w.drew.alloc (.cells arr 31):=by
 have h1:¬ ((n:Int)<0):=by omega
 have h2:wrap64 ((0:Int)-(0:Int))=0:=by unfold wrap64;omega
 have h3:wrap64 ((n:Int)-0)=(n:Int):=by unfold wrap64;omega
 have h4:(n:Int)>0:=by omega
 obtain⟨i0,hi0,hs0,hb0,z,hz0,hzs⟩:∃ i0,Tryz.prog.info? 31=some i0∧i0.size=13∧i0.bytes≤200∧∃ z,i0.zero=some z∧z.cells.size=13:=⟨Tryz.t31,by kernel_rfl,by kernel_rfl,by decide,_,rfl,by decide⟩
 have hbig:n * i0.bytes≤140737488355328:=Nat.le_trans (Nat.mul_le_mul hn hb0) (by decide)
 have hrz:∀ ty,(Builtin.append_ #[29,3] ty #[.slice none 0 0,.int .i64 (n:Int)]).run Tryz.prog w =
   .ok (.slice (some ⟨w.heap.size,0,none⟩) n (grownCap w n 0 31)) (w.drew.alloc (.cells (#[]++Builtin.zeroCells z.cells n++Builtin.zeroCells z.cells (grownCap w n 0 31-n)) 31)):=fun ty=>by
  have h:=Lib.run_append_grow_zeros w 29 3 ty 31 i0 z .i64 .i64 Tryz.underlying29 Tryz.underlying3 hi0 hz0 none 0 0 [] (run_firstCells_none w.drew i0.size 0 0 0) n h0 (by omega) (by omega) (by omega) (by omega)
   (by rw[Nat.zero_add];exact growslice_fits (by omega) hbig)
  rw[Nat.zero_add] at h
  exact h
 have hGn:n≤grownCap w n 0 31:=grownCap_ge w _ _ _
 have hGm:grownCap w n 0 31≤maxLen:=grownCap_le_maxLen w n 0 31 (by unfold maxLen;omega)
 obtain⟨G,hG⟩:∃ G,G=grownCap w n 0 31:=⟨_,rfl⟩
 rw[← hG] at hrz hGn hGm
 have hG63:G≤9223372036854775807:=by unfold maxLen at hGm;omega
 clear hG
 have key:Calls Tryz.prog 211 #[.slice none 0 0,.int .i64 n] w fun e w'=>e=.returned (.slice (some ⟨w.heap.size,0,none⟩) 0 G)∧w'=w.drew.alloc (.cells (#[]++Builtin.zeroCells z.cells n++Builtin.zeroCells z.cells (G-n)) 31):=by
  go_enter Tryz.func211,Tryz.ntmps211
  go_wp2_with (at_builtin;refine Lib.wpList_append_run _ rfl _ _ _ _ rfl _ _ rfl rfl _ _ (hrz _) ?_)
  all_goals (go_ret;exact⟨rfl,rfl⟩)
 exact key.mono fun e w' ⟨h1,h2⟩=>⟨G,_,hGn,hGm,by
  simp only[Array.size_append,zeroCells_sizeX,hzs]
  simp only[List.size_toArray,List.length_nil]
  rw[Nat.zero_add,← Nat.add_mul]
  congr 1;omega,h1,h2⟩
theorem cond_natX {R:Type}{b:Bool}{x:PV}{k:PV→Option R}:(bif b then k x else none)=(bif b then some x else none).bind k:=by cases b<;>rfl
def p_growX:PFn:=⟨fun xs k=>match xs with|[.sl (some true) 13 0 [],.int .i64 n]=>bif decide (0<n)&&decide (n≤1000000) then k (.sl (some false) 13 0 []) else none|_=>none,true⟩
theorem ok_growX {NG:Nat}{W:World→Prop}:FOK NG W 211 p_growX where
 nat:=by
  intro R xs k
  simp only[p_growX]
  split
  ·exact Go.Proofs.YtkpfigikffphdaaGreatDoor.cond_natX
  ·rfl
 call := by
  intro M xs vs r hW hng hG hr h
  simp only[p_growX] at h
  split at h
  ·rename_i n
   rcases hb:(decide (0<n)&&decide (n≤1000000)) with _|_<;>rw[hb] at h
   ·cases h
   simp only[Bool.and_eq_true,decide_eq_true_eq] at hb
   injection h with h
   subst h
   simp only[RelT,RelD] at hr
   obtain⟨_,_,rfl,⟨A,c,cs,rfl,h1,h2,h3,h4,h5,h6,h7⟩,_,_,rfl,rfl,rfl⟩:=hr
   have hA:=h3 true rfl
   obtain rfl:A=none:=by cases A<;>simp_all
   obtain rfl:=h4 rfl
   obtain⟨m,rfl⟩:∃ m:Nat,n=(m:Int):=⟨n.toNat,by omega⟩
   refine .inr ⟨?_,(grow_expr m (by omega) (by omega) M.w).mono ?_⟩
   ·show (callFunc _ _).run Tryz.prog M.w=_
    simp[callFunc,Tryz.func211]
    rw[if_neg (by decide),if_neg (by decide)]
   ·rintro e w' ⟨G,arr,g1,g2,g3,rfl,rfl⟩
    have hb1:Below M.w.heap.size M.w M.w.drew:=(Below.refl _ _).drew
    have hm:Move M (M.lay (M.w.drew.alloc (.cells arr 31)) M.w.heap.size 0) none:=Move.lay (below_alloc hb1 _) (Nat.le_refl _) 0
    refine⟨_,rfl,_,hm,?_,fun _=>⟨_,_,_,_,rfl,.inr ⟨M.w.heap.size,Nat.le_refl _,⟨0,G,arr,31,rfl,heap_alloc_new _ _,Nat.zero_le _,g2,g3,?_⟩⟩⟩⟩
    ·simp only[RelD]
     exact⟨_,G,[],rfl,Nat.zero_le _,g2,(fun b hb=>(by cases hb;rfl)),(fun h=>(by cases h)),rfl,rfl,Or.inl rfl⟩
    ·simp[Mem.lay]
  ·cases h
theorem grow_zeroX (w:World):Calls Tryz.prog 211 #[.slice none 0 0,.int .i64 0] w fun e w'=>e=.returned (.slice none 0 0)∧w'=w:=by
 have h2:wrap64 ((0:Int)-(0:Int))=0:=by unfold wrap64;omega
 go_enter Tryz.func211,Tryz.ntmps211
 go_wp2
 all_goals (go_ret;exact⟨rfl,rfl⟩)
def p_growY:PFn:=⟨fun xs k=>match xs with|[.sl (some true) 13 0 [],.int .i64 n]=>bif decide (0≤n)&&decide (n≤1000000) then k (.sl (some (n==0)) 13 0 []) else none|_=>none,true⟩
theorem ok_growY {NG:Nat}{W:World→Prop}:FOK NG W 211 p_growY where
 nat:=by
  intro R xs k
  simp only[p_growY]
  split
  ·exact Go.Proofs.YtkpfigikffphdaaGreatDoor.cond_natX
  ·rfl
 call := by
  intro M xs vs r hW hng hG hr h
  simp only[p_growY] at h
  split at h
  ·rename_i n
   rcases hb:(decide (0≤n)&&decide (n≤1000000)) with _|_<;>rw[hb] at h
   ·cases h
   simp only[Bool.and_eq_true,decide_eq_true_eq] at hb
   by_cases h0:n=0
   ·subst h0
    injection h with h
    subst h
    simp only[RelT,RelD] at hr
    obtain⟨_,_,rfl,⟨A,c,cs,rfl,h1,h2,h3,h4,h5,h6,h7⟩,_,_,rfl,rfl,rfl⟩:=hr
    have hA:=h3 true rfl
    obtain rfl:A=none:=by cases A<;>simp_all
    obtain rfl:=h4 rfl
    refine .inr ⟨?_,(grow_zeroX M.w).mono ?_⟩
    ·show (callFunc _ _).run Tryz.prog M.w=_
     simp[callFunc,Tryz.func211]
     rw[if_neg (by decide),if_neg (by decide)]
    ·rintro e w' ⟨rfl,rfl⟩
     refine⟨_,rfl,M.U,Move.refl _,?_,fun _=>⟨_,_,_,_,rfl,.inl ⟨none,0,rfl⟩⟩⟩
     simp only[RelD]
     exact⟨none,0,cs,rfl,Nat.le_refl _,h2,h3,h4,h5,h6,h7⟩
   ·have hr2:p_growX.F [.sl (some true) 13 0 [],.int .i64 n] (R:=PV) some=some r:=by
     simp only[p_growX]
     rw[cond_true,show (n==0)=false from beq_eq_false_iff_ne.2 h0] at h
     rw[cond_t (by rw[decide_eq_true (by omega),decide_eq_true hb.2];rfl)]
     exact h
    exact ok_growX.call M _ vs r hW hng hG hr hr2
  ·cases h
def tTr {R:Type}(x:Option Bool)(k:PV→Option R):Option R:=x.bind fun r=>bif r then k (.bool true) else none
theorem tTr_bind {R S:Type}{x:Option Bool}{k:PV→Option R}{g:R→Option S}:(tTr x k).bind g=tTr x fun v=>(k v).bind g:=by
 cases x with
 |none=>rfl
 |some b=>cases b<;>rfl
theorem tTr_inv {R:Type}{x:Option Bool}{k:PV→Option R}{r:R}(h:tTr x k=some r):x=some true∧k (.bool true)=some r:=by
 cases x with
 |none=>cases h
 |some b =>
  cases b
  ·cases h
  ·exact⟨rfl,h⟩
def tKKt (f:Nat→List PV→Nat→List PV→Option Bool):PFn:=⟨fun xs k=>match xs with|[.sl _ zn n c,.sl _ zm m d]=>if zn=13 then if zm=13 then tTr (f n c m d) k else none else none|_=>none,false⟩
theorem tKKt_nat (f:Nat→List PV→Nat→List PV→Option Bool):(tKKt f).nat:=by
 intro R xs k
 simp only[tKKt]
 split
 ·simp only[iteo_bind,tTr_bind]
  rfl
 ·rfl
theorem ok_sms:FOK NGs Ws 29 (tKKt (smsD 6000)):=fok_wk (ok_sames (ok_same 6000)) (tKKt_nat _) rfl fun xs r h=>by
 simp only[tKKt] at h
 split at h
 ·obtain⟨h1,h⟩:=ite_inv h
  obtain⟨h2,h⟩:=ite_inv h
  obtain⟨h3,h⟩:=tTr_inv h
  simp only[tKK,h1,h2,if_true,h3]
  exact h
 ·cases h
def tXXt (f:XR→XR→Option Bool):PFn:=⟨fun xs k=>match xs with|[xe,xd]=>onXR xe fun e=>onXR xd fun d=>tTr (f e d) k|_=>none,false⟩
theorem tXXt_nat (f:XR→XR→Option Bool):(tXXt f).nat:=by
 intro R xs k
 simp only[tXXt]
 split
 ·simp only[onXR_bind,tTr_bind]
  rfl
 ·rfl
theorem ok_smx:FOK NGs Ws 12 (tXXt (smD 6000)):=fok_wk (ok_same 6000) (tXXt_nat _) rfl fun xs r h=>by
 simp only[tXXt] at h
 split at h
 ·obtain⟨e,he,h1⟩:=onXR_inv h
  obtain⟨d,hd,h2⟩:=onXR_inv h1
  obtain⟨h3,h4⟩:=tTr_inv h2
  subst he hd
  have e:(tXX (smD 6000)).F [.agg e.cells,.agg d.cells] (R:=PV) some=(smD 6000 e d).bind fun b=>some (.bool b):=rfl
  rw[e,h3]
  exact h4
 ·cases h
def tXBt (f:XR→Option Bool):PFn:=⟨fun xs k=>match xs with|[xe]=>onXR xe fun e=>tTr (f e) k|_=>none,false⟩
theorem tXBt_nat (f:XR→Option Bool):(tXBt f).nat:=by
 intro R xs k
 simp only[tXBt]
 split
 ·simp only[onXR_bind,tTr_bind]
  rfl
 ·rfl
theorem ok_rgx:FOK NGs Ws 23 (tXBt rgX):=fok_wk ok_rightX (tXBt_nat _) rfl fun xs r h=>by
 simp only[tXBt] at h
 split at h
 ·obtain⟨e,he,h1⟩:=onXR_inv h
  obtain⟨h3,h4⟩:=tTr_inv h1
  subst he
  have e:(tXB rgX).F [.agg e.cells] (R:=PV) some=(rgX e).bind fun b=>some (.bool b):=rfl
  rw[e,h3]
  exact h4
 ·cases h
noncomputable def v_zsyntax_short:PFn:=evalFn [] ⟨[],[]⟩ 6 Tryz.f72
theorem ok_zsyntax_short:FOK NGs Ws 72 v_zsyntax_short:=evalFn_ok woks allOK_nil Tryz.func72 rfl (by decide)
noncomputable def v_zdecimal_Right:PFn:=evalFn [] ⟨[],[]⟩ 6 Tryz.f163
theorem ok_zdecimal_Right:FOK NGs Ws 163 v_zdecimal_Right:=evalFn_ok woks allOK_nil Tryz.func163 rfl (by decide)
noncomputable def v_zvalue_RightType:PFn:=evalFn [(163,v_zdecimal_Right)] ⟨[],[]⟩ 6 Tryz.f82
theorem ok_zvalue_RightType:FOK NGs Ws 82 v_zvalue_RightType:=evalFn_ok woks (allOK_cons ok_zdecimal_Right allOK_nil) Tryz.func82 rfl (by decide)
noncomputable def v_zslices_IndexFunc___api_Column_api_Column_:PFn:=evalFn [] ⟨[],[(0,⟨[(0,false),(1,false),(7,false),(8,false)],[]⟩)]⟩ 6 Tryz.f202
theorem ok_zslices_IndexFunc___api_Column_api_Column_:FOK NGs Ws 202 v_zslices_IndexFunc___api_Column_api_Column_:=evalFn_ok woks allOK_nil Tryz.func202 rfl (by decide)
noncomputable def v_zslices_ContainsFunc___api_Column_api_Column_:PFn:=evalFn [(202,v_zslices_IndexFunc___api_Column_api_Column_)] ⟨[],[]⟩ 6 Tryz.f137
theorem ok_zslices_ContainsFunc___api_Column_api_Column_:FOK NGs Ws 137 v_zslices_ContainsFunc___api_Column_api_Column_:=evalFn_ok woks (allOK_cons ok_zslices_IndexFunc___api_Column_api_Column_ allOK_nil) Tryz.func137 rfl (by decide)
noncomputable def v_zunicode_utf8_word_string_:PFn:=evalFn [] ⟨[],[]⟩ 6 Tryz.f278
theorem ok_zunicode_utf8_word_string_:FOK NGs Ws 278 v_zunicode_utf8_word_string_:=evalFn_ok woks allOK_nil Tryz.func278 rfl (by decide)
noncomputable def v_zunicode_utf8_ValidString:PFn:=evalFn [(278,v_zunicode_utf8_word_string_)] ⟨[],[(2,⟨[(0,false)],[]⟩),(0,⟨[(0,false)],[]⟩)]⟩ 6 Tryz.f257
theorem ok_zunicode_utf8_ValidString:FOK NGs Ws 257 v_zunicode_utf8_ValidString:=evalFn_ok woks (allOK_cons ok_zunicode_utf8_word_string_ allOK_nil) Tryz.func257 rfl (by decide)
noncomputable def v_zvalue_Right:PFn:=evalFn [(163,v_zdecimal_Right),(257,v_zunicode_utf8_ValidString)] ⟨[],[]⟩ 6 Tryz.f231
theorem ok_zvalue_Right:FOK NGs Ws 231 v_zvalue_Right:=evalFn_ok woks (allOK_cons ok_zdecimal_Right (allOK_cons ok_zunicode_utf8_ValidString allOK_nil)) Tryz.func231 rfl (by decide)
noncomputable def v_zvalue_Of:PFn:=evalFn [(82,v_zvalue_RightType),(231,v_zvalue_Right)] ⟨[],[]⟩ 6 Tryz.f203
theorem ok_zvalue_Of:FOK NGs Ws 203 v_zvalue_Of:=evalFn_ok woks (allOK_cons ok_zvalue_RightType (allOK_cons ok_zvalue_Right allOK_nil)) Tryz.func203 rfl (by decide)
noncomputable def v_zsyntax_columnOf:PFn:=evalFn [(82,v_zvalue_RightType),(136,tNm),(203,v_zvalue_Of)] ⟨[],[]⟩ 6 Tryz.f139
theorem ok_zsyntax_columnOf:FOK NGs Ws 139 v_zsyntax_columnOf:=evalFn_ok woks (allOK_cons ok_zvalue_RightType (allOK_cons ok_sName (allOK_cons ok_zvalue_Of allOK_nil))) Tryz.func139 rfl (by decide)
noncomputable def v_zslices_IndexFunc___string_string_:PFn:=evalFn [] ⟨[],[(0,⟨[(0,false),(1,false),(7,false),(8,false)],[]⟩)]⟩ 6 Tryz.f237
theorem ok_zslices_IndexFunc___string_string_:FOK NGs Ws 237 v_zslices_IndexFunc___string_string_:=evalFn_ok woks allOK_nil Tryz.func237 rfl (by decide)
noncomputable def v_zslices_ContainsFunc___string_string_:PFn:=evalFn [(237,v_zslices_IndexFunc___string_string_)] ⟨[],[]⟩ 6 Tryz.f204
theorem ok_zslices_ContainsFunc___string_string_:FOK NGs Ws 204 v_zslices_ContainsFunc___string_string_:=evalFn_ok woks (allOK_cons ok_zslices_IndexFunc___string_string_ allOK_nil) Tryz.func204 rfl (by decide)
noncomputable def v_zsyntax_names:PFn:=evalFn [(204,v_zslices_ContainsFunc___string_string_)] ⟨[],[]⟩ 6 Tryz.f140
theorem ok_zsyntax_names:FOK NGs Ws 140 v_zsyntax_names:=evalFn_ok woks (allOK_cons ok_zslices_ContainsFunc___string_string_ allOK_nil) Tryz.func140 rfl (by decide)
noncomputable def v_zslices_IndexFunc_____api_Expr___api_Expr_:PFn:=evalFn [] ⟨[],[(0,⟨[(0,false),(1,false),(7,false),(8,false)],[]⟩)]⟩ 6 Tryz.f206
theorem ok_zslices_IndexFunc_____api_Expr___api_Expr_:FOK NGs Ws 206 v_zslices_IndexFunc_____api_Expr___api_Expr_:=evalFn_ok woks allOK_nil Tryz.func206 rfl (by decide)
noncomputable def v_zslices_ContainsFunc_____api_Expr___api_Expr_:PFn:=evalFn [(206,v_zslices_IndexFunc_____api_Expr___api_Expr_)] ⟨[],[]⟩ 6 Tryz.f141
theorem ok_zslices_ContainsFunc_____api_Expr___api_Expr_:FOK NGs Ws 141 v_zslices_ContainsFunc_____api_Expr___api_Expr_:=evalFn_ok woks (allOK_cons ok_zslices_IndexFunc_____api_Expr___api_Expr_ allOK_nil) Tryz.func141 rfl (by decide)
noncomputable def v_zslices_IndexFunc___api_Set_api_Set_:PFn:=evalFn [] ⟨[],[(0,⟨[(0,false),(1,false),(7,false),(8,false)],[]⟩)]⟩ 6 Tryz.f207
theorem ok_zslices_IndexFunc___api_Set_api_Set_:FOK NGs Ws 207 v_zslices_IndexFunc___api_Set_api_Set_:=evalFn_ok woks allOK_nil Tryz.func207 rfl (by decide)
noncomputable def v_zslices_ContainsFunc___api_Set_api_Set_:PFn:=evalFn [(207,v_zslices_IndexFunc___api_Set_api_Set_)] ⟨[],[]⟩ 6 Tryz.f143
theorem ok_zslices_ContainsFunc___api_Set_api_Set_:FOK NGs Ws 143 v_zslices_ContainsFunc___api_Set_api_Set_:=evalFn_ok woks (allOK_cons ok_zslices_IndexFunc___api_Set_api_Set_ allOK_nil) Tryz.func143 rfl (by decide)
noncomputable def v_zsyntax_optional:PFn:=evalFn [(136,tNm)] ⟨[],[]⟩ 6 Tryz.f208
theorem ok_zsyntax_optional:FOK NGs Ws 208 v_zsyntax_optional:=evalFn_ok woks (allOK_cons ok_sName allOK_nil) Tryz.func208 rfl (by decide)
noncomputable def v_zsyntax_selects_1:PFn:=evalFn [(208,v_zsyntax_optional)] ⟨[],[]⟩ 6 Tryz.f210
theorem ok_zsyntax_selects_1:FOK NGs Ws 210 v_zsyntax_selects_1:=evalFn_ok woks (allOK_cons ok_zsyntax_optional allOK_nil) Tryz.func210 rfl (by decide)
noncomputable def v_zslices_IndexFunc___api_Item_api_Item_:PFn:=evalFn [(210,v_zsyntax_selects_1)] ⟨[],[(0,⟨[(0,false),(1,false),(7,false),(8,false)],[]⟩)]⟩ 6 Tryz.f238
theorem ok_zslices_IndexFunc___api_Item_api_Item_:FOK NGs Ws 238 v_zslices_IndexFunc___api_Item_api_Item_:=evalFn_ok woks (allOK_cons ok_zsyntax_selects_1 allOK_nil) Tryz.func238 rfl (by decide)
noncomputable def v_zslices_ContainsFunc___api_Item_api_Item_:PFn:=evalFn [(238,v_zslices_IndexFunc___api_Item_api_Item_)] ⟨[],[]⟩ 6 Tryz.f209
theorem ok_zslices_ContainsFunc___api_Item_api_Item_:FOK NGs Ws 209 v_zslices_ContainsFunc___api_Item_api_Item_:=evalFn_ok woks (allOK_cons ok_zslices_IndexFunc___api_Item_api_Item_ allOK_nil) Tryz.func209 rfl (by decide)
noncomputable def v_zsyntax_selects:PFn:=evalFn [(136,tNm),(208,v_zsyntax_optional),(209,v_zslices_ContainsFunc___api_Item_api_Item_)] ⟨[],[(0,⟨[(1,false),(41,false),(42,false),(43,false)],[1]⟩)]⟩ 6 Tryz.f145
theorem ok_zsyntax_selects:FOK NGs Ws 145 v_zsyntax_selects:=evalFn_ok woks (allOK_cons ok_sName (allOK_cons ok_zsyntax_optional (allOK_cons ok_zslices_ContainsFunc___api_Item_api_Item_ allOK_nil))) Tryz.func145 rfl (by decide)
noncomputable def v_zsyntax_parts:PFn:=evalFn [(82,v_zvalue_RightType),(136,tNm),(137,v_zslices_ContainsFunc___api_Column_api_Column_),(139,v_zsyntax_columnOf),(140,v_zsyntax_names),(141,v_zslices_ContainsFunc_____api_Expr___api_Expr_),(143,v_zslices_ContainsFunc___api_Set_api_Set_),(145,v_zsyntax_selects)] ⟨[],[]⟩ 6 Tryz.f73
theorem ok_zsyntax_parts:FOK NGs Ws 73 v_zsyntax_parts:=evalFn_ok woks (allOK_cons ok_zvalue_RightType (allOK_cons ok_sName (allOK_cons ok_zslices_ContainsFunc___api_Column_api_Column_ (allOK_cons ok_zsyntax_columnOf (allOK_cons ok_zsyntax_names (allOK_cons ok_zslices_ContainsFunc_____api_Expr___api_Expr_ (allOK_cons ok_zslices_ContainsFunc___api_Set_api_Set_ (allOK_cons ok_zsyntax_selects allOK_nil)))))))) Tryz.func73 rfl (by decide)
noncomputable def v_zslices_Equal___string_string_:PFn:=evalFn [] ⟨[],[(0,⟨[(0,false),(1,false),(12,false),(13,false)],[]⟩)]⟩ 6 Tryz.f146
theorem ok_zslices_Equal___string_string_:FOK NGs Ws 146 v_zslices_Equal___string_string_:=evalFn_ok woks allOK_nil Tryz.func146 rfl (by decide)
noncomputable def v_zslices_Equal___api_Column_api_Column_:PFn:=evalFn [] ⟨[],[(0,⟨[(0,false),(1,false),(12,false),(13,false)],[]⟩)]⟩ 6 Tryz.f147
theorem ok_zslices_Equal___api_Column_api_Column_:FOK NGs Ws 147 v_zslices_Equal___api_Column_api_Column_:=evalFn_ok woks allOK_nil Tryz.func147 rfl (by decide)
noncomputable def v_zslices_Equal___api_Source_api_Source_:PFn:=evalFn [] ⟨[],[(0,⟨[(0,false),(1,false),(12,false),(13,false)],[]⟩)]⟩ 6 Tryz.f148
theorem ok_zslices_Equal___api_Source_api_Source_:FOK NGs Ws 148 v_zslices_Equal___api_Source_api_Source_:=evalFn_ok woks allOK_nil Tryz.func148 rfl (by decide)
noncomputable def v_zslices_EqualFunc_____api_Expr_____api_Expr___api_Expr___api_Expr_:PFn:=evalFn [] ⟨[],[(0,⟨[(1,false),(2,false),(15,false),(16,false),(17,false)],[]⟩)]⟩ 6 Tryz.f149
theorem ok_zslices_EqualFunc_____api_Expr_____api_Expr___api_Expr___api_Expr_:FOK NGs Ws 149 v_zslices_EqualFunc_____api_Expr_____api_Expr___api_Expr___api_Expr_:=evalFn_ok woks allOK_nil Tryz.func149 rfl (by decide)
noncomputable def v_zslices_EqualFunc___api_Set___api_Set_api_Set_api_Set_:PFn:=evalFn [] ⟨[],[(0,⟨[(1,false),(2,false),(15,false),(16,false),(17,false)],[]⟩)]⟩ 6 Tryz.f150
theorem ok_zslices_EqualFunc___api_Set___api_Set_api_Set_api_Set_:FOK NGs Ws 150 v_zslices_EqualFunc___api_Set___api_Set_api_Set_api_Set_:=evalFn_ok woks allOK_nil Tryz.func150 rfl (by decide)
noncomputable def v_zsyntax_Same_2 (fx:XR→XR→Option Bool):PFn:=evalFn [(12,(tXXt fx))] ⟨[],[]⟩ 6 Tryz.f153
theorem ok_zsyntax_Same_2:FOK NGs Ws 153 (v_zsyntax_Same_2 (smD 6000)):=evalFn_ok woks (allOK_cons ok_smx allOK_nil) Tryz.func153 rfl (by decide)
noncomputable def v_zslices_EqualFunc___api_Item___api_Item_api_Item_api_Item_ (fx:XR→XR→Option Bool):PFn:=evalFn [(153,(v_zsyntax_Same_2 fx))] ⟨[],[(0,⟨[(1,false),(2,false),(15,false),(16,false),(17,false)],[]⟩)]⟩ 6 Tryz.f152
theorem ok_zslices_EqualFunc___api_Item___api_Item_api_Item_api_Item_:FOK NGs Ws 152 (v_zslices_EqualFunc___api_Item___api_Item_api_Item_api_Item_ (smD 6000)):=evalFn_ok woks (allOK_cons ok_zsyntax_Same_2 allOK_nil) Tryz.func152 rfl (by decide)
noncomputable def v_zslices_EqualFunc___api_Order___api_Order_api_Order_api_Order_:PFn:=evalFn [] ⟨[],[(0,⟨[(1,false),(2,false),(15,false),(16,false),(17,false)],[]⟩)]⟩ 6 Tryz.f154
theorem ok_zslices_EqualFunc___api_Order___api_Order_api_Order_api_Order_:FOK NGs Ws 154 v_zslices_EqualFunc___api_Order___api_Order_api_Order_api_Order_:=evalFn_ok woks allOK_nil Tryz.func154 rfl (by decide)
noncomputable def v_zsyntax_Same (fs:Nat→List PV→Nat→List PV→Option Bool)(fx:XR→XR→Option Bool):PFn:=evalFn [(29,(tKKt fs)),(146,v_zslices_Equal___string_string_),(147,v_zslices_Equal___api_Column_api_Column_),(148,v_zslices_Equal___api_Source_api_Source_),(149,v_zslices_EqualFunc_____api_Expr_____api_Expr___api_Expr___api_Expr_),(150,v_zslices_EqualFunc___api_Set___api_Set_api_Set_api_Set_),(152,(v_zslices_EqualFunc___api_Item___api_Item_api_Item_api_Item_ fx)),(154,v_zslices_EqualFunc___api_Order___api_Order_api_Order_api_Order_)] ⟨[],[]⟩ 6 Tryz.f74
theorem ok_zsyntax_Same:FOK NGs Ws 74 (v_zsyntax_Same (smsD 6000) (smD 6000)):=evalFn_ok woks (allOK_cons ok_sms (allOK_cons ok_zslices_Equal___string_string_ (allOK_cons ok_zslices_Equal___api_Column_api_Column_ (allOK_cons ok_zslices_Equal___api_Source_api_Source_ (allOK_cons ok_zslices_EqualFunc_____api_Expr_____api_Expr___api_Expr___api_Expr_ (allOK_cons ok_zslices_EqualFunc___api_Set___api_Set_api_Set_api_Set_ (allOK_cons ok_zslices_EqualFunc___api_Item___api_Item_api_Item_api_Item_ (allOK_cons ok_zslices_EqualFunc___api_Order___api_Order_api_Order_api_Order_ allOK_nil)))))))) Tryz.func74 rfl (by decide)
noncomputable def v_zsyntax_Right_1 (fr:XR→Option Bool):PFn:=evalFn [(23,(tXBt fr))] ⟨[],[]⟩ 6 Tryz.f77
theorem ok_zsyntax_Right_1:FOK NGs Ws 77 (v_zsyntax_Right_1 rgX):=evalFn_ok woks (allOK_cons ok_rgx allOK_nil) Tryz.func77 rfl (by decide)
noncomputable def v_zslices_IndexFunc___api_Expr_api_Expr_ (fr:XR→Option Bool):PFn:=evalFn [(77,(v_zsyntax_Right_1 fr))] ⟨[],[(0,⟨[(0,false),(1,false),(7,false),(8,false)],[]⟩)]⟩ 6 Tryz.f156
theorem ok_zslices_IndexFunc___api_Expr_api_Expr_:FOK NGs Ws 156 (v_zslices_IndexFunc___api_Expr_api_Expr_ rgX):=evalFn_ok woks (allOK_cons ok_zsyntax_Right_1 allOK_nil) Tryz.func156 rfl (by decide)
noncomputable def v_zslices_ContainsFunc___api_Expr_api_Expr_ (fr:XR→Option Bool):PFn:=evalFn [(156,(v_zslices_IndexFunc___api_Expr_api_Expr_ fr))] ⟨[],[]⟩ 6 Tryz.f75
theorem ok_zslices_ContainsFunc___api_Expr_api_Expr_:FOK NGs Ws 75 (v_zslices_ContainsFunc___api_Expr_api_Expr_ rgX):=evalFn_ok woks (allOK_cons ok_zslices_IndexFunc___api_Expr_api_Expr_ allOK_nil) Tryz.func75 rfl (by decide)
noncomputable def v_zslices_Concat___api_Expr_api_Expr_:PFn:=evalFn [(211,p_growY)] ⟨[],[(2,⟨[(6,true),(25,false),(26,false),(27,false)],[]⟩),(0,⟨[(0,false),(3,false),(9,false),(10,false),(11,false)],[]⟩)]⟩ 6 Tryz.f157 true
theorem ok_zslices_Concat___api_Expr_api_Expr_:FOK NGs Ws 157 v_zslices_Concat___api_Expr_api_Expr_:=evalFn_ok woks (allOK_cons ok_growY allOK_nil) Tryz.func157 rfl (by decide)
noncomputable def v_zsyntax_Exprs:PFn:=evalFn [(157,v_zslices_Concat___api_Expr_api_Expr_)] ⟨[],[(4,⟨[(3,true),(49,false),(50,false),(51,false)],[]⟩),(2,⟨[(1,false),(3,true),(27,false),(28,false),(29,false)],[1]⟩),(0,⟨[(1,false),(3,true),(14,false),(15,false),(16,false)],[1]⟩)]⟩ 6 Tryz.f76
theorem ok_zsyntax_Exprs:FOK NGs Ws 76 v_zsyntax_Exprs:=evalFn_ok woks (allOK_cons ok_zslices_Concat___api_Expr_api_Expr_ allOK_nil) Tryz.func76 rfl (by decide)
noncomputable def v_zsyntax_Right (fs:Nat→List PV→Nat→List PV→Option Bool)(fx:XR→XR→Option Bool)(fr:XR→Option Bool):PFn:=evalFn [(72,v_zsyntax_short),(73,v_zsyntax_parts),(74,(v_zsyntax_Same fs fx)),(75,(v_zslices_ContainsFunc___api_Expr_api_Expr_ fr)),(76,v_zsyntax_Exprs)] ⟨[],[]⟩ 6 Tryz.f32
theorem ok_zsyntax_Right:FOK NGs Ws 32 (v_zsyntax_Right (smsD 6000) (smD 6000) rgX):=evalFn_ok woks (allOK_cons ok_zsyntax_short (allOK_cons ok_zsyntax_parts (allOK_cons ok_zsyntax_Same (allOK_cons ok_zslices_ContainsFunc___api_Expr_api_Expr_ (allOK_cons ok_zsyntax_Exprs allOK_nil))))) Tryz.func32 rfl (by decide)
def delX (x:XR):SR:=⟨8,[116],[],false,.nil,.nil,.nil,.nil,.one x.cells,.nil,.nil,.nil,.nil,.nil,-1⟩
def selX (y x:XR):SR:=⟨9,[],[],false,.nil,.nil,.nil,.nil,.one x.cells,.one (IR.cells ⟨y,[]⟩),.one (SoR.cells ⟨[116],[]⟩),.nil,.nil,.nil,-1⟩
def tB {R:Type}(x:Option Bool)(k:Option R):Option R:=x.bind fun r=>bif r then k else none
theorem del_raw (fs:Nat→List PV→Nat→List PV→Option Bool)(fx:XR→XR→Option Bool)(fr:XR→Option Bool)(x:XR) :
  (v_zsyntax_Right fs fx fr).F [.agg (delX x).cells] (R:=PV) some=tB (fs 1 x.cells 1 x.cells) (tB (fs 0 [] 0 []) (tB (fs 0 [] 0 []) (tB (fr x) (some (.bool true))))):=by kernel_rfl
end Go.Proofs.YtkpfigikffphdaaGreatDoor
end
section
set_option maxRecDepth 100000
namespace Go.Proofs.YtkpfigikffphdaaGreatDoor
open Go.RowKit
def asBl:PV→Option Bool
 | .bool b=>some b
 |_=>none
theorem asBl_inv {v:PV}{b:Bool}(h:asBl v=some b):v=.bool b:=by
 unfold asBl at h
 split at h
 ·injection h with h;subst h;rfl
 ·cases h
noncomputable def rightS (e:SR):Option Bool:=((v_zsyntax_Right (smsD 6000) (smD 6000) rgX).F [.agg e.cells] (R:=PV) some).bind asBl
theorem ok_rightS:FOK NGs Ws 32 (tStB rightS):=fok_wk ok_zsyntax_Right (tStB_nat _) rfl fun xs r h=>by
 simp only[tStB] at h
 split at h
 ·obtain⟨e,he,h1⟩:=onSR_inv h
  obtain⟨b,hb,h2⟩:=Option.bind_eq_some_iff.1 h1
  subst he
  obtain⟨v,hv,h3⟩:=Option.bind_eq_some_iff.1 hb
  have:=asBl_inv h3
  subst this
  rw[hv]
  exact h2
 ·cases h
theorem sms0:smsD 6000 0 [] 0 []=some true:=by
 simp only[smsD,decG,Option.bind_some,mapO,List.length_nil]
 rfl
theorem sms1 {x:XR}{t:TX}(h:er 6000 x=some t):smsD 6000 1 x.cells 1 x.cells=some true:=by
 unfold smsD
 rw[kid1,Option.bind_some,Option.bind_some,cond_t (by rfl)]
 have e:mapO (er 6000) [x]=some [t]:=by simp only[mapO,h,Option.bind_some]
 rw[e,Option.bind_some,Option.bind_some,sameTs,sameTs,sameT_self]
 rfl
theorem tB_t {R:Type}{x:Option Bool}(h:x=some true)(k:Option R):tB x k=k:=by rw[h];rfl
theorem rgX_t {x:XR}{t:TX}(h:er 6000 x=some t)(hr:rightX x=true):rgX x=some true:=by rw[rgX_eq h,hr]
theorem rightS_del {x:XR}{t:TX}(h:er 6000 x=some t)(hr:rightX x=true):rightS (delX x)=some true:=by
 unfold rightS
 rw[del_raw,tB_t (sms1 h),tB_t sms0,tB_t sms0,tB_t (rgX_t h hr)]
 rfl
def tPV (r:SR×Int×Int):PV:=.tuple [.agg r.1.cells,.int .i64 r.2.1,.int .i64 r.2.2]
def tRs (f:List UInt8→Option (SR×Int×Int)):PFn:=⟨fun xs k=>match xs with|[.str s,.clo p [],.clo q []]=>if p=31 then if q=32 then (f s).bind fun r=>k (tPV r) else none else none|_=>none,false⟩
theorem tRs_nat (f:List UInt8→Option (SR×Int×Int)):(tRs f).nat:=by
 intro R xs k
 simp only[tRs]
 split
 ·simp only[iteo_bind,Option.bind_assoc,Option.bind_some]
 ·rfl
def tPs (f:List UInt8→Option (SR×Int×Int)):PFn:=⟨fun xs k=>match xs with|[.str s]=>(f s).bind fun r=>k (tPV r)|_=>none,false⟩
theorem tPs_nat (f:List UInt8→Option (SR×Int×Int)):(tPs f).nat:=by
 intro R xs k
 simp only[tPs]
 split
 ·simp only[Option.bind_assoc,Option.bind_some]
 ·rfl
def prE (e:SR)(b:Int):SR×Int×Int:=bif decide ((0:Int)≤b) then (SR.zero,b,170) else (e,0,0)
noncomputable def prR (e:SR)(s:PS):Option (SR×Int×Int):=bif decide (s.b<0) then (rightS e).bind fun ok=>bif !ok then some (prE e 0) else some (prE e s.b) else some (prE e s.b)
theorem prE_eq (e:SR)(b:Int):prEnd e b=some (tPV (prE e b)):=by
 unfold prEnd prE
 cases decide ((0:Int)≤b)<;>rfl
theorem prR_eq (e:SR)(s:PS):prTail rightS e s=(prR e s).bind fun r=>some (tPV r):=by
 unfold prTail prR
 cases decide (s.b<0) with
 |false=>rw[cond_false,cond_false,prE_eq,Option.bind_some]
 |true =>
  rw[cond_true,cond_true,Option.bind_assoc]
  congr 1
  funext ok
  cases ok
  ·exact prE_eq e 0
  ·exact prE_eq e s.b
noncomputable def stmtV (s:List UInt8):Option (SR×Int×Int):=match lexS s with
 | .inl a=>some (SR.zero,a,170)
 | .inr T=>(stmtP (PG (s.length:Int) (some T.isEmpty) 0 T)).bind fun e=>bif decide ((0:Int)<(e.2.n:Int)) then (flP e.2).bind fun s=>prR e.1 s else prR e.1 e.2
theorem ok_readS:FOK NGs Ws 30 (tRs stmtV) :=
 fokH woks (allOK_cons ok_lexD (allOK_cons ok_rightS allOK_nil)) (allH_cons ok_stmt (allH_cons (ok_fail pdeps) allH_nil)) allI_nil (h:=hh0) Tryz.func30 rfl (by decide) (tRs_nat _) fun xs r h=>by
  simp only[tRs] at h
  split at h
  ·rename_i w p q
   obtain⟨hzp,h1⟩:=ite_inv h
   subst hzp
   obtain⟨hzq,h2⟩:=ite_inv h1
   subst hzq
   obtain⟨v,hv,h3⟩:=Option.bind_eq_some_iff.1 h2
   injection h3 with h3
   subst h3
   refine⟨0,(readS_raw lexD stmtP flP rightS 0 w).trans ?_⟩
   unfold stmtV at hv
   unfold lexD
   rw[Option.bind_some]
   cases hl:lexS w with
   |inl a =>
    rw[hl] at hv
    injection hv with hv
    subst hv
    rfl
   |inr T =>
    rw[hl] at hv
    have hst:(⟨(lxRes (.inr T)).nl,(lxRes (.inr T)).n,(lxRes (.inr T)).cs,(w.length:Int),0,-1⟩:PS)=PG (w.length:Int) (some T.isEmpty) 0 T:=rfl
    rw[cond_f (by rfl),hst]
    obtain⟨e,he,hv⟩:=Option.bind_eq_some_iff.1 hv
    rw[he,Option.bind_some]
    cases hn:decide ((0:Int)<(e.2.n:Int)) with
    |false =>
     rw[hn,cond_false] at hv
     rw[cond_false,prR_eq,hv]
     rfl
    |true =>
     rw[hn,cond_true] at hv
     obtain⟨s',hs',hv⟩:=Option.bind_eq_some_iff.1 hv
     rw[cond_true,hs',Option.bind_some,prR_eq,hv]
     rfl
  ·cases h
theorem parseS_raw (f:List UInt8→Option (SR×Int×Int))(fu:Nat)(s:List UInt8):prun (enH [(30,tRs f)] [] []) hh0 fu false Tryz.f13 [.str s]=(f s).bind fun r=>some (tPV r):=by kernel_rfl
theorem ok_parse:FOK NGs Ws 13 (tPs stmtV) :=
 fokH woks (allOK_cons ok_readS allOK_nil) allH_nil allI_nil (h:=hh0) Tryz.func13 rfl (by decide) (tPs_nat _) fun xs r h=>by
  simp only[tPs] at h
  split at h
  ·exact⟨0,(parseS_raw _ 0 _).trans h⟩
  ·cases h
def fiT1:List UInt8:=[83,69,76,69,67,84,32,97,32,70,82,79,77,32,116,32,87,72,69,82,69,32,97,32,43,32,49,32,62,32,50,32,65,78,68,32,98,32,73,83,32,78,85,76,76]
def fiT2:List UInt8:=[83,69,76,69,67,84,32,97,32,70,82,79,77,32,116,32,87,72,69,82,69]
def fiT3:List UInt8:=[49,32,43,32,50,32,42,32,51]
def fiY:XR:=colX 7 [] [97]
def fiX:XR:=binX 32 [65,78,68] (binX 28 [62] (binX 24 [43] (colX 22 [] [97]) (litX 26 2 1 0 [])) (litX 30 2 2 0 [])) (nullX 38 false (colX 36 [] [98]))
def fiZ:XR:=binX 2 [43] (litX 0 2 1 0 []) (binX 6 [42] (litX 4 2 2 0 []) (litX 8 2 3 0 []))
theorem fi_lex3:exprV fiT3=.inr fiZ:=by kernel_rfl
theorem fi_2:stmtV fiT2=some (SR.zero,21,170):=by kernel_rfl
theorem fi_1:stmtV fiT1=some (selX fiY fiX,0,0):=by kernel_rfl
def fpC (s:List UInt8):Option (SR×Int×Int):=bif s==fiT1 then some (selX fiY fiX,0,0) else bif s==fiT2 then some (SR.zero,21,170) else none
def feC (s:List UInt8):Option (XR×Int×Int):=bif s==fiT3 then some (fiZ,0,0) else none
theorem ok_parseC:FOK NGs Ws 13 (tPs fpC):=fok_wk ok_parse (tPs_nat _) rfl fun xs r h=>by
 simp only[tPs] at h
 split at h
 ·rename_i s
  obtain⟨v,hv,h⟩:=Option.bind_eq_some_iff.1 h
  have e:stmtV s=some v:=by
   unfold fpC at hv
   cases h1:s==fiT1 with
   |true=>rw[h1,cond_true] at hv;rw[eq_of_beq h1,fi_1];exact hv
   |false =>
    rw[h1,cond_false] at hv
    obtain⟨h2,hv⟩:=bif_inv hv
    rw[eq_of_beq h2,fi_2]
    exact hv
  show (stmtV s).bind _=_
  rw[e]
  exact h
 ·cases h
theorem ok_pEC:FOK NGs Ws 9 (tPx feC):=fok_wk ok_pE (tPx_nat _) rfl fun xs r h=>by
 simp only[tPx] at h
 split at h
 ·rename_i s
  obtain⟨v,hv,h⟩:=Option.bind_eq_some_iff.1 h
  unfold feC at hv
  obtain⟨h2,hv⟩:=bif_inv hv
  have e:pxD s=some v:=by
   unfold pxD
   rw[eq_of_beq h2,fi_lex3]
   exact hv
  have e2:(tPx pxD).F [.str s] (R:=PV) some=(pxD s).bind fun r=>some (.tuple [.agg r.1.cells,.int .i64 r.2.1,.int .i64 r.2.2]):=rfl
  rw[e2,e]
  exact h
 ·cases h
noncomputable def v_first19:PFn:=evalFn [(13,tPs fpC),(9,tPx feC)] ⟨[],[]⟩ 0 Tryz.f8
theorem first19_true:v_first19.F [] (R:=PV) some=some (.bool true):=by kernel_rfl
def p_trueF:PFn:=⟨fun xs k=>match xs with|[]=>k (.bool true)|_=>none,false⟩
theorem ok_first19:FOK NGs Ws 8 p_trueF :=
 fok_wk (evalFn_ok woks (allOK_cons ok_parseC (allOK_cons ok_pEC allOK_nil)) (h:=⟨[],[]⟩) (fuel:=0) Tryz.func8 rfl (by decide)) (by
  intro R xs k
  simp only[p_trueF]
  split<;>rfl) rfl fun xs r h=>by
  simp only[p_trueF] at h
  split at h
  ·exact first19_true.trans h
  ·cases h
theorem exprV_has {s:List UInt8}{x:XR}(h:exprV s=.inr x):rightX x=true∧∃ t,er 6000 x=some t:=by
 unfold exprV at h
 cases hl:lexS s with
 |inl a=>rw[hl] at h;cases h
 |inr T =>
  rw[hl] at h
  obtain⟨hT,hs,hn⟩:=lexS_ok hl
  have h:exprT (s.length:Int) T=.inr x:=h
  unfold exprT at h
  cases hx:exprG (s.length:Int) (gfs (s.length:Int) 20) T with
  |bad a=>rw[hx] at h;cases h
  |ok y R =>
   rw[hx] at h
   cases R with
   |cons t R=>cases h
   |nil =>
    dsimp only at h
    cases hr:rightX y with
    |false=>rw[hr] at h;cases h
    |true =>
     rw[hr] at h
     injection h with h
     subst h
     exact⟨hr,expr_has hs hn hx⟩
end Go.Proofs.YtkpfigikffphdaaGreatDoor
end
section
set_option maxRecDepth 100000
namespace Go.Proofs.YtkpfigikffphdaaGreatDoor
open Go.ChangeShapes Go.WideShapes Go.ChangeAt Go.RowKit
theorem trodAll_below {H:Type}{enc:TypeId×Value→H}{P:Program}(hl:laidOutB P=true){W W':World}(hb:Below W.heap.size W W'):∀ {ts:List TypeId} {vs:List Value} {ds:List (DataW H)} {ps:List MemPlace},
  (∀ t∈ts,P.readableRec t=true∧t<P.types.size)→DataW.TrodAll enc P W 0 (fun _=>true) true ts vs ds ps→(∀ x∈ps,x.block<W.heap.size)→DataW.TrodAll enc P W' 0 (fun b=>decide (b<W.heap.size)) true ts vs ds ps
 |[],vs,ds,ps,_,h,_=>by
  cases vs<;>cases ds<;>simp_all [DataW.TrodAll]
 |t::ts,vs,ds,ps,ht,h,hlt=>by
  obtain⟨v,vs',d,ds',p,q,rfl,rfl,rfl,h0,h1⟩:=trodAll_cons h
  exact trodAll_cons_mk (Below.trod hl (ht t (by simp)).1 (ht t (by simp)).2 h0 hb (fun x hx=>hlt x (by simp[hx])))
   (trodAll_below hl hb (fun t' ht'=>ht t' (by simp[ht'])) h1 (fun x hx=>hlt x (by simp[hx])))
theorem law_post {H:Type}{enc:TypeId×Value→H}{P:Program}{f:Func}{s:ChangeSpec}{W W':World}{args:Array Value}{ds gs:List (DataW H)}{before:List MemPlace}{tb:TypeId}
  (hl:laidOutB P=true) (ht:∀ t∈f.params.toList,P.readableRec t=true∧t<P.types.size) (htb:P.underlying tb=some .bool) (hf:f.resultTypes=#[tb])
  (hW:DataW.Whole enc P f.params.toList s.vars false W args.toList ds gs before) (hv:s.vars=[])
  (hr:(s.fn H (ds++gs)).results=[.lit (.bool true)]) (ha:(s.fn H (ds++gs)).args=ds) (hvs:(s.fn H (ds++gs)).vars=[]) (hb:Below W.heap.size W W') :
  s.post enc P f false true false false W args (.bool true) W':=by
 have hlt:=hW.lt
 have hW2:=hW
 obtain⟨p,q,hA,hV,rfl,_,_⟩:=hW
 rw[hv] at hV
 obtain⟨rfl,rfl⟩:=trodVars_none hV
 refine⟨ds,[],p++[],[],p,[],hW2,?_,?_,?_,hb.frame _,fun h=>by cases h⟩
 ·rw[hr,hf]
  exact trodAll_cons_mk (shut_bool htb _) trodAll_mk0
 ·rw[ha]
  exact trodAll_below hl hb ht hA (fun x hx=>hlt x (by simp[hx]))
 ·rw[hv,hvs]
  rfl
abbrev laidList:List (String×DataW Unit):=[("math/bits.deBruijn32tab", Rows.laid_math_bits_deBruijn32tab),("math/bits.deBruijn64tab", Rows.laid_math_bits_deBruijn64tab),("internal/strconv.uint64pow10", Rows.laid_internal_strconv_uint64pow10),("unicode/utf8.acceptRanges", Rows.laid_unicode_utf8_acceptRanges),("strconv.ErrRange", Rows.laid_strconv_ErrRange),("strconv.ErrSyntax", Rows.laid_strconv_ErrSyntax),("unicode.White_Space", Rows.laid_unicode_White_Space),("strings.asciiSpace", Rows.laid_strings_asciiSpace),("unicode/utf8.first", Rows.laid_unicode_utf8_first)]
theorem wd_of_laid {W:World}(h:laidMetH Tryz.prog laidList W):Wd W:=by
 have h':laidMet Tryz.prog laidList W:=h
 obtain⟨g,t,cs,fuel,p,hg,hty,hvar,hd⟩:=Lib.laidMet.reads (n := "internal/strconv.uint64pow10") (d:=Rows.laid_internal_strconv_uint64pow10) h' (by unfold laidList;exact List.mem_cons_of_mem _ (List.mem_cons_of_mem _ (List.mem_cons_self ..)))
 have e:(Rows.laid_internal_strconv_uint64pow10:DataW Unit)=Lib.tabData .u64 Lib.pow10Tab:=by kernel_rfl
 rw[e] at hd
 obtain rfl:3=g:=Option.some.inj (gPow.symm.trans hg)
 obtain rfl:t=257:=Option.some.inj (hty.symm.trans (show (Tryz.prog.globals[3]?).map (·.type)=some 257 by kernel_rfl))
 have hcs:=Lib.cells_of_tab (e:=39) (n:=20) (by kernel_rfl) (by kernel_rfl) (by kernel_rfl) (by kernel_rfl) hd
 unfold Wd Lib.TabIs
 rw[hvar,← hcs]
theorem star : "*" ++ "errors.errorString" = "*errors.errorString" := by decide
theorem row_err (u:TypeId)(h:Tryz.prog.typeName? 3 u=some "*errors.errorString"):u=307 :=
 typeName_ptr_named (nm := "errors.errorString") (by rw[star];kernel_rfl) (by kernel_rfl) (by decide) u (by rw[star];exact h)
theorem gRangeT:(Tryz.prog.globals[9]?).map (·.type)=some 195:=by kernel_rfl
theorem gSyntaxT:(Tryz.prog.globals[8]?).map (·.type)=some 195:=by kernel_rfl
theorem we_of_laid {W:World}(h:laidMetH Tryz.prog laidList W):We W:=by
 have h':laidMet Tryz.prog laidList W:=h
 have h3:=h'.tail.tail.tail.tail
 refine⟨wd_of_laid h,?_,?_⟩
 ·obtain⟨a,s,hv,_⟩:=laid_sentinel h3.tail gSyntax gSyntaxT Tryz.underlying195 row_err Tryz.underlying307 Tryz.underlying309 rfl rfl Tryz.underlying9 (by kernel_rfl) (by kernel_rfl)
  exact⟨_,_,hv⟩
 ·obtain⟨a,s,hv,_⟩:=laid_sentinel h3 gRange gRangeT Tryz.underlying195 row_err Tryz.underlying307 Tryz.underlying309 rfl rfl Tryz.underlying9 (by kernel_rfl) (by kernel_rfl)
  exact⟨_,_,hv⟩
theorem tabs_of_laid {W:World}(h:laidMetH Tryz.prog laidList W):Tabs W:=by
 have h':laidMet Tryz.prog laidList W:=h
 have e1:Lib.firstData=Rows.laid_unicode_utf8_first:=by kernel_rfl
 have e2:Lib.acceptData=Rows.laid_unicode_utf8_acceptRanges:=by kernel_rfl
 exact tabs_of_reads (Lib.laidMet.reads (n := "unicode/utf8.first") (d:=Lib.firstData) h' (by rw[e1];unfold laidList;exact (List.mem_cons_of_mem _ (List.mem_cons_of_mem _ (List.mem_cons_of_mem _ (List.mem_cons_of_mem _ (List.mem_cons_of_mem _ (List.mem_cons_of_mem _ (List.mem_cons_of_mem _ (List.mem_cons_of_mem _ (List.mem_cons_self ..)))))))))))
  (Lib.laidMet.reads (n := "unicode/utf8.acceptRanges") (d:=Lib.acceptData) h' (by rw[e2];unfold laidList;exact (List.mem_cons_of_mem _ (List.mem_cons_of_mem _ (List.mem_cons_of_mem _ (List.mem_cons_self ..))))))
theorem spc_of_laid {W:World}(h:laidMetH Tryz.prog laidList W):HasSpc W:=by
 have h':laidMet Tryz.prog laidList W:=h
 obtain⟨g,t,cs,fuel,p,hg,hty,hvar,hd⟩:=Lib.laidMet.reads (n := "strings.asciiSpace") (d:=Rows.laid_strings_asciiSpace) h' (by unfold laidList;exact (List.mem_cons_of_mem _ (List.mem_cons_of_mem _ (List.mem_cons_of_mem _ (List.mem_cons_of_mem _ (List.mem_cons_of_mem _ (List.mem_cons_of_mem _ (List.mem_cons_of_mem _ (List.mem_cons_self ..)))))))))
 have e:(Rows.laid_strings_asciiSpace:DataW Unit)=Lib.tabData .u8 Lib.asciiSpaceTab:=by kernel_rfl
 rw[e] at hd
 obtain rfl:0=g:=Option.some.inj ((show Tryz.prog.globalNamed "strings.asciiSpace" = some 0 by kernel_rfl).symm.trans hg)
 obtain rfl:t=230:=Option.some.inj (hty.symm.trans (show (Tryz.prog.globals[0]?).map (·.type)=some 230 by kernel_rfl))
 have hcs:=Lib.cells_of_tab (e:=5) (n:=256) (by kernel_rfl) (by kernel_rfl) (by kernel_rfl) (by kernel_rfl) hd
 unfold HasSpc Lib.TabIs
 rw[hvar,← hcs]
theorem max_of_shape {W:World}(h:W.ShapedOpen Tryz.prog):HasMax W :=
 cell_of_shapedOpen_int (P:=Tryz.prog) (g:=2) (t:=3) (zero:=#[.int .i64 0]) h (of_decide_eq_true (by kernel_rfl)) (by kernel_rfl) rfl (by kernel_rfl) (by kernel_rfl) Tryz.underlying3
theorem ws_of_laid {W:World}(h:laidMetH Tryz.prog laidList W)(hs:W.ShapedOpen Tryz.prog):Ws W:=⟨⟨we_of_laid h,tabs_of_laid h⟩,max_of_shape hs,spc_of_laid h⟩
theorem ws_size {w:World}(h:Ws w):NGs≤w.heap.size:=by
 have h1:NGc≤w.heap.size:=by
  have h1:=we_size h.1.1
  have h2:=tabs_size h.1.2
  unfold NGc
  omega
 have h2:2<w.heap.size:=by
  obtain⟨m,hm⟩:=h.2.1
  unfold World.cell? at hm
  rcases e:w.heap[2]? with _|o
  ·simp[e] at hm
  ·exact (Array.getElem?_eq_some_iff.1 e).1
 have h3:0<w.heap.size:=by
  have:=h.2.2
  unfold HasSpc Lib.TabIs World.var? at this
  rw[show Tryz.prog.globalNamed "strings.asciiSpace" = some 0 by kernel_rfl,Option.bind_some] at this
  rcases e:w.heap[0]? with _|o
  ·rw[e] at this;cases this
  ·exact (Array.getElem?_eq_some_iff.1 e).1
 unfold NGs
 omega
theorem own:ownKnob Tryz.prog.godebug=none:=by kernel_rfl
def holdCells (cs:Array Value):Obj→Obj
 | .cells _ t frozen=>.cells cs t frozen
 |o=>o
def cellsOfData:DataW Unit→Array Value
 | .agg l=>(l.filterMap fun|.lit (.int k z)=>some (Value.int k z)|_=>none).toArray
 |_=>#[]
def errText:DataW Unit→List UInt8
 | .iface _ (.ptr (.agg [.lit (.string s)]))=>s
 |_=>[]
def errCells (b:Nat):Array Value:=#[.iface 307 (.pointer (some ⟨b,0,none⟩))]
def firstCells:Array Value:=(Lib.firstTab.map (Value.int .u8)).toArray
def acceptCells:Array Value:=((List.range 16).flatMap fun i=>[Value.int .u8 (Lib.accLo i),Value.int .u8 (Lib.accHi i)]).toArray
def intCells:DataW Unit→List Value
 | .agg l=>l.filterMap fun|.lit (.int k z)=>some (Value.int k z)|_=>none
 |_=>[]
def whiteCells:DataW Unit→Array Value
 | .ptr (.agg (.slice l _::_))=>(l.flatMap intCells).toArray
 |_=>#[]
noncomputable def laidHeap (h:Array Obj):Array Obj :=
 (((((((((h.modify 6 (holdCells (cellsOfData Rows.laid_math_bits_deBruijn32tab))).modify 7 (holdCells (cellsOfData Rows.laid_math_bits_deBruijn64tab))).modify
  3 (holdCells (cellsOfData Rows.laid_internal_strconv_uint64pow10))).modify 9 (holdCells (errCells h.size))).modify 8 (holdCells (errCells (h.size+1)))).modify 4 (holdCells firstCells)).modify 5 (holdCells acceptCells)).modify 0 (holdCells (cellsOfData Rows.laid_strings_asciiSpace))).modify 1 (holdCells #[.pointer (some ⟨h.size+3,0,none⟩)])) ++
  #[.cells #[.string ⟨(errText Rows.laid_strconv_ErrRange).toArray⟩] 309,.cells #[.string ⟨(errText Rows.laid_strconv_ErrSyntax).toArray⟩] 309,.cells (whiteCells Rows.laid_unicode_White_Space) 274,.cells #[.slice (some ⟨h.size+2,0,none⟩) 7 7,.slice none 0 0,.int .i64 2] 271]
noncomputable def laidWorld (os:Os):World :=
 {World.holding Tryz.prog os ⟨#[],#[],[]⟩ with heap:=laidHeap (World.holding Tryz.prog os ⟨#[],#[],[]⟩).heap }
theorem laidWorld_met (os:Os)(args:Array Value):laidMet Tryz.prog laidList ((laidWorld os).forCall (fun _ _=>0) ⟨#[],args,[]⟩).memory :=
 laidMet_of_run3 10 (by kernel_rfl) (by kernel_rfl) (by kernel_rfl)
end Go.Proofs.YtkpfigikffphdaaGreatDoor
end
section
set_option maxRecDepth 100000
namespace Go.Proofs.YtkpfigikffphdaaGreatDoor
open Go.RowKit
def lenA {R:Type}(a b:List UInt8)(k:List UInt8→Option R):Option R:=bif decide (a.length+b.length≤9223372036854775807) then k (a++b) else none
section
variable (fe:List UInt8→Option (XR × Int × Int)) (fy:List UInt8→Option (XR × Int × Bool)) (fx:XR→XR→Bool→Option Bool)
end
end Go.Proofs.YtkpfigikffphdaaGreatDoor
end
